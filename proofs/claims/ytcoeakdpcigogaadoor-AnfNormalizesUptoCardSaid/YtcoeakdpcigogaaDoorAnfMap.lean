/-
  A map from strings to parameters that the call itself has made.
  The map's operations in a region that draws its order.
  A map from strings to values of any one type that the call itself has made.
-/
import Derived.Test.YtcoeakdpcigogaaDoorAnfMem
import Derived.Test.YtcoeakdpcigogaaDoorFunBase
import Derived.Deep.RegionLaw
namespace Go.Proofs.YtcoeakdpcigogaaDoor
open Go.ChangeShapes Go.WideShapes Go.ChangeAt Go.RowKit Go.Sort Go.Maps

def zP : Value := .agg #[.string ⟨#[]⟩, .bool false]
def pV (p : Pm) : Value := .agg #[.string p.name, .bool p.list]
theorem zeroPm (w : World) : (zeroValue 65).run Tryd.prog w = .ok zP w := by kernel_rfl
def heldP (v : Value) : Option (DataW Value × List MemPlace) := some (.held v, [])
/-- Block b is such a map: it has at most n entries, and answers as env says. -/
def MapP (w : World) (b n : Nat) (env : ByteArray → Option Pm) : Prop :=
  ∃ D : DataW Value, w.ownsMap Tryd.prog 9 heldP b n D ∧ ∀ s : ByteArray, Maps.has D (klit s) = (env s).isSome ∧ D.atKey (klit s) (.held zP) = .held (((env s).map pV).getD zP)
theorem MapP.lt {w : World} {b n : Nat} {env : ByteArray → Option Pm} (h : MapP w b n env) : b < w.heap.size := by
  obtain ⟨D, h1, _⟩ := h; exact h1.lt
theorem MapP.fr {w w' : World} {b n : Nat} {env : ByteArray → Option Pm} (h : MapP w b n env) {m : Nat → Prop} (hf : Fr w w' m) (hn : ¬ m b) : MapP w' b n env := by
  have hl := h.lt
  obtain ⟨D, ⟨es, c, h1, h2⟩, h3⟩ := h
  exact ⟨D, ⟨es, c, by rw [hf.block b hl hn]; exact h1, h2⟩, h3⟩
theorem MapP.below {w w' : World} {b n : Nat} {env : ByteArray → Option Pm} (h : MapP w b n env) (hb : Below w.heap.size w w') : MapP w' b n env := h.fr (Fr.of_below hb fun _ => False) id
theorem mapP_made (w : World) : MapP (w.alloc (.map #[] 0)) w.heap.size 0 (fun _ => none) :=
  ⟨.map [], World.ownsMap_made w _ _ _, fun _ => ⟨rfl, rfl⟩⟩
theorem mapP_put {w : World} {b n : Nat} {env : ByteArray → Option Pm} {t : TypeId} (ht : Tryd.prog.underlying t = some (.map 9 65)) (h : MapP w b n env) (hn : n < maxLen) (s : ByteArray) (hs : s.size ≤ maxLen) (p : Pm) :
    ∃ w', (Instr.mapUpdate t (.map (some b)) (.string s) (pV p)).run Tryd.prog w = .ok () w' ∧ MapP w' b (n + 1) (setP env s (some p)) ∧ w.mapTurned w' b := by
  obtain ⟨D, h1, h3⟩ := h
  obtain ⟨w', hrun, r1, r2⟩ := h1.store strKeyed ht hn (WideMaps.keyOf_string_mk Tryd.underlying9 hs) (show heldP (pV p) = some (.held (pV p), []) from rfl)
  refine ⟨w', hrun, ⟨_, r1, fun u => ?_⟩, r2⟩
  unfold setP
  by_cases e : u = s
  · subst e
    rw [if_pos rfl]
    exact ⟨Maps.has_put_same h1.isMap (klit_key u) _, Maps.atKey_put_same h1.isMap (klit_key u) _ _⟩
  · rw [if_neg e]
    exact ⟨by rw [← (h3 u).1]; exact Maps.has_put_other (klit_ne e) _, by rw [← (h3 u).2]; exact Maps.atKey_put_other (klit_ne e) _ _⟩
theorem mapP_look {w : World} {b n : Nat} {env : ByteArray → Option Pm} {t : TypeId} (ht : Tryd.prog.underlying t = some (.map 9 65)) (h : MapP w b n env) (s : ByteArray) (hs : s.size ≤ maxLen) :
    (Instr.lookup t (.map (some b)) (.string s) false).run Tryd.prog w = .ok (((env s).map pV).getD zP) w := by
  obtain ⟨D, h1, h3⟩ := h
  obtain ⟨v, ps, hrun, hv⟩ := h1.lookup strKeyed ht (zeroPm w) (show heldP zP = some (.held zP, []) from rfl) (WideMaps.keyOf_string_mk Tryd.underlying9 hs)
  have he := (h3 s).2
  unfold klit at he
  rw [he] at hv
  unfold heldP at hv
  simp at hv
  rw [hrun, hv.1]

section
variable (w : World) {ops : Array Oper} {rest : List Oper} {o : Oper} {a : Act} {Q : Exit → Act → World → Prop}
theorem wpList_put_P (hg : o.guard = none) (m x v : Operand) (t : TypeId) (hop : o.op = Op.mapUpdate t m x v ∨ o.op = Op.insert t m x v) (ht : Tryd.prog.underlying t = some (.map 9 65)) (b n : Nat) (env : ByteArray → Option Pm)
    (hm : a.eval m = .map (some b)) (h : MapP w b n env) (hn : n < maxLen) (s : ByteArray) (p : Pm) (hx : a.eval x = .string s) (hv : a.eval v = pV p) (hs : s.size ≤ maxLen)
    (hK : ∀ w', MapP w' b (n + 1) (setP env s (some p)) → w.mapTurned w' b → wpList Tryd.prog ops Q rest (a.put o.dst undef) w') :
    wpList Tryd.prog ops Q (o :: rest) a w := by
  refine wpList_plain hg fun K' hK' => ?_
  obtain ⟨w', hrun, r1, r2⟩ := mapP_put ht h hn s hs p
  unfold Oper.wp
  rcases hop with hop | hop
  all_goals
    simp [execOp, hop, hm, hx, hv, hrun, Result.andThen]
    exact hK' _ _ (hK w' r1 r2)
theorem wpList_look_P (hg : o.guard = none) (m x : Operand) (t : TypeId) (hop : o.op = Op.lookup t m x false) (ht : Tryd.prog.underlying t = some (.map 9 65)) (b n : Nat) (env : ByteArray → Option Pm)
    (hm : a.eval m = .map (some b)) (h : MapP w b n env) (s : ByteArray) (hx : a.eval x = .string s) (hs : s.size ≤ maxLen)
    (hK : wpList Tryd.prog ops Q rest (a.put o.dst (((env s).map pV).getD zP)) w) :
    wpList Tryd.prog ops Q (o :: rest) a w := by
  refine wpList_plain hg fun K' hK' => ?_
  unfold Oper.wp
  simp [execOp, hop, hm, hx, mapP_look ht h s hs, Result.andThen]
  exact hK' _ _ hK
theorem wpList_del_P (hg : o.guard = none) (m x : Operand) (t : TypeId) (hop : o.op = Op.call { callee := Callee.builtin Builtin.delete, args := #[m, x], argTypes := #[t, 9] }) (ht : Tryd.prog.underlying t = some (.map 9 65)) (b n : Nat) (env : ByteArray → Option Pm)
    (hm : a.eval m = .map (some b)) (h : MapP w b n env) (s : ByteArray) (hx : a.eval x = .string s) (hs : s.size ≤ maxLen)
    (hK : ∀ w', MapP w' b n (setP env s none) → w.mapTurned w' b → wpList Tryd.prog ops Q rest (a.put o.dst (.tuple #[])) w') :
    wpList Tryd.prog ops Q (o :: rest) a w := by
  refine wpList_plain hg fun K' hK' => ?_
  obtain ⟨D, h1, h3⟩ := h
  obtain ⟨w', hrun, r1, r2⟩ := h1.drop strKeyed ht (WideMaps.keyOf_string_mk Tryd.underlying9 hs) o.type
  have hM : MapP w' b n (setP env s none) := by
    refine ⟨_, r1, fun u => ?_⟩
    unfold setP
    by_cases e : u = s
    · subst e
      rw [if_pos rfl]
      exact ⟨Maps.has_del_same, Maps.atKey_del_same _⟩
    · rw [if_neg e]
      exact ⟨by rw [← (h3 u).1]; exact Maps.has_del_other (klit_ne e), by rw [← (h3 u).2]; exact Maps.atKey_del_other (klit_ne e) _⟩
  unfold Oper.wp
  simp [execOp, hop, resolve, invoke, builtin, hm, hx, hrun, Result.andThen]
  exact hK' _ _ (hK w' hM r2)
end

end Go.Proofs.YtcoeakdpcigogaaDoor

namespace Go.Proofs.YtcoeakdpcigogaaDoor
open Go.ChangeShapes Go.WideShapes Go.ChangeAt Go.RowKit Go.Sort Go.Maps

section
variable {w : World} {ops : Array Oper} {o : Oper} {a : Act} {K : Act → World → Prop} {Q : Exit → Act → World → Prop} {E : Prop}
theorem step_look_P (hgd : o.guard = none) (m x : Operand) (t : TypeId) (hop : o.op = Op.lookup t m x false) (ht : Tryd.prog.underlying t = some (.map 9 65)) (b n : Nat) (env : ByteArray → Option Pm)
    (hm : a.eval m = .map (some b)) (h : MapP w b n env) (s : ByteArray) (hx : a.eval x = .string s) (hs : s.size ≤ maxLen)
    (hK : K (a.put o.dst (((env s).map pV).getD zP)) w) :
    if Region.wanted o (yielded ops a.tmps) = true then Oper.wp Tryd.prog o a w K Q else E := by
  have hw : Region.wanted o (yielded ops a.tmps) = true := by simp [Region.wanted, hgd]
  rw [if_pos hw]
  unfold Oper.wp
  simp [execOp, hop, hm, hx, mapP_look ht h s hs, Result.andThen]
  exact hK
theorem step_put_P (hgd : o.guard = none) (m x v : Operand) (t : TypeId) (hop : o.op = Op.mapUpdate t m x v ∨ o.op = Op.insert t m x v) (ht : Tryd.prog.underlying t = some (.map 9 65)) (b n : Nat) (env : ByteArray → Option Pm)
    (hm : a.eval m = .map (some b)) (h : MapP w b n env) (hn : n < maxLen) (s : ByteArray) (p : Pm) (hx : a.eval x = .string s) (hv : a.eval v = pV p) (hs : s.size ≤ maxLen)
    (hK : ∀ w', MapP w' b (n + 1) (setP env s (some p)) → w.mapTurned w' b → K (a.put o.dst undef) w') :
    if Region.wanted o (yielded ops a.tmps) = true then Oper.wp Tryd.prog o a w K Q else E := by
  have hw : Region.wanted o (yielded ops a.tmps) = true := by simp [Region.wanted, hgd]
  rw [if_pos hw]
  obtain ⟨w', hrun, r1, r2⟩ := mapP_put ht h hn s hs p
  unfold Oper.wp
  rcases hop with hop | hop
  all_goals
    simp [execOp, hop, hm, hx, hv, hrun, Result.andThen]
    exact hK w' r1 r2
theorem step_del_P (hgd : o.guard = none) (m x : Operand) (t : TypeId) (hop : o.op = Op.call { callee := Callee.builtin Builtin.delete, args := #[m, x], argTypes := #[t, 9] }) (ht : Tryd.prog.underlying t = some (.map 9 65)) (b n : Nat) (env : ByteArray → Option Pm)
    (hm : a.eval m = .map (some b)) (h : MapP w b n env) (s : ByteArray) (hx : a.eval x = .string s) (hs : s.size ≤ maxLen)
    (hK : ∀ w', MapP w' b n (setP env s none) → w.mapTurned w' b → K (a.put o.dst (.tuple #[])) w') :
    if Region.wanted o (yielded ops a.tmps) = true then Oper.wp Tryd.prog o a w K Q else E := by
  have hw : Region.wanted o (yielded ops a.tmps) = true := by simp [Region.wanted, hgd]
  rw [if_pos hw]
  obtain ⟨D, h1, h3⟩ := h
  obtain ⟨w', hrun, r1, r2⟩ := h1.drop strKeyed ht (WideMaps.keyOf_string_mk Tryd.underlying9 hs) o.type
  have hM : MapP w' b n (setP env s none) := by
    refine ⟨_, r1, fun u => ?_⟩
    unfold setP
    by_cases e : u = s
    · subst e
      rw [if_pos rfl]
      exact ⟨Maps.has_del_same, Maps.atKey_del_same _⟩
    · rw [if_neg e]
      exact ⟨by rw [← (h3 u).1]; exact Maps.has_del_other (klit_ne e), by rw [← (h3 u).2]; exact Maps.atKey_del_other (klit_ne e) _⟩
  unfold Oper.wp
  simp [execOp, hop, resolve, invoke, builtin, hm, hx, hrun, Result.andThen]
  exact hK w' hM r2
end

end Go.Proofs.YtcoeakdpcigogaaDoor

namespace Go.Proofs.YtcoeakdpcigogaaDoor
open Go.ChangeShapes Go.WideShapes Go.ChangeAt Go.RowKit Go.Sort Go.Maps

def setG (env : ByteArray → Option Value) (s : ByteArray) (v : Option Value) : ByteArray → Option Value := fun t => if t = s then v else env t
/-- Block b is such a map: at most n stores, sz entries, z where there is none. -/
def MapG (z : Value) (w : World) (b n sz : Nat) (env : ByteArray → Option Value) : Prop :=
  ∃ D : DataW Value, w.ownsMap Tryd.prog 9 heldP b n D ∧ Maps.size D = sz ∧ ∀ s : ByteArray, Maps.has D (klit s) = (env s).isSome ∧ D.atKey (klit s) (.held z) = .held ((env s).getD z)
theorem heldP_mk (v : Value) : heldP v = some (.held v, []) := rfl
variable {z : Value} {w w' : World} {b n sz : Nat} {env env' : ByteArray → Option Value}
theorem MapG.lt (h : MapG z w b n sz env) : b < w.heap.size := by
  obtain ⟨D, h1, _⟩ := h; exact h1.lt
theorem MapG.fr (h : MapG z w b n sz env) {m : Nat → Prop} (hf : Fr w w' m) (hn : ¬ m b) : MapG z w' b n sz env := by
  have hl := h.lt
  obtain ⟨D, ⟨es, c, h1, h2⟩, h3⟩ := h
  exact ⟨D, ⟨es, c, by rw [hf.block b hl hn]; exact h1, h2⟩, h3⟩
theorem MapG.below (h : MapG z w b n sz env) (hb : Below w.heap.size w w') : MapG z w' b n sz env := h.fr (Fr.of_below hb fun _ => False) id
theorem MapG.congr (h : MapG z w b n sz env) (he : ∀ s, env s = env' s) : MapG z w b n sz env' := by
  have : env = env' := funext he
  rw [← this]; exact h
theorem mapG_made (z : Value) (w : World) : MapG z (w.alloc (.map #[] 0)) w.heap.size 0 0 (fun _ => none) :=
  ⟨.map [], World.ownsMap_made w _ _ _, rfl, fun _ => ⟨rfl, rfl⟩⟩
theorem mapG_put {t E : TypeId} (ht : Tryd.prog.underlying t = some (.map 9 E)) (h : MapG z w b n sz env) (hn : n < maxLen) (s : ByteArray) (hs : s.size ≤ maxLen) (v : Value) :
    ∃ w', (Instr.mapUpdate t (.map (some b)) (.string s) v).run Tryd.prog w = .ok () w' ∧ MapG z w' b (n + 1) (if (env s).isSome = true then sz else sz + 1) (setG env s (some v)) ∧ w.mapTurned w' b := by
  obtain ⟨D, h1, h2, h3⟩ := h
  obtain ⟨w', hrun, r1, r2⟩ := h1.store strKeyed ht hn (WideMaps.keyOf_string_mk Tryd.underlying9 hs) (heldP_mk v)
  refine ⟨w', hrun, ⟨_, r1, ?_, fun u => ?_⟩, r2⟩
  · rw [Maps.size_put (h1.tidy strKeyed), h2]
    have := (h3 s).1
    unfold klit at this
    rw [this]
  · unfold setG
    by_cases e : u = s
    · subst e
      rw [if_pos rfl]
      exact ⟨Maps.has_put_same h1.isMap (klit_key u) _, Maps.atKey_put_same h1.isMap (klit_key u) _ _⟩
    · rw [if_neg e]
      exact ⟨by rw [← (h3 u).1]; exact Maps.has_put_other (klit_ne e) _, by rw [← (h3 u).2]; exact Maps.atKey_put_other (klit_ne e) _ _⟩
theorem mapG_look {t E : TypeId} (ht : Tryd.prog.underlying t = some (.map 9 E)) (hz : ∀ w, (zeroValue E).run Tryd.prog w = .ok z w) (h : MapG z w b n sz env) (s : ByteArray) (hs : s.size ≤ maxLen) :
    (Instr.lookup t (.map (some b)) (.string s) false).run Tryd.prog w = .ok ((env s).getD z) w := by
  obtain ⟨D, h1, _, h3⟩ := h
  obtain ⟨v, ps, hrun, hv⟩ := h1.lookup strKeyed ht (hz w) (heldP_mk z) (WideMaps.keyOf_string_mk Tryd.underlying9 hs)
  have he := (h3 s).2
  unfold klit at he
  rw [he] at hv
  unfold heldP at hv
  simp at hv
  rw [hrun, hv.1]
theorem mapG_look_ok {t E : TypeId} (ht : Tryd.prog.underlying t = some (.map 9 E)) (hz : ∀ w, (zeroValue E).run Tryd.prog w = .ok z w) (h : MapG z w b n sz env) (s : ByteArray) (hs : s.size ≤ maxLen) :
    (Instr.lookup t (.map (some b)) (.string s) true).run Tryd.prog w = .ok (.tuple #[(env s).getD z, .bool (env s).isSome]) w := by
  obtain ⟨D, h1, _, h3⟩ := h
  obtain ⟨v, ps, hrun, hv⟩ := h1.look_ok strKeyed ht (hz w) (heldP_mk z) (WideMaps.keyOf_string_mk Tryd.underlying9 hs)
  have he := (h3 s).2
  have hh := (h3 s).1
  unfold klit at he hh
  rw [he] at hv
  unfold heldP at hv
  simp at hv
  rw [hrun, hv.1, hh]
section
variable (w : World) {ops : Array Oper} {rest : List Oper} {o : Oper} {a : Act} {Q : Exit → Act → World → Prop}
theorem wpList_put_G (hg : o.guard = none) (m x v : Operand) (t E : TypeId) (hop : o.op = Op.mapUpdate t m x v ∨ o.op = Op.insert t m x v) (ht : Tryd.prog.underlying t = some (.map 9 E)) (b n sz : Nat) (env : ByteArray → Option Value)
    (hm : a.eval m = .map (some b)) (h : MapG z w b n sz env) (hn : n < maxLen) (s : ByteArray) (u : Value) (hx : a.eval x = .string s) (hv : a.eval v = u) (hs : s.size ≤ maxLen)
    (hK : ∀ w', MapG z w' b (n + 1) (if (env s).isSome = true then sz else sz + 1) (setG env s (some u)) → w.mapTurned w' b → wpList Tryd.prog ops Q rest (a.put o.dst undef) w') :
    wpList Tryd.prog ops Q (o :: rest) a w := by
  refine wpList_plain hg fun K' hK' => ?_
  obtain ⟨w', hrun, r1, r2⟩ := mapG_put ht h hn s hs u
  unfold Oper.wp
  rcases hop with hop | hop
  all_goals
    simp [execOp, hop, hm, hx, hv, hrun, Result.andThen]
    exact hK' _ _ (hK w' r1 r2)
theorem wpList_look_G (hg : o.guard = none) (m x : Operand) (t E : TypeId) (hop : o.op = Op.lookup t m x false) (ht : Tryd.prog.underlying t = some (.map 9 E)) (hz : ∀ w, (zeroValue E).run Tryd.prog w = .ok z w) (b n sz : Nat) (env : ByteArray → Option Value)
    (hm : a.eval m = .map (some b)) (h : MapG z w b n sz env) (s : ByteArray) (hx : a.eval x = .string s) (hs : s.size ≤ maxLen)
    (hK : wpList Tryd.prog ops Q rest (a.put o.dst ((env s).getD z)) w) :
    wpList Tryd.prog ops Q (o :: rest) a w := by
  refine wpList_plain hg fun K' hK' => ?_
  unfold Oper.wp
  simp [execOp, hop, hm, hx, mapG_look ht hz h s hs, Result.andThen]
  exact hK' _ _ hK
theorem wpList_look_ok_G (hg : o.guard = none) (m x : Operand) (t E : TypeId) (hop : o.op = Op.lookup t m x true) (ht : Tryd.prog.underlying t = some (.map 9 E)) (hz : ∀ w, (zeroValue E).run Tryd.prog w = .ok z w) (b n sz : Nat) (env : ByteArray → Option Value)
    (hm : a.eval m = .map (some b)) (h : MapG z w b n sz env) (s : ByteArray) (hx : a.eval x = .string s) (hs : s.size ≤ maxLen)
    (hK : wpList Tryd.prog ops Q rest (a.put o.dst (.tuple #[(env s).getD z, .bool (env s).isSome])) w) :
    wpList Tryd.prog ops Q (o :: rest) a w := by
  refine wpList_plain hg fun K' hK' => ?_
  unfold Oper.wp
  simp [execOp, hop, hm, hx, mapG_look_ok ht hz h s hs, Result.andThen]
  exact hK' _ _ hK
theorem wpList_del_G (hg : o.guard = none) (m x : Operand) (t E : TypeId) (hop : o.op = Op.call { callee := Callee.builtin Builtin.delete, args := #[m, x], argTypes := #[t, 9] }) (ht : Tryd.prog.underlying t = some (.map 9 E)) (b n sz : Nat) (env : ByteArray → Option Value)
    (hm : a.eval m = .map (some b)) (h : MapG z w b n sz env) (s : ByteArray) (hx : a.eval x = .string s) (hs : s.size ≤ maxLen)
    (hK : ∀ w' sz', MapG z w' b n sz' (setG env s none) → w.mapTurned w' b → wpList Tryd.prog ops Q rest (a.put o.dst (.tuple #[])) w') :
    wpList Tryd.prog ops Q (o :: rest) a w := by
  refine wpList_plain hg fun K' hK' => ?_
  obtain ⟨D, h1, _, h3⟩ := h
  obtain ⟨w', hrun, r1, r2⟩ := h1.drop strKeyed ht (WideMaps.keyOf_string_mk Tryd.underlying9 hs) o.type
  have hM : MapG z w' b n (Maps.size (D.del (.string s.data.toList))) (setG env s none) := by
    refine ⟨_, r1, rfl, fun u => ?_⟩
    unfold setG
    by_cases e : u = s
    · subst e
      rw [if_pos rfl]
      exact ⟨Maps.has_del_same, Maps.atKey_del_same _⟩
    · rw [if_neg e]
      exact ⟨by rw [← (h3 u).1]; exact Maps.has_del_other (klit_ne e), by rw [← (h3 u).2]; exact Maps.atKey_del_other (klit_ne e) _⟩
  unfold Oper.wp
  simp [execOp, hop, resolve, invoke, builtin, hm, hx, hrun, Result.andThen]
  exact hK' _ _ (hK w' _ hM r2)
theorem wpList_len_G (hg : o.guard = none) (m : Operand) (t E : TypeId) (hop : o.op = Op.call { callee := Callee.builtin Builtin.len, args := #[m], argTypes := #[t] }) (ht : Tryd.prog.underlying t = some (.map 9 E)) (b n sz : Nat) (env : ByteArray → Option Value)
    (hm : a.eval m = .map (some b)) (h : MapG z w b n sz env)
    (hK : wpList Tryd.prog ops Q rest (a.put o.dst (.int .i64 sz)) w) :
    wpList Tryd.prog ops Q (o :: rest) a w := by
  obtain ⟨D, h1, h2, _⟩ := h
  refine wpList_len_own w hg m t hop _ _ ht _ b n D hm h1 ?_
  rw [h2]; exact hK
end
theorem zeroInt (w : World) : (zeroValue 3).run Tryd.prog w = .ok (.int .i64 0) w := by kernel_rfl
def zAf : Value := .agg #[.string ⟨#[]⟩, .slice none 0 0, .bool false, .slice none 0 0, .slice none 0 0, .string ⟨#[]⟩]
theorem zeroAf (w : World) : (zeroValue 39).run Tryd.prog w = .ok zAf w := by kernel_rfl
def zVl : Value := .agg #[.bool false, .int .i64 0, .slice none 0 0]
theorem zeroVl (w : World) : (zeroValue 46).run Tryd.prog w = .ok zVl w := by kernel_rfl

end Go.Proofs.YtcoeakdpcigogaaDoor
