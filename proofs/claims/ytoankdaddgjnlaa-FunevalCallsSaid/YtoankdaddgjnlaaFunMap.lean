/-
  A map from strings to bools that the call itself has made: what it answers.
-/
import Derived.Test.YtoankdaddgjnlaaFunBase
import Derived.Maps.Own
import Derived.Maps.OwnOps
import Derived.Maps.OwnSet
import Derived.StringKeys
namespace Go.Proofs.Ytoankdaddgjnlaa
open Go.ChangeShapes Go.WideShapes Go.ChangeAt Go.RowKit Go.Sort Go.Maps

theorem strKeyed : Keyed Try.prog 9 := string_keyed Try.underlying9
theorem zeroBool (w : World) : (zeroValue 4).run Try.prog w = .ok (.bool false) w := by kernel_rfl
def klit (s : ByteArray) : Lit := .string s.data.toList
theorem klit_ne {s t : ByteArray} (h : t ≠ s) : klit t ≠ klit s := fun e => h (by
  unfold klit at e; injection e with e; exact WideShapes.bytes_inj e)
theorem klit_key (s : ByteArray) : WideAt.IsKeyLit (klit s) := by unfold klit; first | exact trivial | constructor | simp [WideAt.IsKeyLit]

/-- Block b is such a map: it has sz entries, and answers as env says. -/
def MapB (w : World) (b n sz : Nat) (env : ByteArray → Option Bool) : Prop :=
  ∃ D : DataW Unit, w.ownsMap Try.prog 9 (plainElem Try.prog 4) b n D ∧ Maps.size D = sz ∧ ∀ s : ByteArray, Maps.has D (klit s) = (env s).isSome ∧ D.atKey (klit s) (.lit (.bool false)) = .lit (.bool ((env s).getD false))

theorem plainElem_bool_inv {e : TypeId} (he : Try.prog.underlying e = some .bool) {v : Value} {z : DataW Unit × List MemPlace} (h : plainElem Try.prog e v = some z) : ∃ x, v = .bool x ∧ z = (.lit (.bool x), []) := by
  unfold plainElem at h
  rw [he] at h
  cases v <;> simp at h
  exact ⟨_, rfl, h.symm⟩

def setE (env : ByteArray → Option Bool) (s : ByteArray) (v : Option Bool) : ByteArray → Option Bool := fun t => if t = s then v else env t

theorem MapB.lt {w : World} {b n sz : Nat} {env : ByteArray → Option Bool} (h : MapB w b n sz env) : b < w.heap.size := by
  obtain ⟨D, h1, _⟩ := h; exact h1.lt
theorem MapB.below {w w' : World} {b n sz : Nat} {env : ByteArray → Option Bool} (h : MapB w b n sz env) (hb : Below w.heap.size w w') : MapB w' b n sz env := by
  have hl := h.lt
  obtain ⟨D, ⟨es, c, h1, h2⟩, h3⟩ := h
  exact ⟨D, ⟨es, c, by rw [hb.block b hl]; exact h1, h2⟩, h3⟩
theorem MapB.grown {w w' : World} {b n sz : Nat} {env : ByteArray → Option Bool} (h : MapB w b n sz env) {row : Option Nat} (hg : w.grownBy w' row) (hne : some b ≠ row) : MapB w' b n sz env := by
  obtain ⟨D, h1, h2⟩ := h
  exact ⟨D, h1.kept hg hne, h2⟩
theorem MapB.setCell {w : World} {b n sz : Nat} {env : ByteArray → Option Bool} (h : MapB w b n sz env) {a : Addr} (ha : b ≠ a.block) (u : Value) : MapB (w.setCell a u) b n sz env := by
  obtain ⟨D, h1, h2⟩ := h
  exact ⟨D, h1.setCell ha u, h2⟩
theorem MapB.congr {w : World} {b n sz : Nat} {env env' : ByteArray → Option Bool} (h : MapB w b n sz env) (he : ∀ s, env s = env' s) : MapB w b n sz env' := by
  have : env = env' := funext he
  rw [← this]; exact h
theorem mapB_made (w : World) : MapB (w.alloc (.map #[] 0)) w.heap.size 0 0 (fun _ => none) :=
  ⟨.map [], World.ownsMap_made w _ _ _, rfl, fun _ => ⟨rfl, rfl⟩⟩

section
variable (w : World) {ops : Array Oper} {rest : List Oper} {o : Oper} {a : Act} {Q : Exit → Act → World → Prop}

theorem mapB_put {w : World} {b n sz : Nat} {env : ByteArray → Option Bool} {t : TypeId} (ht : Try.prog.underlying t = some (.map 9 4)) (h : MapB w b n sz env) (hn : n < maxLen) (s : ByteArray) (hs : s.size ≤ maxLen) (v : Bool) :
    ∃ w', (Instr.mapUpdate t (.map (some b)) (.string s) (.bool v)).run Try.prog w = .ok () w' ∧ MapB w' b (n + 1) (if (env s).isSome = true then sz else sz + 1) (setE env s (some v)) ∧ w.mapTurned w' b := by
  obtain ⟨D, h1, h2, h3⟩ := h
  obtain ⟨w', hrun, r1, r2⟩ := h1.store strKeyed ht hn (WideMaps.keyOf_string_mk Try.underlying9 hs) (plainElem_bool Try.underlying4 v)
  refine ⟨w', hrun, ⟨_, r1, ?_, fun u => ?_⟩, r2⟩
  · rw [Maps.size_put (h1.tidy strKeyed), h2]
    have := (h3 s).1
    unfold klit at this
    rw [this]
  · unfold setE
    by_cases e : u = s
    · subst e
      rw [if_pos rfl]
      exact ⟨Maps.has_put_same h1.isMap (klit_key u) _, Maps.atKey_put_same h1.isMap (klit_key u) _ _⟩
    · rw [if_neg e]
      exact ⟨by rw [← (h3 u).1]; exact Maps.has_put_other (klit_ne e) _, by rw [← (h3 u).2]; exact Maps.atKey_put_other (klit_ne e) _ _⟩

/-- m[k] = v, in a statement or in the literal that makes the map. -/
theorem wpList_put_B (hg : o.guard = none) (m x v : Operand) (t : TypeId) (hop : o.op = Op.mapUpdate t m x v ∨ o.op = Op.insert t m x v) (ht : Try.prog.underlying t = some (.map 9 4)) (b n sz : Nat) (env : ByteArray → Option Bool)
    (hm : a.eval m = .map (some b)) (h : MapB w b n sz env) (hn : n < maxLen) (s : ByteArray) (y : Bool) (hx : a.eval x = .string s) (hv : a.eval v = .bool y) (hs : s.size ≤ maxLen)
    (hK : ∀ w', MapB w' b (n + 1) (if (env s).isSome = true then sz else sz + 1) (setE env s (some y)) → w.mapTurned w' b → wpList Try.prog ops Q rest (a.put o.dst undef) w') :
    wpList Try.prog ops Q (o :: rest) a w := by
  refine wpList_plain hg fun K' hK' => ?_
  obtain ⟨w', hrun, r1, r2⟩ := mapB_put ht h hn s hs y
  unfold Oper.wp
  rcases hop with hop | hop
  all_goals
    simp [execOp, hop, hm, hx, hv, hrun, Result.andThen]
    exact hK' _ _ (hK w' r1 r2)

theorem wpList_look_B (hg : o.guard = none) (m x : Operand) (t : TypeId) (hop : o.op = Op.lookup t m x false) (ht : Try.prog.underlying t = some (.map 9 4)) (b n sz : Nat) (env : ByteArray → Option Bool)
    (hm : a.eval m = .map (some b)) (h : MapB w b n sz env) (s : ByteArray) (hx : a.eval x = .string s) (hs : s.size ≤ maxLen)
    (hK : wpList Try.prog ops Q rest (a.put o.dst (.bool ((env s).getD false))) w) :
    wpList Try.prog ops Q (o :: rest) a w := by
  refine wpList_plain hg fun K' hK' => ?_
  obtain ⟨D, h1, _, h3⟩ := h
  obtain ⟨v, ps, hrun, hv⟩ := h1.lookup strKeyed ht (zeroBool w) (plainElem_bool Try.underlying4 false) (WideMaps.keyOf_string_mk Try.underlying9 hs)
  obtain ⟨y, rfl, hy⟩ := plainElem_bool_inv Try.underlying4 hv
  have he := (h3 s).2
  unfold klit at he
  rw [he] at hy
  have : y = (env s).getD false := by simpa using (congrArg Prod.fst hy).symm
  subst this
  unfold Oper.wp
  simp [execOp, hop, hm, hx, hrun, Result.andThen]
  exact hK' _ _ hK

theorem wpList_look_ok_B (hg : o.guard = none) (m x : Operand) (t : TypeId) (hop : o.op = Op.lookup t m x true) (ht : Try.prog.underlying t = some (.map 9 4)) (b n sz : Nat) (env : ByteArray → Option Bool)
    (hm : a.eval m = .map (some b)) (h : MapB w b n sz env) (s : ByteArray) (hx : a.eval x = .string s) (hs : s.size ≤ maxLen)
    (hK : wpList Try.prog ops Q rest (a.put o.dst (.tuple #[.bool ((env s).getD false), .bool (env s).isSome])) w) :
    wpList Try.prog ops Q (o :: rest) a w := by
  refine wpList_plain hg fun K' hK' => ?_
  obtain ⟨D, h1, _, h3⟩ := h
  obtain ⟨v, ps, hrun, hv⟩ := h1.look_ok strKeyed ht (zeroBool w) (plainElem_bool Try.underlying4 false) (WideMaps.keyOf_string_mk Try.underlying9 hs)
  obtain ⟨y, rfl, hy⟩ := plainElem_bool_inv Try.underlying4 hv
  have he := (h3 s).2
  have hh := (h3 s).1
  unfold klit at he hh
  rw [he] at hy
  rw [hh] at hrun
  have : y = (env s).getD false := by simpa using (congrArg Prod.fst hy).symm
  subst this
  unfold Oper.wp
  simp [execOp, hop, hm, hx, hrun, Result.andThen]
  exact hK' _ _ hK

theorem wpList_del_B (hg : o.guard = none) (m x : Operand) (t : TypeId) (hop : o.op = Op.call { callee := Callee.builtin Builtin.delete, args := #[m, x], argTypes := #[t, 9] }) (ht : Try.prog.underlying t = some (.map 9 4)) (b n sz : Nat) (env : ByteArray → Option Bool)
    (hm : a.eval m = .map (some b)) (h : MapB w b n sz env) (s : ByteArray) (hx : a.eval x = .string s) (hs : s.size ≤ maxLen)
    (hK : ∀ w' sz', MapB w' b n sz' (setE env s none) → w.mapTurned w' b → wpList Try.prog ops Q rest (a.put o.dst (.tuple #[])) w') :
    wpList Try.prog ops Q (o :: rest) a w := by
  refine wpList_plain hg fun K' hK' => ?_
  obtain ⟨D, h1, h2, h3⟩ := h
  obtain ⟨w', hrun, r1, r2⟩ := h1.drop strKeyed ht (WideMaps.keyOf_string_mk Try.underlying9 hs) o.type
  have hM : MapB w' b n (Maps.size (D.del (.string s.data.toList))) (setE env s none) := by
    refine ⟨_, r1, rfl, fun u => ?_⟩
    unfold setE
    by_cases e : u = s
    · subst e
      rw [if_pos rfl]
      exact ⟨Maps.has_del_same, Maps.atKey_del_same _⟩
    · rw [if_neg e]
      exact ⟨by rw [← (h3 u).1]; exact Maps.has_del_other (klit_ne e), by rw [← (h3 u).2]; exact Maps.atKey_del_other (klit_ne e) _⟩
  unfold Oper.wp
  simp [execOp, hop, resolve, invoke, builtin, hm, hx, hrun, Result.andThen]
  exact hK' _ _ (hK w' _ hM r2)

theorem wpList_len_B (hg : o.guard = none) (m : Operand) (t : TypeId) (hop : o.op = Op.call { callee := Callee.builtin Builtin.len, args := #[m], argTypes := #[t] }) (ht : Try.prog.underlying t = some (.map 9 4)) (b n sz : Nat) (env : ByteArray → Option Bool)
    (hm : a.eval m = .map (some b)) (h : MapB w b n sz env)
    (hK : wpList Try.prog ops Q rest (a.put o.dst (.int .i64 sz)) w) :
    wpList Try.prog ops Q (o :: rest) a w := by
  obtain ⟨D, h1, h2, _⟩ := h
  refine wpList_len_own w hg m t hop _ _ ht _ b n D hm h1 ?_
  rw [h2]; exact hK
end

end Go.Proofs.Ytoankdaddgjnlaa
