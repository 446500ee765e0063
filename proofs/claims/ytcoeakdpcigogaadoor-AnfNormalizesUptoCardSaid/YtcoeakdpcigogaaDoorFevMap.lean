/-
  A map from strings to values that the call itself has made; the contract of maps.Clone.
-/
import Derived.Test.YtcoeakdpcigogaaDoorFevMem
import Derived.Test.YtcoeakdpcigogaaDoorFunBase
import Derived.Shelf.SlMaps.Clone
namespace Go.Proofs.YtcoeakdpcigogaaDoor
open Go.ChangeShapes Go.WideShapes Go.ChangeAt Go.RowKit Go.Sort Go.Maps

def zV : Value := .agg #[.bool false, .int .i64 0, .slice none 0 0]
theorem zeroVal (w : World) : (zeroValue 46).run Tryd.prog w = .ok zV w := by kernel_rfl
/-- A value is read as itself. -/
def heldE (v : Value) : Option (DataW Value × List MemPlace) := some (.held v, [])

/-- Block b is such a map: it has at most n entries, and answers as raw says. -/
def MapV (w : World) (b n : Nat) (raw : ByteArray → Option Value) : Prop :=
  ∃ D : DataW Value, w.ownsMap Tryd.prog 9 heldE b n D ∧ ∀ s : ByteArray, Maps.has D (klit s) = (raw s).isSome ∧ D.atKey (klit s) (.held zV) = .held ((raw s).getD zV)
def setR (raw : ByteArray → Option Value) (s : ByteArray) (v : Value) : ByteArray → Option Value := fun t => if t = s then some v else raw t

theorem MapV.lt {w : World} {b n : Nat} {raw : ByteArray → Option Value} (h : MapV w b n raw) : b < w.heap.size := by
  obtain ⟨D, h1, _⟩ := h; exact h1.lt
theorem MapV.fr {w w' : World} {b n : Nat} {raw : ByteArray → Option Value} (h : MapV w b n raw) {m : Nat → Prop} (hf : Fr w w' m) (hn : ¬ m b) : MapV w' b n raw := by
  have hl := h.lt
  obtain ⟨D, ⟨es, c, h1, h2⟩, h3⟩ := h
  exact ⟨D, ⟨es, c, by rw [hf.block b hl hn]; exact h1, h2⟩, h3⟩
theorem mapV_made (w : World) : MapV (w.alloc (.map #[] 0)) w.heap.size 0 (fun _ => none) :=
  ⟨.map [], World.ownsMap_made w _ _ _, fun _ => ⟨rfl, rfl⟩⟩

theorem mapV_put {w : World} {b n : Nat} {raw : ByteArray → Option Value} {t : TypeId} (ht : Tryd.prog.underlying t = some (.map 9 46)) (h : MapV w b n raw) (hn : n < maxLen) (s : ByteArray) (hs : s.size ≤ maxLen) (v : Value) :
    ∃ w', (Instr.mapUpdate t (.map (some b)) (.string s) v).run Tryd.prog w = .ok () w' ∧ MapV w' b (n + 1) (setR raw s v) ∧ w.mapTurned w' b := by
  obtain ⟨D, h1, h3⟩ := h
  obtain ⟨w', hrun, r1, r2⟩ := h1.store strKeyed ht hn (WideMaps.keyOf_string_mk Tryd.underlying9 hs) (show heldE v = some (.held v, []) from rfl)
  refine ⟨w', hrun, ⟨_, r1, fun u => ?_⟩, r2⟩
  unfold setR
  by_cases e : u = s
  · subst e
    rw [if_pos rfl]
    exact ⟨Maps.has_put_same h1.isMap (klit_key u) _, Maps.atKey_put_same h1.isMap (klit_key u) _ _⟩
  · rw [if_neg e]
    exact ⟨by rw [← (h3 u).1]; exact Maps.has_put_other (klit_ne e) _, by rw [← (h3 u).2]; exact Maps.atKey_put_other (klit_ne e) _ _⟩
theorem mapV_look {w : World} {b n : Nat} {raw : ByteArray → Option Value} {t : TypeId} (ht : Tryd.prog.underlying t = some (.map 9 46)) (h : MapV w b n raw) (s : ByteArray) (hs : s.size ≤ maxLen) :
    (Instr.lookup t (.map (some b)) (.string s) false).run Tryd.prog w = .ok ((raw s).getD zV) w := by
  obtain ⟨D, h1, h3⟩ := h
  obtain ⟨v, ps, hrun, hv⟩ := h1.lookup strKeyed ht (zeroVal w) (show heldE zV = some (.held zV, []) from rfl) (WideMaps.keyOf_string_mk Tryd.underlying9 hs)
  have he := (h3 s).2
  unfold klit at he
  rw [he] at hv
  unfold heldE at hv
  simp at hv
  rw [hrun, hv.1]

section
variable (w : World) {ops : Array Oper} {rest : List Oper} {o : Oper} {a : Act} {Q : Exit → Act → World → Prop}
theorem wpList_put_V (hg : o.guard = none) (m x v : Operand) (t : TypeId) (hop : o.op = Op.mapUpdate t m x v ∨ o.op = Op.insert t m x v) (ht : Tryd.prog.underlying t = some (.map 9 46)) (b n : Nat) (raw : ByteArray → Option Value)
    (hm : a.eval m = .map (some b)) (h : MapV w b n raw) (hn : n < maxLen) (s : ByteArray) (y : Value) (hx : a.eval x = .string s) (hv : a.eval v = y) (hs : s.size ≤ maxLen)
    (hK : ∀ w', MapV w' b (n + 1) (setR raw s y) → w.mapTurned w' b → wpList Tryd.prog ops Q rest (a.put o.dst undef) w') :
    wpList Tryd.prog ops Q (o :: rest) a w := by
  refine wpList_plain hg fun K' hK' => ?_
  obtain ⟨w', hrun, r1, r2⟩ := mapV_put ht h hn s hs y
  unfold Oper.wp
  rcases hop with hop | hop
  all_goals
    simp [execOp, hop, hm, hx, hv, hrun, Result.andThen]
    exact hK' _ _ (hK w' r1 r2)
theorem wpList_look_V (hg : o.guard = none) (m x : Operand) (t : TypeId) (hop : o.op = Op.lookup t m x false) (ht : Tryd.prog.underlying t = some (.map 9 46)) (b n : Nat) (raw : ByteArray → Option Value)
    (hm : a.eval m = .map (some b)) (h : MapV w b n raw) (s : ByteArray) (hx : a.eval x = .string s) (hs : s.size ≤ maxLen)
    (hK : wpList Tryd.prog ops Q rest (a.put o.dst ((raw s).getD zV)) w) :
    wpList Tryd.prog ops Q (o :: rest) a w := by
  refine wpList_plain hg fun K' hK' => ?_
  unfold Oper.wp
  simp [execOp, hop, hm, hx, mapV_look ht h s hs, Result.andThen]
  exact hK' _ _ hK
end

set_option maxRecDepth 100000 in
theorem mclone_any (b n : Nat) (raw : ByteArray → Option Value) (w : World) (h : MapV w b n raw) :
    Calls Tryd.prog 83 #[.map (some b)] w fun e w' => e = .returned (.map (some w.heap.size)) ∧ MapV w' w.heap.size n raw ∧ Below w.heap.size w w' := by
  obtain ⟨D, ⟨es, clock, hb, F, hs, hD⟩, h3⟩ := h
  have hB : Below w.heap.size w (w.alloc (.map es clock)) := (Below.refl _ w).alloc (Nat.le_refl _) _
  have hM := Lib.hid (show MapV (w.alloc (.map es clock)) w.heap.size n raw from ⟨D, ⟨es, clock, (MapKept.heap_alloc w _).1, F, hs, hD⟩, h3⟩)
  have HB := Lib.hid hb
  clear F hs hD h3 hb
  have hq := fun w => run_eql_map_nil_sl (P := Tryd.prog) w 148 _ _ (some b) Tryd.underlying148
  go_enter Tryd.func83, Tryd.ntmps83
  go_wp2
  rw [run_callFunc_extern Tryd.func90 (by kernel_rfl) (by kernel_rfl) (by kernel_rfl) (e := Extern.MapsClone.clone) (by kernel_rfl), run_maps_clone_sl w 148 HB.out]
  simp only [Result.andThen]
  rw [Oper.upon_value]
  go_wp2
  rw [run_typeAssert_map_sl _ 148 _ _ _ _ Tryd.underlying148]
  simp only [Result.andThen]
  rw [Oper.upon_value]
  go_wp2
  go_ret
  exact ⟨rfl, hM.out, hB⟩

end Go.Proofs.YtcoeakdpcigogaaDoor
