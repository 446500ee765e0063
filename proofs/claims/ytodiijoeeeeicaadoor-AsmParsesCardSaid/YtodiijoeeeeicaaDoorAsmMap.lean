/-
  A map from bytes to functions that the call itself has made: what it answers.
-/
import Derived.Test.YtodiijoeeeeicaaDoorGMem
import Derived.Maps.Own
import Derived.Maps.OwnOps
import Derived.Maps.OwnSet
namespace Go.Proofs.YtodiijoeeeeicaaDoor
open Go.ChangeShapes Go.WideShapes Go.ChangeAt Go.RowKit Go.Sort Go.Maps

theorem bytKeyed : Keyed Tryd.prog 5 := int_keyed Tryd.underlying5
theorem zeroFn (w : World) : (zeroValue 71).run Tryd.prog w = .ok .nilFunc w := by kernel_rfl
def blit (s : Int) : Lit := .int .u8 s
theorem blit_ne {s t : Int} (h : t ≠ s) : blit t ≠ blit s := fun e => h (by unfold blit at e; injection e)
theorem blit_key (s : Int) : WideAt.IsKeyLit (blit s) := by unfold blit; first | exact trivial | constructor | simp [WideAt.IsKeyLit]
/-- A function is read as itself. -/
def fnR (v : Value) : Option (DataW Value × List MemPlace) := some (.held v, [])
/-- Block b is such a map: it has at most n entries, and answers as raw says. -/
def MapF (w : World) (b n : Nat) (raw : Int → Option Value) : Prop :=
  ∃ D : DataW Value, w.ownsMap Tryd.prog 5 fnR b n D ∧ ∀ s : Int, D.atKey (blit s) (.held .nilFunc) = .held ((raw s).getD .nilFunc)
def setF (raw : Int → Option Value) (s : Int) (v : Value) : Int → Option Value := fun t => if t = s then some v else raw t
theorem MapF.lt {w : World} {b n : Nat} {raw : Int → Option Value} (h : MapF w b n raw) : b < w.heap.size := by
  obtain ⟨D, h1, _⟩ := h; exact h1.lt
theorem MapF.below {w w' : World} {b n : Nat} {raw : Int → Option Value} (h : MapF w b n raw) (hb : Below w.heap.size w w') : MapF w' b n raw := by
  have hl := h.lt
  obtain ⟨D, ⟨es, c, h1, h2⟩, h3⟩ := h
  exact ⟨D, ⟨es, c, by rw [hb.block b hl]; exact h1, h2⟩, h3⟩
theorem mapF_made (w : World) : MapF (w.alloc (.map #[] 0)) w.heap.size 0 (fun _ => none) :=
  ⟨.map [], World.ownsMap_made w _ _ _, fun _ => rfl⟩
theorem mapF_put {w : World} {b n : Nat} {raw : Int → Option Value} {t : TypeId} (ht : Tryd.prog.underlying t = some (.map 5 71)) (h : MapF w b n raw) (hn : n < maxLen) (s : Int) (hs : (Lit.int .u8 s).wf = true) (x : Value) :
    ∃ w', (Instr.mapUpdate t (.map (some b)) (.int .u8 s) x).run Tryd.prog w = .ok () w' ∧ MapF w' b (n + 1) (setF raw s x) ∧ w.mapTurned w' b := by
  obtain ⟨D, h1, h3⟩ := h
  obtain ⟨w', hrun, r1, r2⟩ := h1.store bytKeyed ht hn (keyOf_int_mk Tryd.underlying5 hs) (show fnR x = some (.held x, []) from rfl)
  refine ⟨w', hrun, ⟨_, r1, fun u => ?_⟩, r2⟩
  unfold setF
  by_cases e : u = s
  · subst e
    rw [if_pos rfl]
    exact Maps.atKey_put_same h1.isMap (blit_key u) _ _
  · rw [if_neg e]
    rw [← h3 u]
    exact Maps.atKey_put_other (blit_ne e) _ _
section
variable (w : World) {ops : Array Oper} {rest : List Oper} {o : Oper} {a : Act} {Q : Exit → Act → World → Prop}
theorem wpList_put_F (hg : o.guard = none) (m x v : Operand) (t : TypeId) (hop : o.op = Op.mapUpdate t m x v ∨ o.op = Op.insert t m x v) (ht : Tryd.prog.underlying t = some (.map 5 71)) (b n : Nat) (raw : Int → Option Value)
    (hm : a.eval m = .map (some b)) (h : MapF w b n raw) (hn : n < maxLen) (s : Int) (y : Value) (hx : a.eval x = .int .u8 s) (hv : a.eval v = y) (hs : (Lit.int .u8 s).wf = true)
    (hK : ∀ w', MapF w' b (n + 1) (setF raw s y) → w.mapTurned w' b → wpList Tryd.prog ops Q rest (a.put o.dst undef) w') :
    wpList Tryd.prog ops Q (o :: rest) a w := by
  refine wpList_plain hg fun K' hK' => ?_
  obtain ⟨w', hrun, r1, r2⟩ := mapF_put ht h hn s hs y
  unfold Oper.wp
  rcases hop with hop | hop
  all_goals
    simp [execOp, hop, hm, hx, hv, hrun, Result.andThen]
    exact hK' _ _ (hK w' r1 r2)
theorem wpList_look_F (hg : o.guard = none) (m x : Operand) (t : TypeId) (hop : o.op = Op.lookup t m x false) (ht : Tryd.prog.underlying t = some (.map 5 71)) (b n : Nat) (raw : Int → Option Value)
    (hm : a.eval m = .map (some b)) (h : MapF w b n raw) (s : Int) (hx : a.eval x = .int .u8 s) (hs : (Lit.int .u8 s).wf = true)
    (hK : wpList Tryd.prog ops Q rest (a.put o.dst ((raw s).getD .nilFunc)) w) :
    wpList Tryd.prog ops Q (o :: rest) a w := by
  refine wpList_plain hg fun K' hK' => ?_
  obtain ⟨D, h1, h3⟩ := h
  obtain ⟨v, ps, hrun, hv⟩ := h1.lookup bytKeyed ht (zeroFn w) (show fnR .nilFunc = some (.held .nilFunc, []) from rfl) (keyOf_int_mk Tryd.underlying5 hs)
  have he := h3 s
  unfold blit at he
  rw [he] at hv
  unfold fnR at hv
  have : v = (raw s).getD .nilFunc := (by simpa using hv : v = (raw s).getD .nilFunc ∧ ps = []).1
  subst this
  unfold Oper.wp
  simp [execOp, hop, hm, hx, hrun, Result.andThen]
  exact hK' _ _ hK
end

end Go.Proofs.YtodiijoeeeeicaaDoor
