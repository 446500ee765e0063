/-
  The contracts of the reference's visible, result and Check.
-/
import Derived.Test.YtcoeakdpcigogaaDoorFunAppG
import Derived.Test.YtcoeakdpcigogaaDoorFunChk2
import Derived.Deep.DeepCutAuto
import Derived.Deep.CutBlock
namespace Go.Proofs.YtcoeakdpcigogaaDoor
open Go.ChangeShapes Go.WideShapes Go.ChangeAt Go.RowKit Go.Sort

theorem envF_hit {l : List Pm} {p : Pm} {s : ByteArray} (h : p.name = s) : envF (l ++ [p]) s = some p.list := by
  rw [envF_snoc]; unfold setE; rw [if_pos h.symm]
theorem envF_miss {l : List Pm} {p : Pm} {s : ByteArray} (h : p.name ≠ s) : envF (l ++ [p]) s = envF l s := by
  rw [envF_snoc]; unfold setE; rw [if_neg (fun e => h e.symm)]

/-- The cells of parameters. -/
def pCells (l : List Pm) : List Value := l.flatMap fun p => [.string p.name, .bool p.list]
theorem pCells_len (l : List Pm) : (pCells l).length = l.length * 2 := by
  unfold pCells
  induction l with
  | nil => rfl
  | cons p r ih => rw [List.flatMap_cons, List.length_append, ih]; simp; omega
theorem pCells_snoc (l : List Pm) (p : Pm) : pCells (l ++ [p]) = pCells l ++ [.string p.name, .bool p.list] := by
  unfold pCells; rw [List.flatMap_append]; simp
theorem pCells_get : ∀ (l : List Pm) (k : Nat) (p : Pm), l[k]? = some p → (pCells l)[k * 2]? = some (.string p.name) ∧ (pCells l)[k * 2 + 1]? = some (.bool p.list)
  | [], k, p, h => by simp at h
  | q :: r, 0, p, h => by simp at h; subst h; unfold pCells; simp
  | q :: r, k + 1, p, h => by
    have := pCells_get r k p (by simpa using h)
    have e : pCells (q :: r) = [.string q.name, .bool q.list] ++ pCells r := by unfold pCells; simp
    rw [e, List.getElem?_append_right (by simp; omega), List.getElem?_append_right (by simp; omega)]
    have e1 : (k + 1) * 2 - [Value.string q.name, Value.bool q.list].length = k * 2 := by simp; omega
    have e2 : (k + 1) * 2 + 1 - [Value.string q.name, Value.bool q.list].length = k * 2 + 1 := by simp; omega
    rw [e1, e2]; exact this
theorem pCells_one (l : List Pm) : ∀ u ∈ pCells l, u.oneCell' = true := by
  intro u hu
  unfold pCells at hu
  obtain ⟨p, _, h⟩ := List.mem_flatMap.1 hu
  simp at h
  rcases h with rfl | rfl <;> rfl
theorem PmsAt.cells {w : World} {A : Option Addr} {l : List Pm} (h : PmsAt w A l) : CellsAt w A (pCells l) := fun j u hu => by
  have hj : j < (pCells l).length := (List.getElem?_eq_some_iff.1 hu).1
  rw [pCells_len] at hj
  have hk : j / 2 < l.length := by omega
  obtain ⟨b, o, e, c0, c1⟩ := h.at_ hk
  obtain ⟨g0, g1⟩ := pCells_get l (j / 2) _ (List.getElem?_eq_getElem hk)
  refine ⟨b, o, e, ?_⟩
  by_cases h2 : j % 2 = 0
  · have hj2 : j = j / 2 * 2 := by omega
    rw [hj2, g0] at hu
    rw [hj2, c0]; exact hu
  · have hj2 : j = j / 2 * 2 + 1 := by omega
    rw [hj2, g1] at hu
    rw [hj2, ← Nat.add_assoc, c1]; exact hu
theorem pms_of_own {w : World} {base : Nat} {e : TypeId} {v : Value} {l : List Pm} (h : w.ownsRow base e 2 v l.length (pCells l)) : ∃ A c, v = .slice A l.length c ∧ PmsAt w A l := by
  obtain ⟨h1, h2⟩ := id h
  rcases h2 with ⟨rfl, h0⟩ | ⟨g, cap, cur, rfl, hg, hh, hc1, hc2, hc3, hc4⟩
  · refine ⟨none, 0, by rw [h0], fun k x hk => ?_⟩
    have : l = [] := List.length_eq_zero_iff.1 h0
    subst this; simp at hk
  · refine ⟨some ⟨g, 0, none⟩, cap, rfl, fun k p hk => ⟨g, 0, rfl, ?_, ?_⟩⟩
    · have := h.cells (g := g) rfl _ _ (pCells_get l k p hk).1
      rw [add0] at this; simpa using this
    · have := h.cells (g := g) rfl _ _ (pCells_get l k p hk).2
      rw [add0] at this; simpa using this
theorem own_emptyP (w : World) {e : TypeId} {size : Nat} : (w.alloc (Obj.cells #[] e)).ownsRow w.heap.size e size (.slice (some ⟨w.heap.size, 0, none⟩) 0 0) 0 [] :=
  ⟨by simp, .inr ⟨w.heap.size, 0, #[], rfl, Nat.le_refl _, heap_alloc_new w _, Nat.le_refl _, by simp [maxLen], by simp, by simp⟩⟩
theorem info_param : (Tryd.prog.info? 65).map (fun i => (i.zero, i.size, i.bytes)) = some (some (.agg #[.string ⟨#[]⟩, .bool false]), 2, 24) := by kernel_rfl

theorem belowDrawnP {B : Nat} {W w : World} (h : RowKit.Below B W w) : RowKit.Below B W w.drew := h.trans ⟨rfl, rfl, rfl, Nat.le_refl _, fun _ _ => rfl⟩
theorem two_cells (w : World) (s : ByteArray) (b : Bool) (T : TypeId) : CellsAt (w.alloc (Obj.cells #[.string s, .bool b] T)).drew (some ⟨w.heap.size, 0, none⟩) [.string s, .bool b] := fun j u hj => by
  refine ⟨w.heap.size, 0, rfl, ?_⟩
  match j, hj with
  | 0, hj => simp at hj; subst hj; simp [go_sem]
  | 1, hj => simp at hj; subst hj; simp [go_sem]
  | j + 2, hj => simp at hj
theorem two_one (s : ByteArray) (b : Bool) : ∀ u ∈ [Value.string s, Value.bool b], u.oneCell' = true := by
  intro u hu; simp at hu; rcases hu with rfl | rfl <;> rfl
theorem pms_snoc {w : World} {base : Nat} {e : TypeId} {v : Value} {l : List Pm} {s : ByteArray} {b : Bool} (h : w.ownsRow base e 2 v (l.length + 1) (pCells l ++ [.string s, .bool b])) : ∃ A c, v = .slice A (l.length + 1) c ∧ PmsAt w A (l ++ [⟨s, b⟩]) := by
  have e1 : (l ++ [(⟨s, b⟩ : Pm)]).length = l.length + 1 := by simp
  have := pms_of_own (l := l ++ [⟨s, b⟩]) (w := w) (base := base) (e := e) (v := v) (by rw [e1, pCells_snoc]; exact h)
  rw [e1] at this
  exact this

def kidsK (k : Nat) : Option Nat := if k = 80 ∨ k = 81 ∨ k = 86 then some 0 else if k = 88 ∨ k = 89 ∨ k = 90 then some 1 else if k = 82 ∨ k = 84 ∨ k = 87 then some 2 else if k = 83 then some 3 else none
theorem form_kind {k : Nat} {m : Int} {s : ByteArray} {n : Nat} (h : formB k m s n = true) : 80 ≤ k ∧ k ≤ 90 := by
  rcases kind_cases k with e | e | e | e | e | e | e | e | e | e | e | e
  all_goals first | omega | skip
  unfold formB at h
  rw [if_neg (by omega), if_neg (by omega), if_neg (by omega), if_neg (by omega), if_neg (by omega), if_neg (by omega), if_neg (by omega), if_neg (by omega), if_neg (by omega)] at h
  simp at h
theorem form_lenK {k : Nat} {m : Int} {s : ByteArray} {n j : Nat} (h : formB k m s n = true) (hk : kidsK k = some j) : n = j := by
  rcases kind_cases k with rfl | rfl | rfl | rfl | rfl | rfl | rfl | rfl | rfl | rfl | rfl | e
  all_goals first | (simp [kidsK] at hk; done) | (simp [kidsK] at hk; simp [formB] at h; omega) | skip
  unfold kidsK at hk
  rw [if_neg (by omega), if_neg (by omega), if_neg (by omega), if_neg (by omega)] at hk
  cases hk

/-- What the first switch leaves. -/
def SwAt (lib : List Fn1) (vs : List Pm) (x : Nd) (fi : Int) (ow : Bool) : Prop :=
  reachE lib (envF vs) x = 0 ∧ (x.kind = 85 → fi = findF lib x.name 0) ∧ (x.kind = 81 → ow = (envF vs x.name).getD false)

end Go.Proofs.YtcoeakdpcigogaaDoor
