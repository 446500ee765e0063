/-
  Libraries that a call makes: rows of functions.
-/
import Derived.Test.YtcoeakdpcigogaaDoorFunAppG
namespace Go.Proofs.YtcoeakdpcigogaaDoor
open Go.ChangeShapes Go.WideShapes Go.ChangeAt Go.RowKit Go.Sort

/-- Seven cells that are a function. -/
def FnC (w : World) (cs : List Value) (f : Fn1) : Prop := ∃ A1 c1 A3 c3, cs = [.string f.name, .slice A1 f.params.length c1, .bool f.list, .int .u8 f.body.kind, .int .i64 f.body.num, .string f.body.name, .slice A3 f.body.kids.length c3] ∧ PmsAt w A1 f.params ∧ NdsAt w A3 f.body.kids
theorem FnC.mono {w w' : World} {cs : List Value} {f : Fn1} (h : FnC w cs f) (hb : Below w.heap.size w w') : FnC w' cs f := by
  obtain ⟨A1, c1, A3, c3, e, h1, h2⟩ := h
  exact ⟨A1, c1, A3, c3, e, h1.mono hb, h2.mono hb⟩
theorem FnC.one {w : World} {cs : List Value} {f : Fn1} (h : FnC w cs f) : ∀ u ∈ cs, u.oneCell' = true := by
  obtain ⟨A1, c1, A3, c3, rfl, _⟩ := h
  intro u hu
  simp at hu
  rcases hu with h | h | h | h | h | h | h <;> subst h <;> rfl
/-- Cells that are a library. -/
inductive RowL (w : World) : List Value → List Fn1 → Prop
  | nil : RowL w [] []
  | snoc {cs : List Value} {l : List Fn1} {c7 : List Value} {f : Fn1} (h : RowL w cs l) (h7 : FnC w c7 f) : RowL w (cs ++ c7) (l ++ [f])
theorem RowL.mono {w w' : World} {cs : List Value} {l : List Fn1} (h : RowL w cs l) (hb : Below w.heap.size w w') : RowL w' cs l := by
  induction h with
  | nil => exact .nil
  | snoc _ h7 ih => exact .snoc ih (h7.mono hb)
theorem FnC.len {w : World} {cs : List Value} {f : Fn1} (h : FnC w cs f) : cs.length = 7 := by
  obtain ⟨A1, c1, A3, c3, rfl, _⟩ := h; rfl
theorem RowL.len {w : World} {cs : List Value} {l : List Fn1} (h : RowL w cs l) : cs.length = l.length * 7 := by
  induction h with
  | nil => rfl
  | snoc _ h7 ih => rw [List.length_append, ih, h7.len, List.length_append]; simp; omega
theorem RowL.one {w : World} {cs : List Value} {l : List Fn1} (h : RowL w cs l) : ∀ u ∈ cs, u.oneCell' = true := by
  induction h with
  | nil => intro u hu; simp at hu
  | snoc _ h7 ih =>
    intro u hu
    rcases List.mem_append.1 hu with h | h
    · exact ih u h
    · exact h7.one u h
theorem RowL.append {w : World} {cs : List Value} {l : List Fn1} (h : RowL w cs l) {cs' : List Value} {l' : List Fn1} (h' : RowL w cs' l') : RowL w (cs ++ cs') (l ++ l') := by
  induction h' with
  | nil => simpa using h
  | snoc _ h7 ih => rw [← List.append_assoc, ← List.append_assoc]; exact .snoc ih h7
theorem RowL.get {w : World} {cs : List Value} {l : List Fn1} (h : RowL w cs l) : ∀ (k : Nat) (f : Fn1), l[k]? = some f → ∃ c7, FnC w c7 f ∧ ∀ j, j < 7 → cs[k * 7 + j]? = c7[j]? := by
  induction h with
  | nil => intro k f hk; simp at hk
  | @snoc cs l c7 f hr h7 ih =>
    intro k g hk
    have hl := hr.len
    by_cases hlt : k < l.length
    · rw [List.getElem?_append_left hlt] at hk
      obtain ⟨c, h1, h2⟩ := ih k g hk
      refine ⟨c, h1, fun j hj => ?_⟩
      rw [List.getElem?_append_left (by omega)]
      exact h2 j hj
    · have hkl : k = l.length := by
        have := (List.getElem?_eq_some_iff.1 hk).1
        simp at this; omega
      subst hkl
      rw [List.getElem?_append_right (Nat.le_refl _)] at hk
      simp at hk
      subst hk
      refine ⟨c7, h7, fun j hj => ?_⟩
      rw [List.getElem?_append_right (by omega), hl]
      congr 1; omega

theorem nd_of_cells {w : World} {b o : Nat} {x : Nd} {A : Option Addr} {cap : Nat} (c0 : w.cell? ⟨b, o, none⟩ = some (.int .u8 x.kind)) (c1 : w.cell? ⟨b, o + 1, none⟩ = some (.int .i64 x.num)) (c2 : w.cell? ⟨b, o + 2, none⟩ = some (.string x.name)) (c3 : w.cell? ⟨b, o + 3, none⟩ = some (.slice A x.kids.length cap)) (hK : NdsAt w A x.kids) : NdO w b o x := by
  by_cases h0 : 0 < x.kids.length
  · obtain ⟨b1, o1, hA, _⟩ := hK.at_ h0
    exact .mk c0 c1 c2 c3 (fun _ => hA) (fun j z hz => by
      obtain ⟨b2, o2, hA2, h2⟩ := hK j z hz
      rw [hA] at hA2
      simp at hA2
      obtain ⟨rfl, rfl⟩ := hA2
      exact h2)
  · exact .mk (b' := 0) (o' := 0) c0 c1 c2 c3 (fun h => absurd h h0) (fun j z hz => by
      have := (List.getElem?_eq_some_iff.1 hz).1; omega)
theorem fnO_of_cells {w : World} {b o : Nat} {f : Fn1} {c7 : List Value} (h : FnC w c7 f) (hc : ∀ j, j < 7 → w.cell? ⟨b, o + j, none⟩ = c7[j]?) : FnO w b o f := by
  obtain ⟨A1, c1, A3, c3, rfl, hp, hn⟩ := h
  have e0 := hc 0 (by omega)
  have e1 := hc 1 (by omega)
  have e2 := hc 2 (by omega)
  have e3 := hc 3 (by omega)
  have e4 := hc 4 (by omega)
  have e5 := hc 5 (by omega)
  have e6 := hc 6 (by omega)
  simp at e0 e1 e2 e3 e4 e5 e6
  exact ⟨e0, ⟨A1, c1, e1, hp⟩, e2, nd_of_cells e3 e4 e5 e6 hn⟩
theorem FnO.cells {w : World} {b o : Nat} {f : Fn1} (h : FnO w b o f) : ∃ c7, FnC w c7 f ∧ ∀ (j : Nat) (u : Value), c7[j]? = some u → w.cell? ⟨b, o + j, none⟩ = some u := by
  obtain ⟨c0, ⟨A1, c1, h1, hp⟩, c2, hb⟩ := h
  obtain ⟨A3, c3, d0, d1, d2, d3, hk⟩ := hb.open_
  refine ⟨_, ⟨A1, c1, A3, c3, rfl, hp, hk⟩, fun j u hj => ?_⟩
  match j, hj with
  | 0, hj => simp at hj; subst hj; exact c0
  | 1, hj => simp at hj; subst hj; exact h1
  | 2, hj => simp at hj; subst hj; exact c2
  | 3, hj => simp at hj; subst hj; exact d0
  | 4, hj => simp at hj; subst hj; exact d1
  | 5, hj => simp at hj; subst hj; exact d2
  | 6, hj => simp at hj; subst hj; exact d3
  | j + 7, hj => simp at hj

/-- The cells of a library that lies in memory. -/
theorem LibAt.row {w : World} {A : Option Addr} {l : List Fn1} (h : LibAt w A l) : ∃ cs, RowL w cs l ∧ CellsAt w A cs := by
  have key : ∀ n, n ≤ l.length → ∃ cs, RowL w cs (l.take n) ∧ CellsAt w A cs := by
    intro n
    induction n with
    | zero => intro _; exact ⟨[], by simpa using RowL.nil, fun j u hu => by simp at hu⟩
    | succ n ih =>
      intro hn
      obtain ⟨cs, h1, h2⟩ := ih (by omega)
      obtain ⟨b, o, hA, hf⟩ := h.at_ (show n < l.length by omega)
      obtain ⟨c7, h3, h4⟩ := hf.cells
      refine ⟨cs ++ c7, by rw [List.take_succ_eq_append_getElem (by omega)]; exact .snoc h1 h3, fun j u hu => ?_⟩
      have hl := h1.len
      rw [List.length_take] at hl
      by_cases hj : j < cs.length
      · rw [List.getElem?_append_left hj] at hu; exact h2 j u hu
      · rw [List.getElem?_append_right (by omega)] at hu
        refine ⟨b, o, hA, ?_⟩
        have := h4 _ u hu
        rw [show o + n * 7 + (j - cs.length) = o + j by rw [hl]; rw [show min n l.length = n by omega] at *; omega] at this
        exact this
  have := key l.length (Nat.le_refl _)
  rwa [List.take_length] at this
/-- A row of functions is a library. -/
theorem lib_of_own {w : World} {base : Nat} {e : TypeId} {v : Value} {cs : List Value} {l : List Fn1} (h : w.ownsRow base e 7 v l.length cs) (hr : RowL w cs l) : ∃ A c, v = .slice A l.length c ∧ LibAt w A l := by
  obtain ⟨h1, h2⟩ := id h
  rcases h2 with ⟨rfl, h0⟩ | ⟨g, cap, cur, rfl, hg, hh, hc1, hc2, hc3, hc4⟩
  · refine ⟨none, 0, by rw [h0], fun k x hk => ?_⟩
    have : l = [] := List.length_eq_zero_iff.1 h0
    subst this; simp at hk
  · refine ⟨some ⟨g, 0, none⟩, cap, rfl, fun k f hk => ⟨g, 0, rfl, ?_⟩⟩
    obtain ⟨c7, h3, h4⟩ := hr.get k f hk
    refine fnO_of_cells h3 (fun j hj => ?_)
    rw [← h4 j hj]
    have hl := hr.len
    have hkl : k < l.length := (List.getElem?_eq_some_iff.1 hk).1
    have hlt : k * 7 + j < cs.length := by omega
    have := h.cells (g := g) rfl (k * 7 + j) (cs[k * 7 + j]'hlt) (List.getElem?_eq_getElem hlt)
    rw [add0] at this
    rw [List.getElem?_eq_getElem hlt, Nat.zero_add]; exact this
theorem own_empty (w : World) {e : TypeId} {size : Nat} : (w.alloc (Obj.cells #[] e)).ownsRow w.heap.size e size (.slice (some ⟨w.heap.size, 0, none⟩) 0 0) 0 [] :=
  ⟨by simp, .inr ⟨w.heap.size, 0, #[], rfl, Nat.le_refl _, heap_alloc_new w _, Nat.le_refl _, by simp [maxLen], by simp, by simp⟩⟩

theorem info_func : (Tryd.prog.info? 55).map (fun i => (i.zero, i.size, i.bytes)) = some (some (.agg #[.string ⟨#[]⟩, .slice none 0 0, .bool false, .int .u8 0, .int .i64 0, .string ⟨#[]⟩, .slice none 0 0]), 7, 104) := by kernel_rfl

end Go.Proofs.YtcoeakdpcigogaaDoor
