/-
  Rows of instructions that the call has made. (The lemmas on cellsL as in XImgClone, over this seat's translation.)
-/
import Derived.Test.YtodiijoeeeeicaaDoorAsmEnc
namespace Go.Proofs.YtodiijoeeeeicaaDoor
open Go.ChangeShapes Go.WideShapes Go.ChangeAt Go.RowKit Go.Sort


def Ins.five (x : Ins) : List Value := [.int .u8 x.op, .int .i64 x.a, .int .i64 x.b, .int .i64 x.c, .int .i64 x.d]
def cellsL : List Ins → List Value
  | [] => []
  | x :: r => x.five ++ cellsL r
theorem cellsL_length : ∀ l, (cellsL l).length = l.length * 5
  | [] => rfl
  | x :: r => by simp [cellsL, Ins.five, cellsL_length r]; omega
theorem cellsL_append : ∀ l r, cellsL (l ++ r) = cellsL l ++ cellsL r
  | [], r => rfl
  | x :: l, r => by simp [cellsL, cellsL_append l r]
theorem cellsL_get : ∀ (l : List Ins) (k r : Nat) (x : Ins), l[k]? = some x → r < 5 → (cellsL l)[k * 5 + r]? = x.five[r]?
  | [], k, r, x, h, _ => by simp at h
  | y :: l, 0, r, x, h, hr => by
    simp at h; subst h
    rw [Nat.zero_mul, Nat.zero_add]
    show (y.five ++ cellsL l)[r]? = _
    rw [List.getElem?_append_left (by simpa [Ins.five] using hr)]
  | y :: l, k + 1, r, x, h, hr => by
    simp at h
    show (y.five ++ cellsL l)[(k + 1) * 5 + r]? = _
    rw [List.getElem?_append_right (by simp [Ins.five]; omega), show (k + 1) * 5 + r - y.five.length = k * 5 + r by simp [Ins.five]; omega]
    exact cellsL_get l k r x h hr
theorem cellsL_one (l : List Ins) : ∀ u ∈ cellsL l, u.oneCell' = true := by
  induction l with
  | nil => intro u hu; cases hu
  | cons x r ih =>
    intro u hu
    rcases List.mem_append.1 hu with h | h
    · simp [Ins.five] at h; rcases h with rfl | rfl | rfl | rfl | rfl <;> rfl
    · exact ih u h
theorem cellsL_set : ∀ (l : List Ins) (j : Nat) (y : Ins), j < l.length → (((((cellsL l).set (j * 5) (.int .u8 y.op)).set (j * 5 + 1) (.int .i64 y.a)).set (j * 5 + 2) (.int .i64 y.b)).set (j * 5 + 3) (.int .i64 y.c)).set (j * 5 + 4) (.int .i64 y.d) = cellsL (l.set j y)
  | [], j, y, h => by simp at h
  | x :: l, 0, y, h => by simp [cellsL, Ins.five]
  | x :: l, j + 1, y, h => by
    have ih := cellsL_set l j y (by simpa using h)
    simp only [List.set_cons_succ, cellsL]
    rw [← ih]
    have e : ∀ (L : List Value) (m : Nat) (v : Value), (x.five ++ L).set ((j + 1) * 5 + m) v = x.five ++ L.set (j * 5 + m) v := fun L m v => by
      rw [List.set_append_right _ _ (by simp [Ins.five]; omega)]
      congr 2; simp [Ins.five]; omega
    have e0 : ∀ (L : List Value) (v : Value), (x.five ++ L).set ((j + 1) * 5) v = x.five ++ L.set (j * 5) v := fun L v => e L 0 v
    rw [e0, e, e, e, e]

theorem codeAt_cells {w : World} {b o : Nat} {l : List Ins} (h : CodeAt w (some ⟨b, o, none⟩) l) : ∀ (j : Nat) (u : Value), (cellsL l)[j]? = some u → w.cell? ((⟨b, o, none⟩ : Addr).add j) = some u := by
  intro j u hj
  have hl := cellsL_length l
  have hjl := (List.getElem?_eq_some_iff.1 hj).1
  have hk : j / 5 < l.length := by omega
  have hx : l[j / 5]? = some l[j / 5] := List.getElem?_eq_getElem hk
  have hget := cellsL_get l (j / 5) (j % 5) _ hx (by omega)
  rw [show j / 5 * 5 + j % 5 = j by omega, hj] at hget
  obtain ⟨b', o', e, hi⟩ := h _ _ hx
  obtain ⟨rfl, rfl⟩ : b = b' ∧ o = o' := by simpa using e
  have hadd : (⟨b, o, none⟩ : Addr).add j = ⟨b, o + j, none⟩ := by unfold Addr.add; by_cases h : j = 0 <;> simp [h]
  rw [hadd]
  have hc : j % 5 = 0 ∨ j % 5 = 1 ∨ j % 5 = 2 ∨ j % 5 = 3 ∨ j % 5 = 4 := by omega
  rcases hc with h5 | h5 | h5 | h5 | h5 <;> rw [h5] at hget <;> simp [Ins.five] at hget <;> rw [hget]
  · rw [show o + j = o + j / 5 * 5 by omega]; exact hi.c0
  · rw [show o + j = o + j / 5 * 5 + 1 by omega]; exact hi.c1
  · rw [show o + j = o + j / 5 * 5 + 2 by omega]; exact hi.c2
  · rw [show o + j = o + j / 5 * 5 + 3 by omega]; exact hi.c3
  · rw [show o + j = o + j / 5 * 5 + 4 by omega]; exact hi.c4

theorem code_of_own {w : World} {base : Nat} {e : TypeId} {v : Value} {l : List Ins} (h : w.ownsRow base e 5 v l.length (cellsL l)) : ∃ A c, v = .slice A l.length c ∧ CodeAt w A l := by
  rcases id h.2 with ⟨rfl, h0⟩ | ⟨g, cap, cur, rfl, hg, hh, hc1, hc2, hc3, hc4⟩
  · refine ⟨none, 0, by rw [h0], fun k x hk => ?_⟩
    have : l = [] := List.length_eq_zero_iff.1 h0
    subst this; simp at hk
  · refine ⟨some ⟨g, 0, none⟩, cap, rfl, fun k x hk => ⟨g, 0, rfl, ?_⟩⟩
    have hget : ∀ r, r < 5 → w.cell? ⟨g, k * 5 + r, none⟩ = x.five[r]? := fun r hr => by
      have hkl := (List.getElem?_eq_some_iff.1 hk).1
      rw [h.cellAt (k * 5 + r) (by omega)]
      exact cellsL_get l k r x hk hr
    rw [Nat.zero_add]
    exact ⟨hget 0 (by omega), hget 1 (by omega), hget 2 (by omega), hget 3 (by omega), hget 4 (by omega)⟩

theorem info_ins : (Tryd.prog.info? 43).map (fun i => (i.zero, i.size, i.bytes)) = some (some (.agg #[.int .u8 0, .int .i64 0, .int .i64 0, .int .i64 0, .int .i64 0]), 5, 40) := by kernel_rfl

/-- A row of instructions that the call has made. -/
def WI (B : Nat) (W wr : World) (v : Value) (l : List Ins) : Prop := Below B W wr ∧ wr.ownsRow B 43 5 v l.length (cellsL l)
theorem WI.below {B : Nat} {W wc wx : World} {v : Value} {l : List Ins} (h : WI B W wc v l) (hB : B ≤ wc.heap.size) (hb : Below wc.heap.size wc wx) : WI B W wx v l := ⟨below_step h.1 hB hb, own_below h.2 hb⟩
theorem WI.push {B : Nat} {W wc w' : World} {v v' : Value} {l : List Ins} (h : WI B W wc v l) (hB : B ≤ wc.heap.size) (x : Ins) (hg : wc.grownBy w' v.ownBlock) (hown : w'.ownsRow B 43 5 v' (l.length + 1) (cellsL l ++ [.int .u8 x.op, .int .i64 x.a, .int .i64 x.b, .int .i64 x.c, .int .i64 x.d])) : WI B W w' v' (l ++ [x]) :=
  ⟨h.1.grown hg hB (fun k hk => own_block_geB h.2 k hk), by rw [List.length_append, cellsL_append]; simpa [cellsL, Ins.five] using hown⟩
theorem one_ins (x : Ins) : ∀ u : Value, u ∈ [Value.int .u8 x.op, .int .i64 x.a, .int .i64 x.b, .int .i64 x.c, .int .i64 x.d] → u.oneCell' = true := by
  intro u hu
  simp at hu
  rcases hu with h | h | h | h | h <;> (subst h; rfl)

end Go.Proofs.YtodiijoeeeeicaaDoor
