/-
  A code slice as cells; the contract of slices.Clone at []api.Instr.
-/
import Derived.Test.YthakiaicnhkfjaaDoorImgCheck
import Derived.WalkSpells
namespace Go.Proofs.YthakiaicnhkfjaaDoor
open Go.ChangeShapes Go.WideShapes Go.ChangeAt Go.RowKit Go.Sort

def Ins.five (x : Ins) : List Value := [.int .u8 x.op, .int .i64 x.a, .int .i64 x.b, .int .i64 x.c, .int .i64 x.d]
def cellsL : List Ins → List Value
  | [] => []
  | x :: r => x.five ++ cellsL r
theorem cellsL_length : ∀ l, (cellsL l).length = l.length * 5
  | [] => rfl
  | x :: r => by simp [cellsL, Ins.five, cellsL_length r]; omega
theorem cellsL_append : ∀ l r, cellsL (l ++ r) = cellsL l ++ cellsL r
  | [], r => rfl
  | x :: l, r => by simp [cellsL, cellsL_append l r]
theorem cellsL_get : ∀ (l : List Ins) (k r : Nat) (x : Ins), l[k]? = some x → r < 5 → (cellsL l)[k * 5 + r]? = x.five[r]?
  | [], k, r, x, h, _ => by simp at h
  | y :: l, 0, r, x, h, hr => by
    simp at h; subst h
    rw [Nat.zero_mul, Nat.zero_add]
    show (y.five ++ cellsL l)[r]? = _
    rw [List.getElem?_append_left (by simpa [Ins.five] using hr)]
  | y :: l, k + 1, r, x, h, hr => by
    simp at h
    show (y.five ++ cellsL l)[(k + 1) * 5 + r]? = _
    rw [List.getElem?_append_right (by simp [Ins.five]; omega), show (k + 1) * 5 + r - y.five.length = k * 5 + r by simp [Ins.five]; omega]
    exact cellsL_get l k r x h hr
theorem cellsL_one (l : List Ins) : ∀ u ∈ cellsL l, u.oneCell' = true := by
  induction l with
  | nil => intro u hu; cases hu
  | cons x r ih =>
    intro u hu
    rcases List.mem_append.1 hu with h | h
    · simp [Ins.five] at h; rcases h with rfl | rfl | rfl | rfl | rfl <;> rfl
    · exact ih u h
theorem cellsL_set : ∀ (l : List Ins) (j : Nat) (y : Ins), j < l.length → (((((cellsL l).set (j * 5) (.int .u8 y.op)).set (j * 5 + 1) (.int .i64 y.a)).set (j * 5 + 2) (.int .i64 y.b)).set (j * 5 + 3) (.int .i64 y.c)).set (j * 5 + 4) (.int .i64 y.d) = cellsL (l.set j y)
  | [], j, y, h => by simp at h
  | x :: l, 0, y, h => by simp [cellsL, Ins.five]
  | x :: l, j + 1, y, h => by
    have ih := cellsL_set l j y (by simpa using h)
    simp only [List.set_cons_succ, cellsL]
    rw [← ih]
    have e : ∀ (L : List Value) (m : Nat) (v : Value), (x.five ++ L).set ((j + 1) * 5 + m) v = x.five ++ L.set (j * 5 + m) v := fun L m v => by
      rw [List.set_append_right _ _ (by simp [Ins.five]; omega)]
      congr 2; simp [Ins.five]; omega
    have e0 : ∀ (L : List Value) (v : Value), (x.five ++ L).set ((j + 1) * 5) v = x.five ++ L.set (j * 5) v := fun L v => e L 0 v
    rw [e0, e, e, e, e]

theorem codeAt_cells {w : World} {b o : Nat} {l : List Ins} (h : CodeAt w (some ⟨b, o, none⟩) l) : ∀ (j : Nat) (u : Value), (cellsL l)[j]? = some u → w.cell? ((⟨b, o, none⟩ : Addr).add j) = some u := by
  intro j u hj
  have hl := cellsL_length l
  have hjl := (List.getElem?_eq_some_iff.1 hj).1
  have hk : j / 5 < l.length := by omega
  have hx : l[j / 5]? = some l[j / 5] := List.getElem?_eq_getElem hk
  have hget := cellsL_get l (j / 5) (j % 5) _ hx (by omega)
  rw [show j / 5 * 5 + j % 5 = j by omega, hj] at hget
  obtain ⟨b', o', e, hi⟩ := h _ _ hx
  obtain ⟨rfl, rfl⟩ : b = b' ∧ o = o' := by simpa using e
  have hadd : (⟨b, o, none⟩ : Addr).add j = ⟨b, o + j, none⟩ := by unfold Addr.add; by_cases h : j = 0 <;> simp [h]
  rw [hadd]
  have hc : j % 5 = 0 ∨ j % 5 = 1 ∨ j % 5 = 2 ∨ j % 5 = 3 ∨ j % 5 = 4 := by omega
  rcases hc with h5 | h5 | h5 | h5 | h5 <;> rw [h5] at hget <;> simp [Ins.five] at hget <;> rw [hget]
  · rw [show o + j = o + j / 5 * 5 by omega]; exact hi.c0
  · rw [show o + j = o + j / 5 * 5 + 1 by omega]; exact hi.c1
  · rw [show o + j = o + j / 5 * 5 + 2 by omega]; exact hi.c2
  · rw [show o + j = o + j / 5 * 5 + 3 by omega]; exact hi.c3
  · rw [show o + j = o + j / 5 * 5 + 4 by omega]; exact hi.c4

theorem code_of_own {w : World} {base : Nat} {e : TypeId} {v : Value} {l : List Ins} (h : w.ownsRow base e 5 v l.length (cellsL l)) : ∃ A c, v = .slice A l.length c ∧ CodeAt w A l := by
  rcases id h.2 with ⟨rfl, h0⟩ | ⟨g, cap, cur, rfl, hg, hh, hc1, hc2, hc3, hc4⟩
  · refine ⟨none, 0, by rw [h0], fun k x hk => ?_⟩
    have : l = [] := List.length_eq_zero_iff.1 h0
    subst this; simp at hk
  · refine ⟨some ⟨g, 0, none⟩, cap, rfl, fun k x hk => ⟨g, 0, rfl, ?_⟩⟩
    have hget : ∀ r, r < 5 → w.cell? ⟨g, k * 5 + r, none⟩ = x.five[r]? := fun r hr => by
      have hkl := (List.getElem?_eq_some_iff.1 hk).1
      rw [h.cellAt (k * 5 + r) (by omega)]
      exact cellsL_get l k r x hk hr
    rw [Nat.zero_add]
    exact ⟨hget 0 (by omega), hget 1 (by omega), hget 2 (by omega), hget 3 (by omega), hget 4 (by omega)⟩

theorem info_ins : (Tryd.prog.info? 38).map (fun i => (i.zero, i.size, i.bytes)) = some (some (.agg #[.int .u8 0, .int .i64 0, .int .i64 0, .int .i64 0, .int .i64 0]), 5, 40) := by kernel_rfl

/-- A code slice of the call's own. -/
def OwnCode (w : World) (l : List Ins) (e : Ending) (w' : World) : Prop := ∃ v, e = .returned v ∧ w'.ownsRow w.heap.size 38 5 v l.length (cellsL l) ∧ Below w.heap.size w w'

set_option maxRecDepth 100000 in
set_option maxHeartbeats 400000 in
theorem clone_any (l : List Ins) (A : Option Addr) (cap : Nat) (w : World) (hC : CodeAt w A l) (hl : l.length ≤ 1000000) :
    Calls Tryd.prog 31 #[.slice A l.length cap] w (OwnCode w l) := by
  obtain ⟨i0, hi, hz0, hz1, hz2⟩ := info_parts info_ins
  have HI := Lib.hid (And.intro hi (And.intro hz0 (And.intro hz1 hz2)))
  clear hi hz0 hz1 hz2
  cases A with
  | none =>
    obtain rfl : l = [] := by
      cases l with
      | nil => rfl
      | cons x r => obtain ⟨b, o, e, _⟩ := hC 0 x rfl; cases e
    have hnil := fun (w : World) (n c n' c' : Nat) => Lib.run_eql_slice_nil (P := Tryd.prog) w 22 38 none n c n' c' Tryd.underlying22
    simp only [Option.isNone_none] at hnil
    go_enter Tryd.func31, Tryd.ntmps31
    go_wp2
    go_ret
    exact ⟨_, rfl, ⟨rfl, .inl ⟨rfl, rfl⟩⟩, Below.refl _ _⟩
  | some a =>
    have hnil := fun (w : World) (n c n' c' : Nat) => Lib.run_eql_slice_nil (P := Tryd.prog) w 22 38 (some a) n c n' c' Tryd.underlying22
    simp only [Option.isNone_some] at hnil
    have hsrc : ∀ (o : Obj) (j : Nat) (u : Value), (cellsL l)[j]? = some u → (w.alloc o).cell? (a.add j) = some u := fun o j u hj => by
      cases l with
      | nil => simp [cellsL] at hj
      | cons x r =>
        obtain ⟨b, o', e, _⟩ := hC 0 x rfl
        injection e with e; subst e
        exact codeAt_cells (hC.mono (below_box w o)) j u hj
    have HS := Lib.hid hsrc
    clear hsrc hC
    have hown0 : ∀ (w : World), (w.alloc (Obj.cells #[] 38)).ownsRow w.heap.size 38 5 (.slice (some ⟨w.heap.size, 0, none⟩) 0 0) 0 [] := fun w =>
      ⟨rfl, .inr ⟨w.heap.size, 0, #[], rfl, Nat.le_refl _, (by show (w.heap.push _)[w.heap.size]? = _; simp), Nat.le_refl _, by unfold maxLen; omega, rfl, rfl⟩⟩
    have HO := Lib.hid hown0
    clear hown0
    go_enter Tryd.func31, Tryd.ntmps31
    go_wp2_with (at_builtin; (refine wpList_append_own _ rfl _ _ 22 rfl w.heap.size 38 i0 (.agg #[.int .u8 0, .int .i64 0, .int .i64 0, .int .i64 0, .int .i64 0]) 5 40 Tryd.underlying22 HI.out.1 HI.out.2.1 HI.out.2.2.1 HI.out.2.2.2 rfl (by decide) _ 0 [] rfl (HO.out _) a l.length cap (cellsL l) rfl (cellsL_length l) (HS.out _) (cellsL_one l) (by unfold maxLen; omega) (by omega) (by simp) ?_; intro v' w1 hown' hgrow _; have hb1 := ((below_box w (Obj.cells #[] 38)).grown hgrow (by simp) (own_block_ge (HO.out w))); simp only [Nat.zero_add, List.nil_append] at hown'; have HOW := Lib.hid hown'; clear hown' hgrow))
    go_ret
    exact ⟨v', rfl, HOW.out, hb1⟩

end Go.Proofs.YthakiaicnhkfjaaDoor
