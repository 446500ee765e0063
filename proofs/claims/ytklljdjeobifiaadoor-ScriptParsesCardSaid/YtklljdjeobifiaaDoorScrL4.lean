/-
  ScriptOne: the walk.
-/
import Derived.Test.YtklljdjeobifiaaDoorScrAwake
namespace Go.Proofs.YtklljdjeobifiaaDoor
open Go.ChangeShapes Go.WideShapes Go.ChangeAt Go.RowKit Go.Sort Go.Maps

theorem okC_sm {c : Cm} (h : okC c = true) : Sm c := by
  obtain ⟨s, hs⟩ := okC_iff.1 h
  refine ⟨?_, ?_, by have := hs.m; omega⟩
  · cases hn : s.name with
    | true => have := nm_len (hs.n1 hn); omega
    | false => rw [hs.n2 hn]; simp
  · cases ht : s.text with
    | true => have := (hs.t2 ht).1; omega
    | false => rw [hs.t1 ht]; simp
theorem okL_sm {l : List Cm} (h : okL l = true) : ∀ c ∈ l, Sm c := by
  unfold okL at h
  simp only [Bool.and_eq_true, List.all_eq_true] at h
  exact fun c hc => okC_sm (h.2 c hc)
theorem prs_err : ∀ (f : Nat) (s : List UInt8) (acc : List Cm) (line n : Nat) (e : Int), prs f s acc line = .err n e → e ≠ 0
  | 0, _, _, _, _, _, h => by cases h
  | f + 1, s, acc, line, n, e, h => by
    rw [prs] at h
    split at h
    · cases h
    split at h
    · cases h; decide
    cases hr : read1 s with
    | err e2 =>
      rw [hr] at h
      cases h
      rcases read1_err hr with h | h <;> rw [h] <;> decide
    | ok c rest =>
      rw [hr] at h
      exact prs_err f rest _ _ n e h
theorem okL_len {l : List Cm} (h : okL l = true) : l.length ≤ 1000 := by
  unfold okL at h
  simp only [Bool.and_eq_true, decide_eq_true_eq] at h
  exact h.1

set_option maxRecDepth 100000 in
set_option maxHeartbeats 1000000 in
theorem scriptOne_walk (s : List UInt8) (w : World) (hW : Wld w) (hs : s.length ≤ 9223372036854775807) :
    Calls Tryd.prog 6 #[.string (bs s)] w fun e w' => e = .returned (.bool true) ∧ Below w.heap.size w w' := by
  have HWl := Lib.hid hW
  have HAW := Lib.hid (awake_any w hW)
  have hz := bs_size s
  clear hW
  go_enter Tryd.func6, Tryd.ntmps6
  go_wp2_with fail
  refine HAW.out.mono ?_
  rintro e W1 ⟨rfl, hb1⟩
  have q1 := Lib.hid hb1
  have HW1 := Lib.hid (HWl.out.below hb1)
  clear hb1 HAW
  by_cases hbig : 20000 < s.length
  · go_wp2_with fail
    go_ret
    exact ⟨rfl, q1.out⟩
  have HP := Lib.hid (parse_any s W1 HW1.out (by omega))
  go_wp2_with fail
  refine HP.out.mono ?_
  rintro e W2 ⟨hb2, ⟨n, e0, h, rfl⟩ | ⟨l, A, cap, h, hC, rfl⟩⟩
  · have q2 := Lib.hid (below_step q1.out q1.out.size hb2)
    have hn := prs_line _ _ _ _ _ _ h
    have he0 : e0 ≠ 0 := prs_err _ _ _ _ _ _ h
    clear hb2 h HP
    go_wp2_with fail
    go_ret
    exact ⟨ret_bool (decide_eq_true (by omega)), q2.out⟩
  · have q2 := Lib.hid (below_step q1.out q1.out.size hb2)
    obtain ⟨ho, hf, hfm⟩ := parse_ok h
    have HCM := Lib.hid hC
    have HOK := Lib.hid ho
    have hl9 : l.length ≤ 9223372036854775807 := by have := okL_len ho; omega
    have HW2 := Lib.hid (HW1.out.below hb2)
    have HF := Lib.hid (format_any l A cap W2 hC hl9 (okL_sm ho) hf HW2.out (by rw [hfm]; omega))
    have HFM := Lib.hid hfm
    clear hb2 h HP hC hf hfm ho
    go_wp2_with fail
    refine HF.out.mono ?_
    rintro e W3 ⟨rfl, hb3⟩
    rw [if_pos HOK.out, if_pos HOK.out, HFM.out]
    have q3 := Lib.hid (below_step q2.out q2.out.size hb3)
    have HV := Lib.hid (validL_any l A cap W3 (HCM.out.mono hb3) hl9 (okL_sm HOK.out))
    rw [HOK.out] at HV
    clear hb3 HF
    go_wp2_with fail
    refine HV.out.mono ?_
    rintro e W4 ⟨rfl, hb4⟩
    have q4 := Lib.hid (below_step q3.out q3.out.size hb4)
    clear hb4 HV
    go_wp2_with fail
    go_ret
    exact ⟨rfl, q4.out⟩

end Go.Proofs.YtklljdjeobifiaaDoor
