/-
  The walk of the law AnfValid.
-/
import Derived.Test.YtcoeakdpcigogaaDoorAnfLib
namespace Go.Proofs.YtcoeakdpcigogaaDoor
open Go.ChangeShapes Go.WideShapes Go.ChangeAt Go.RowKit Go.Sort Go.Maps

set_option maxRecDepth 100000 in
set_option maxHeartbeats 8000000 in
theorem law_valid {w : World} (lib : List Fn1) (A : Option Addr) (c : Nat) (hO : LibOp w A lib) :
    Calls Tryd.prog 4 #[.slice A lib.length c] w fun e w' => e = .returned (.bool true) ∧ Below w.heap.size w w' := by
  have HO := Lib.hid hO
  have HAW := Lib.hid (awake_any hO.W)
  clear hO
  go_enter Tryd.func4, Tryd.ntmps4
  go_wp2_with fail
  refine HAW.out.mono ?_
  clear HAW
  rintro e w1 ⟨rfl, hb1⟩
  have HB1 := Lib.hid hb1
  have HSM := Lib.hid ((HO.out.below hb1).small c)
  clear hb1
  go_wp2_with fail
  refine HSM.out.mono ?_
  clear HSM
  rintro e w2 ⟨rfl, hb2⟩
  have HB2 := Lib.hid (below_step HB1.out HB1.out.size hb2)
  clear hb2
  cases hsm : smallB lib with
  | false =>
    rw [oneB_f rfl]
    go_wp2_with fail
    go_ret
    exact ⟨rfl, HB2.out⟩
  | true =>
    rw [oneB_t rfl]
    have HSB := Lib.hid hsm
    have HNZ := Lib.hid ((HO.out.below HB2.out).normalize hsm c)
    clear hsm
    go_wp2_with fail
    refine HNZ.out.mono ?_
    clear HNZ
    rintro e w3 ⟨hb3, ⟨hv, rfl⟩ | ⟨hv, A3, c3, rfl, hA3⟩⟩
    · have HB3 := Lib.hid (below_step HB2.out HB2.out.size hb3)
      have hne : ((validR lib).2 != 0) = true := by simpa using hv
      clear hb3 hv
      generalize (validR lib).2 = ev at hne ⊢
      go_wp2_with fail
      go_ret
      exact ⟨rfl, HB3.out⟩
    · have HB3 := Lib.hid (below_step HB2.out HB2.out.size hb3)
      have HV := Lib.hid hv
      have HA3 := Lib.hid hA3
      have HRV := Lib.hid (rev_norm hv)
      have HV1 := Lib.hid (libB_norm hv)
      have HV2 := Lib.hid (libB_norm (lib := lib.reverse) (by rw [rev_valid hv]))
      rw [rev_norm hv] at HV2
      have HFT := Lib.hid (norm_fit HO.out.F HSB.out hv)
      have HLN := Lib.hid (normL_len lib)
      have h8 := (small_facts HSB.out).1
      clear hb3 hv hA3 HRV
      have hl8 : (normL lib).length ≤ 8 := by rw [HLN.out]; exact h8
      have e8 := HLN.out
      rw [← e8]
      clear e8 HLN h8
      generalize normL lib = l at *
      obtain ⟨i0, hi0, hz0, hz1, hz2⟩ := info_parts info_af
      have HI := Lib.hid (And.intro hi0 (And.intro hz0 (And.intro hz1 hz2)))
      clear hi0 hz0 hz1 hz2
      go_wp2_with fail
      go_loopw [5, 6] (fun v i wr => ∃ m : Nat, m ≤ l.length ∧ i = .int .i64 ((m : Int) - 1) ∧ Hid (NzR w3 wr v (l.reverse.take (l.length - m)))) (fun _ i _ => (intOf i + 1).toNat)
      case atStart => exact ⟨l.length, by omega, rfl, by rw [Nat.sub_self, List.take_zero]; exact Lib.hid (NzR.start w3)⟩
      case round =>
        obtain ⟨m, hm, rfl, hrow⟩ := hrel
        cases m with
        | zero =>
          rw [Nat.sub_zero, List.take_of_length_le (by simp)] at hrow
          obtain ⟨A5, c5, rfl, h5⟩ := hrow.out.done
          have HA5 := Lib.hid h5
          have HBR := Lib.hid hrow.out.1
          have HB5 := Lib.hid (below_step HB3.out HB3.out.size hrow.out.1)
          have HC1 := Lib.hid (avalid_any l A3 c3 wr (HA3.out.below hrow.out.1) (fun f hf => (HFT.out f hf).1) (fun f hf => (HFT.out f hf).2) (by omega))
          rw [HV1.out] at HC1
          clear hrow h5
          go_wp2_with fail
          refine HC1.out.mono ?_
          clear HC1
          rintro e w6 ⟨rfl, hb6⟩
          have HB6 := Lib.hid (below_step HB5.out HB5.out.size hb6)
          have HC2 := Lib.hid (avalid_any l.reverse A5 c5 w6 (HA5.out.below hb6) (fun f hf => (HFT.out f (List.mem_reverse.1 hf)).1) (fun f hf => (HFT.out f (List.mem_reverse.1 hf)).2) (by rw [List.length_reverse]; omega))
          rw [HV2.out, List.length_reverse] at HC2
          clear hb6
          go_wp2_with fail
          refine HC2.out.mono ?_
          clear HC2
          rintro e w7 ⟨rfl, hb7⟩
          have HB7 := Lib.hid (below_step HB6.out HB6.out.size hb7)
          clear hb7
          go_wp2_with fail
          go_ret
          exact ⟨rfl, HB7.out⟩
        | succ m =>
          rw [show (((m + 1 : Nat) : Int) - 1) = (m : Int) by omega]
          have HSTP := Lib.hid (rev_take hm)
          obtain ⟨hb, cs, ho, hr⟩ := hrow.out
          have hlen : (l.reverse.take (l.length - (m + 1))).length = l.length - (m + 1) := by rw [List.length_take, List.length_reverse]; omega
          have HHL := Lib.hid hlen
          rw [hlen] at ho
          obtain ⟨Av, cv, rfl, hcv, hqq⟩ := own_formB ho
          clear hqq hlen
          have HOW := Lib.hid ho
          have HR := Lib.hid hr
          have HBR := Lib.hid hb
          have hmm : m < l.length := by omega
          obtain ⟨b, o, c6, rfl, hc, hcell⟩ := HA3.out m _ (List.getElem?_eq_getElem hmm)
          have HC := Lib.hid hc
          have HSZ := Lib.hid hb.size
          generalize l[m] = f at *
          obtain ⟨Ap, cp, Aτ, cτ, Ab, cb, rfl, _⟩ := hc
          have d0 := below_cell hb (hcell 0 _ rfl)
          have d1 := below_cell hb (hcell 1 _ rfl)
          have d2 := below_cell hb (hcell 2 _ rfl)
          have d3 := below_cell hb (hcell 3 _ rfl)
          have d4 := below_cell hb (hcell 4 _ rfl)
          have d5 := below_cell hb (hcell 5 _ rfl)
          rw [Nat.add_zero] at d0
          have hlb := block_lt_of_cell d0
          have rk1 : (0 : Int) ≤ m := by omega
          clear hcell hrow ho hr hb
          generalize hn : l.length - (m + 1) = n at *
          go_wp2_with (at_builtin; go_loud (refine wpList_app _ rfl _ _ 25 rfl w3.heap.size 39 i0 (.agg #[.string ⟨#[]⟩, .slice none 0 0, .bool false, .slice none 0 0, .slice none 0 0, .string ⟨#[]⟩]) 6 112 Tryd.underlying25 HI.out.1 HI.out.2.1 HI.out.2.2.1 HI.out.2.2.2 rfl (by decide) (.slice Av n cv) n cs rfl (own_below HOW.out (below_box wr _)) (some ⟨wr.heap.size, 0, none⟩) 1 1 [.string f.name, .slice Ap f.params.length cp, .bool f.list, .slice Aτ f.temps.length cτ, .slice Ab f.body.length cb, .string f.result] rfl rfl (cells_newC wr rfl _ _) (fun u hu => by simp at hu; rcases hu with rfl | rfl | rfl | rfl | rfl | rfl <;> rfl) (by unfold maxLen; omega) (by omega) (by have := HSZ.out; simp; omega) ?_; intro v' w9 hown' hgrow hat))
          have hpu := NzR.keep (l := l.reverse.take n) HBR.out (by rw [HHL.out]; exact HOW.out) HR.out HC.out (by rw [HHL.out]; exact hown') hgrow hat
          rw [← HSTP.out] at hpu
          exact ⟨⟨m, by omega, by go_num, Lib.hid hpu⟩, by simp [intOf]⟩

end Go.Proofs.YtcoeakdpcigogaaDoor
