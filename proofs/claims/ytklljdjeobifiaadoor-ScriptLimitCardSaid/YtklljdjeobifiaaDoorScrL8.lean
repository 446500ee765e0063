/-
  ScriptLimit: the walk.
-/
import Derived.Test.YtklljdjeobifiaaDoorScrLimP
namespace Go.Proofs.YtklljdjeobifiaaDoor
open Go.ChangeShapes Go.WideShapes Go.ChangeAt Go.RowKit Go.Sort Go.Maps

set_option maxRecDepth 100000 in
set_option maxHeartbeats 1000000 in
theorem scriptLimit_walk (n : Nat) (hn : n < 256) (w : World) (hW : Wld w) :
    Calls Tryd.prog 10 #[.int .u8 n] w fun e w' => e = .returned (.bool true) ∧ Below w.heap.size w w' := by
  have HWl := Lib.hid hW
  have HAW := Lib.hid (awake_any w hW)
  obtain ⟨i0, hi0, hz0, hz1, hz2⟩ := info_parts info_cmd
  have HI := Lib.hid (And.intro hi0 (And.intro hz0 (And.intro hz1 hz2)))
  clear hW hi0 hz0 hz1 hz2
  go_enter Tryd.func10, Tryd.ntmps10
  go_wp2_with fail
  refine HAW.out.mono ?_
  rintro e W1 ⟨rfl, hb1⟩
  have q1 := Lib.hid hb1
  have HW1 := Lib.hid (HWl.out.below hb1)
  clear hb1 HAW
  go_upto_region 7 with fail
  rw [show (990 + (n : Int) % 21) = ((990 + n % 21 : Nat) : Int) by omega]
  have hk1 : 990 + n % 21 ≤ 1010 := by omega
  generalize 990 + n % 21 = k at *
  go_loopw [4, 5, 18] (fun v x i wr => ∃ (j : Nat) (cs : List Value), j ≤ k ∧ i = .int .i64 j ∧ x = .string (bs (fmtL (List.replicate j ckC))) ∧ Hid (PR w v (List.replicate j ckC) cs wr)) (fun _ _ i _ => k - (intOf i).toNat)
  case atStart => exact ⟨0, [], by omega, rfl, rfl, ⟨q1.out, World.ownsRow_nil _ _ _ _, .nil⟩⟩
  case round =>
    obtain ⟨j, cs, hj, rfl, rfl, hR⟩ := hrel
    by_cases hjk : j < k
    · obtain ⟨Av, cv, ev, _, _⟩ := own_formB hR.out.own
      rw [List.length_replicate] at ev
      subst ev
      have hz : (bs (fmtL (List.replicate j ckC))).size = 6 * j := by rw [bs_size, ck_len]
      have HS := Lib.hid (show bs (fmtL (List.replicate j ckC)) ++ ({ data := #[99, 104, 101, 99, 107, 10] } : ByteArray) = bs (fmtL (List.replicate (j + 1) ckC)) by rw [ck_snoc, ← bs_app]; rfl)
      have b4 := below_box wr (Obj.cells #[.int .u8 5, .string ⟨#[]⟩, .string ⟨#[]⟩, .slice none 0 0] 42)
      have HO := Lib.hid (hR.out.below b4)
      have HOW := Lib.hid (show (wr.alloc (Obj.cells #[.int .u8 5, .string ⟨#[]⟩, .string ⟨#[]⟩, .slice none 0 0] 42)).ownsRow w.heap.size 42 4 (.slice Av j cv) j cs by have := HO.out.own; rw [List.length_replicate] at this; exact this)
      have HON := Lib.hid (CmC.one (w := wr) [.int .u8 5, .string ⟨#[]⟩, .string ⟨#[]⟩, .slice none 0 0] ckC ⟨none, 0, rfl, fun k x hk => by simp [ckC] at hk⟩)
      have HP := Lib.hid (fun (v' : Value) (w6 : World) hg (ho : w6.ownsRow w.heap.size 42 4 v' (j + 1) (cs ++ [.int .u8 5, .string ⟨#[]⟩, .string ⟨#[]⟩, .slice none 0 0])) hor => show PR w v' (List.replicate (j + 1) ckC) _ w6 by
        rw [List.replicate_succ']
        exact HO.out.push (c := ckC) (A := none) (cap := 0) (fun k x hk => by simp [ckC] at hk) (fun b o k y e => by cases e) hg (by rw [List.length_replicate]; exact ho) hor)
      clear b4 hR
      generalize fmtL (List.replicate j ckC) = tx at *
      go_wp2_with (at_builtin; go_loud (refine wpList_app _ rfl (.tmp 20) (.tmp 22) 28 rfl w.heap.size 42 i0 (.agg #[.int .u8 0, .string ⟨#[]⟩, .string ⟨#[]⟩, .slice none 0 0]) 4 64 Tryd.underlying28 HI.out.1 HI.out.2.1 HI.out.2.2.1 HI.out.2.2.2 rfl (by decide) _ j cs rfl HOW.out (some ⟨wr.heap.size, 0, none⟩) 1 1 [.int .u8 5, .string ⟨#[]⟩, .string ⟨#[]⟩, .slice none 0 0] rfl rfl (cells_newU wr rfl _ _) HON.out (by unfold maxLen; omega) (by omega) HO.out.le.size ?_; intro v' w6 hown' hgrow hor; have NX := Lib.hid (HP.out _ _ hgrow hown' hor); clear hown' hgrow hor))
      exact ⟨⟨j + 1, _, by omega, by go_num, by rw [HS.out], NX⟩, by simp [intOf]; omega⟩
    · obtain rfl : j = k := by omega
      obtain ⟨Av, cv, ev, hC⟩ := cms_of_row hR.out
      rw [List.length_replicate] at ev
      subst ev
      have q2 := Lib.hid hR.out.le
      have HWr := Lib.hid (HWl.out.below hR.out.le)
      have HSM := Lib.hid (show ∀ c ∈ List.replicate j ckC, Sm c from fun c hc => by rw [(List.mem_replicate.1 hc).2]; exact okC_sm ck_ok)
      have HCM := Lib.hid hC
      have HF := Lib.hid (format_any (List.replicate j ckC) Av cv wr hC (by rw [List.length_replicate]; omega) HSM.out (ck_fits j) HWr.out (by rw [ck_len]; omega))
      have HV := Lib.hid (fun (W : World) (hb : Below wr.heap.size wr W) => validL_any (List.replicate j ckC) Av cv W (HCM.out.mono hb) (by rw [List.length_replicate]; omega) HSM.out)
      have HPA := Lib.hid (fun (W : World) (hW : Wld W) => parse_any (fmtL (List.replicate j ckC)) W hW (by rw [ck_len]; omega))
      rw [List.length_replicate] at HF HV
      clear hC hR
      by_cases hb : j ≤ 1000
      · have HO := Lib.hid (show okL (List.replicate j ckC) = true by rw [ck_okL]; exact decide_eq_true hb)
        have HPR := Lib.hid (parse_rep j hb)
        generalize hT : fmtL (List.replicate j ckC) = tx at *
        have HT := Lib.hid hT
        clear hT
        go_wp2_with fail
        refine HF.out.mono ?_
        rintro e W3 ⟨rfl, hb3⟩
        rw [if_pos HO.out, if_pos HO.out, HT.out]
        have q3 := Lib.hid (below_step q2.out q2.out.size hb3)
        have HP3 := Lib.hid (HPA.out W3 (HWr.out.below hb3))
        go_wp2_with fail
        refine HP3.out.mono ?_
        rintro e W4 ⟨hb4, ⟨m, e0, h, rfl⟩ | ⟨l, A, cap, h, _, rfl⟩⟩
        · rw [HPR.out] at h; cases h
        rw [HPR.out] at h
        obtain rfl : List.replicate j ckC = l := by injection h
        have q4 := Lib.hid (below_step q3.out q3.out.size hb4)
        have HV4 := Lib.hid (HV.out W4 (below_step hb3 hb3.size hb4))
        rw [HO.out] at HV4
        rw [List.length_replicate]
        clear hb3 hb4 h HP3 HF
        go_wp2_with fail
        refine HV4.out.mono ?_
        rintro e W5 ⟨rfl, hb5⟩
        have q5 := Lib.hid (below_step q4.out q4.out.size hb5)
        clear hb5
        go_wp2_with fail
        go_ret
        exact ⟨rfl, q5.out⟩
      · have HO := Lib.hid (show ¬ okL (List.replicate j ckC) = true by rw [ck_okL]; simpa using hb)
        have HPR := Lib.hid (parse_rep_big j (by omega))
        generalize hT : fmtL (List.replicate j ckC) = tx at *
        clear hT
        go_wp2_with fail
        refine HF.out.mono ?_
        rintro e W3 ⟨rfl, hb3⟩
        rw [if_neg HO.out, if_neg HO.out]
        have q3 := Lib.hid (below_step q2.out q2.out.size hb3)
        have HP3 := Lib.hid (HPA.out W3 (HWr.out.below hb3))
        go_wp2_with fail
        refine HP3.out.mono ?_
        rintro e W4 ⟨hb4, ⟨m, e0, h, rfl⟩ | ⟨l, A, cap, h, _, rfl⟩⟩
        rotate_left
        · rw [HPR.out] at h; cases h
        rw [HPR.out] at h
        obtain ⟨rfl, rfl⟩ : 1001 = m ∧ 5 = e0 := by injection h with h1 h2; exact ⟨h1, h2⟩
        have q4 := Lib.hid (below_step q3.out q3.out.size hb4)
        have HV4 := Lib.hid (HV.out W4 (below_step hb3 hb3.size hb4))
        rw [Bool.eq_false_iff.2 HO.out] at HV4
        have ze : (bs []).toList.isEmpty = true := empty_bs []
        clear hb3 hb4 h HP3 HF
        go_wp2_with fail
        refine HV4.out.mono ?_
        rintro e W5 ⟨rfl, hb5⟩
        have q5 := Lib.hid (below_step q4.out q4.out.size hb5)
        clear hb5
        go_wp2_with fail
        go_ret
        exact ⟨rfl, q5.out⟩

end Go.Proofs.YtklljdjeobifiaaDoor
