/-
  AsmFixed: the walk.
-/
import Derived.Test.YtodiijoeeeeicaaDoorAsmL3
namespace Go.Proofs.YtodiijoeeeeicaaDoor
open Go.ChangeShapes Go.WideShapes Go.ChangeAt Go.RowKit Go.Sort

theorem checkA_ok {l : List Ins} (h : ∀ x ∈ l, vIns x = true ∧ FitI x) (hn : l.length ≤ 65536) : checkA l = 0 := by
  unfold checkA
  rw [if_neg (by omega), if_pos (List.all_eq_true.2 fun x hx => (h x hx).1)]
theorem decN_nz : ∀ (n : Nat) (b : List UInt8) (acc : List Ins) (c : Int), decN n b acc = .err c → c ≠ 0
  | 0, b, acc, c, h => by
    rw [decN] at h
    split at h
    · cases h
    · cases h; decide
  | n + 1, b, acc, c, h => by
    rw [decN_succ] at h
    cases hd : decI b with
    | err e =>
      rw [hd] at h
      cases h
      have := decI_err hd
      omega
    | ok x r => rw [hd] at h; exact decN_nz n r _ c h
theorem decA_nz {b : List UInt8} {c : Int} (h : decA b = .err c) : c ≠ 0 := by
  unfold decA at h
  split at h
  · cases h; decide
  · split at h
    · cases h; decide
    · exact decN_nz _ _ _ _ h
theorem prsA_nz : ∀ (f : Nat) (s : List UInt8) (acc : List Ins) (n : Nat) (c : Int), prsA f s acc = .err n c → c ≠ 0
  | 0, s, acc, n, c, h => by cases h
  | f + 1, s, acc, n, c, h => by
    rw [prsA] at h
    split at h
    · cases h
    · split at h
      · cases h; decide
      · cases hr : readI (cutA s).1 with
        | none => rw [hr] at h; cases h; decide
        | some x =>
          rw [hr] at h
          dsimp only at h
          split at h
          · cases h; decide
          · exact prsA_nz f _ _ n c h
set_option maxRecDepth 100000 in
set_option maxHeartbeats 2000000 in
theorem asmFixed_walk (s b : List UInt8) (B : Option Addr) (cap : Nat) (w : World) (hB : BysAt w B b) (hcap : b.length ≤ cap) (hs : s.length ≤ 9223372036854775807) (hb : b.length ≤ 9223372036854775807) (hT : Tab w) (hS : TabS w) (hW : Wld w) :
    Calls Tryd.prog 11 #[.string (bs s), .slice B b.length cap] w fun e w' => e = .returned (.bool true) ∧ Below w.heap.size w w' := by
  have HAW := Lib.hid (awake_any w hT hS hW)
  have HTS := Lib.hid (And.intro hT (And.intro hS hW))
  have HB := Lib.hid hB
  have hsz := bs_size s
  clear hT hS hW hB
  go_enter Tryd.func11, Tryd.ntmps11
  go_wp2_with fail
  refine HAW.out.mono ?_
  rintro e W1 ⟨rfl, hb1⟩
  have q1 := Lib.hid hb1
  clear hb1 HAW
  by_cases h600 : 600 < s.length
  · have h600' : (600 : Int) < s.length := by omega
    go_wp2_with fail
    go_ret
    exact ⟨rfl, q1.out⟩
  by_cases g600 : 600 < b.length
  · have h600' : (s.length : Int) ≤ 600 := by omega
    have g600' : (600 : Int) < b.length := by omega
    go_wp2_with fail
    go_ret
    exact ⟨rfl, q1.out⟩
  have h600' : (s.length : Int) ≤ 600 := by omega
  have g600' : (b.length : Int) ≤ 600 := by omega
  have HP := Lib.hid (parse_any s W1 (by omega) (HTS.out.1.mono q1.out) (HTS.out.2.1.mono q1.out) (HTS.out.2.2.below q1.out))
  have HLN := Lib.hid (And.intro (show s.length ≤ 600 by omega) (show b.length ≤ 600 by omega))
  clear hs hb h600 g600
  have HDD : Hid (∀ (W : World) (hW : Below w.heap.size w W), Calls Tryd.prog 25 #[.slice B b.length cap] W (RetDA b W)) := fun W hW => decode_any b B cap W (HB.out.mono hW) hcap (HTS.out.1.mono hW)
  go_wp2_with fail
  refine HP.out.mono ?_
  rintro e W2 he
  unfold RetPA at he
  cases hp : parseA s with
  | err n c =>
    rw [hp] at he
    obtain ⟨hb2, rfl⟩ := he
    have q2 := Lib.hid (below_step q1.out q1.out.size hb2)
    have hcz : (c == 0) = false := beq_eq_false_iff_ne.2 (prsA_nz _ _ _ _ _ hp)
    clear hb2 HP
    go_wp2_with fail
    refine (HDD.out W2 q2.out).mono ?_
    rintro e W5 he
    unfold RetDA at he
    cases hd : decA b with
    | err c =>
      rw [hd] at he
      obtain ⟨hb5, rfl⟩ := he
      have q5 := Lib.hid (below_step q2.out q2.out.size hb5)
      have hcn : (c == 0) = false := beq_eq_false_iff_ne.2 (decA_nz hd)
      clear hb5
      go_wp2_with fail
      go_ret
      exact ⟨rfl, q5.out⟩
    | ok m =>
      rw [hd] at he
      obtain ⟨v5, rfl, hw5, hy5⟩ := he
      obtain ⟨A5, c5, rfl, hcode⟩ := code_of_own hw5.2
      have q5 := Lib.hid (below_step q2.out q2.out.size hw5.1)
      have HOK := Lib.hid (decA_ok hd)
      have HE := Lib.hid (encode_any m A5 c5 W5 hcode hy5 (HTS.out.1.mono q5.out) (by have := HOK.out.2.2; omega))
      clear hw5 hy5 hcode
      go_wp2_with fail
      refine HE.out.mono ?_
      rintro e W6 he
      unfold RetE at he
      rw [if_pos (checkA_ok HOK.out.2.1 HOK.out.2.2), HOK.out.1] at he
      obtain ⟨v6, rfl, hw6⟩ := he
      obtain ⟨A6, c6, rfl, _, hby6⟩ := bys_of_own hw6.2.1
      have q6 := Lib.hid (below_step q5.out q5.out.size hw6.1)
      have hcv1 := bstr_run hby6 c6
      have hcv2 := bstr_run (HB.out.mono q6.out) cap
      clear hw6 hby6 HE
      go_wp2_with fail
      go_ret
      exact ⟨rfl, q6.out⟩
  | ok l =>
    rw [hp] at he
    obtain ⟨v, rfl, hw2, hy2⟩ := he
    obtain ⟨A2, c2, rfl, hcode2⟩ := code_of_own hw2.2
    have q2 := Lib.hid (below_step q1.out q1.out.size hw2.1)
    have HPO := Lib.hid (parseA_ok hp)
    have HFM := Lib.hid (format_any l A2 c2 W2 hcode2 hy2 (fun x hx => (HPO.out.2.1 x hx).2) (HTS.out.1.mono q2.out) (HTS.out.2.1.mono q2.out) (HTS.out.2.2.below q2.out) (by have := HPO.out.2.2; omega))
    clear hw2 hcode2 hy2 HP
    go_wp2_with fail
    refine HFM.out.mono ?_
    rintro e W3 ⟨he, hb3⟩
    rw [checkA_ok HPO.out.2.1 HPO.out.2.2, if_pos rfl, HPO.out.1] at he
    subst he
    have q3 := Lib.hid (below_step q2.out q2.out.size hb3)
    clear hb3 HFM
    go_wp2_with fail
    refine (HDD.out W3 q3.out).mono ?_
    rintro e W5 he
    unfold RetDA at he
    cases hd : decA b with
    | err c =>
      rw [hd] at he
      obtain ⟨hb5, rfl⟩ := he
      have q5 := Lib.hid (below_step q3.out q3.out.size hb5)
      have hcn : (c == 0) = false := beq_eq_false_iff_ne.2 (decA_nz hd)
      clear hb5
      go_wp2_with fail
      go_ret
      exact ⟨rfl, q5.out⟩
    | ok m =>
      rw [hd] at he
      obtain ⟨v5, rfl, hw5, hy5⟩ := he
      obtain ⟨A5, c5, rfl, hcode⟩ := code_of_own hw5.2
      have q5 := Lib.hid (below_step q3.out q3.out.size hw5.1)
      have HOK := Lib.hid (decA_ok hd)
      have HE := Lib.hid (encode_any m A5 c5 W5 hcode hy5 (HTS.out.1.mono q5.out) (by have := HOK.out.2.2; omega))
      clear hw5 hy5 hcode
      go_wp2_with fail
      refine HE.out.mono ?_
      rintro e W6 he
      unfold RetE at he
      rw [if_pos (checkA_ok HOK.out.2.1 HOK.out.2.2), HOK.out.1] at he
      obtain ⟨v6, rfl, hw6⟩ := he
      obtain ⟨A6, c6, rfl, _, hby6⟩ := bys_of_own hw6.2.1
      have q6 := Lib.hid (below_step q5.out q5.out.size hw6.1)
      have hcv1 := bstr_run hby6 c6
      have hcv2 := bstr_run (HB.out.mono q6.out) cap
      clear hw6 hby6 HE
      go_wp2_with fail
      go_ret
      exact ⟨rfl, q6.out⟩

end Go.Proofs.YtodiijoeeeeicaaDoor
