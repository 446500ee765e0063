/-
  The contracts of the reference's Symbol, Line, Format.
-/
import Derived.Test.YtodiijoeeeeicaaDoorAsmRDm
import Derived.Test.YtodiijoeeeeicaaDoorAsmRBn
import Derived.Test.YtodiijoeeeeicaaDoorAsmFmt
namespace Go.Proofs.YtodiijoeeeeicaaDoor
open Go.ChangeShapes Go.WideShapes Go.ChangeAt Go.RowKit Go.Sort

set_option maxRecDepth 100000 in
set_option maxHeartbeats 1000000 in
theorem rsym_any (v : Nat) (h0 : 8 ≤ v) (h1 : v ≤ 23) (w : World) :
    Calls Tryd.prog 62 #[.int .u8 v] w fun e w' => e = .returned (.string (bs (symb v))) ∧ w = w' := by
  rcases (show v = 8 ∨ v = 9 ∨ v = 10 ∨ v = 11 ∨ v = 12 ∨ v = 13 ∨ v = 14 ∨ v = 15 ∨ v = 16 ∨ v = 17 ∨ v = 18 ∨ v = 19 ∨ v = 20 ∨ v = 21 ∨ v = 22 ∨ v = 23 by omega) with h | h | h | h | h | h | h | h | h | h | h | h | h | h | h | h
  all_goals
    subst h
    clear h0 h1
    go_enter Tryd.func62, Tryd.ntmps62
    go_wp2_with fail
    go_ret
    exact ⟨rfl, rfl⟩
theorem opsW_last {x : Ins} {k : Nat} (h : k < (clsL x.op).length) : opsW x (k + 1) = opsW x k ++ 32 :: wrd ((clsL x.op)[k]'h) (opdI x k) := by
  rw [opsW_succ, List.getD_eq_getElem?_getD, List.getElem?_eq_getElem h]; simp
theorem cls_at {op k : Nat} (h : k < (clsL op).length) : (clsL op)[k]'h = 114 ∨ (clsL op)[k]'h = 107 ∨ (clsL op)[k]'h = 110 ∨ (clsL op)[k]'h = 116 ∨ (clsL op)[k]'h = 101 ∨ (clsL op)[k]'h = 111 := clsL_mem (op := op) (List.getElem_mem h)
theorem valid_okAt {x : Ins} (h : vIns x = true) (hf : FitI x) {k : Nat} (hk : k < (clsL x.op).length) : okW ((clsL x.op)[k]'hk) (opdI x k) := by
  have := valid_okW h hf hk
  rwa [List.getD_eq_getElem?_getD, List.getElem?_eq_getElem hk] at this
set_option maxRecDepth 100000 in
set_option maxHeartbeats 4000000 in
theorem rline_any (x : Ins) (hop : x.op < 256) (w : World) (hv : vIns x = true) (hf : FitI x) :
    Calls Tryd.prog 35 #[.agg #[.int .u8 x.op, .int .i64 x.a, .int .i64 x.b, .int .i64 x.c, .int .i64 x.d]] w fun e w' => e = .returned (.string (bs (lineI x))) ∧ Below w.heap.size w w' := by
  have HX0 := Lib.hid (bx_new w #[.int .u8 x.op, .int .i64 x.a, .int .i64 x.b, .int .i64 x.c, .int .i64 x.d] 43)
  have HB0 := Lib.hid (below_box w (Obj.cells #[.int .u8 x.op, .int .i64 x.a, .int .i64 x.b, .int .i64 x.c, .int .i64 x.d] 43))
  have hml := mnem_len x.op
  have hsz8 := bs_size (clsL x.op)
  have hcl := (clsL_len x.op).2
  have HV := Lib.hid (And.intro hv hf)
  clear hv hf
  go_enter Tryd.func35, Tryd.ntmps35
  go_upto_region 1 with fail
  generalize w.alloc _ = W at HX0 HB0 ⊢
  have hsz0 := HB0.out.size
  obtain ⟨x0, x1, x2, x3, x4, _⟩ := HX0.out.five
  have HMN := Lib.hid (refMnemonic_any x.op hop W)
  go_wp2_with fail
  refine HMN.out.mono ?_
  rintro e W1 ⟨rfl, hb1⟩
  have HX1 := Lib.hid (HX0.out.below hb1)
  have HB1 := Lib.hid (below_step HB0.out HB0.out.size hb1)
  clear x0 x1 x2 x3 x4 HMN hb1 HX0 HB0 hsz0
  obtain ⟨x0, x1, x2, x3, x4, _⟩ := HX1.out.five
  have HCL := Lib.hid (rclasses_any x.op hop W1)
  go_wp2_with fail
  refine HCL.out.mono ?_
  rintro e W2 ⟨rfl, hb2⟩
  have HX2 := Lib.hid (HX1.out.below hb2)
  have HB2 := Lib.hid (below_step HB1.out HB1.out.size hb2)
  clear x0 x1 x2 x3 x4 HCL hb2 HX1 HB1
  go_upto_region 4 with fail
  have H0 := Lib.hid (show Below W2.heap.size W2 W2 from Below.refl _ _)
  go_loopw [3, 6] (fun s i wr => ∃ k : Nat, k ≤ (clsL x.op).length ∧ i = .int .i64 k ∧ s = .string (bs (mnem x.op ++ opsW x k)) ∧ Hid (Below W2.heap.size W2 wr)) (fun _ i _ => (clsL x.op).length - (intOf i).toNat)
  case atStart => exact ⟨0, by omega, rfl, by rw [show mnem x.op ++ opsW x 0 = mnem x.op by simp [opsW, wdsI]]; rfl, H0⟩
  case round =>
    obtain ⟨k, hk, rfl, rfl, hb⟩ := hrel
    by_cases hin : k < (clsL x.op).length
    · have HX3 := Lib.hid (HX2.out.below hb.out)
      obtain ⟨x0, x1, x2, x3, x4, _⟩ := HX3.out.five
      have HOP := Lib.hid (ropd_any x.op x.a x.b x.c x.d k (by omega) wr)
      have r1 : (0 : Int) ≤ k := by omega
      have r2 : (k : Int) < (bs (clsL x.op)).size := by omega
      have r3 : (k : Int) < (clsL x.op).length := by omega
      have hlw := opsW_len HV.out.1 HV.out.2 k hk
      have hz := bs_size (mnem x.op ++ opsW x k)
      have hz2 : (bs (mnem x.op ++ opsW x k)).size ≤ 1000 := by rw [hz, List.length_append]; omega
      have HSU := Lib.hid (show mnem x.op ++ opsW x (k + 1) = (mnem x.op ++ opsW x k) ++ 32 :: wrd ((clsL x.op)[k]'hin) (opd x.a x.b x.c x.d k) by rw [opsW_last hin, List.append_assoc]; rfl)
      have hfit := HV.out.2.opd k
      have hok := valid_okAt HV.out.1 HV.out.2 hin
      have ho : opdI x k = opd x.a x.b x.c x.d k := rfl
      rw [ho] at hfit hok
      go_wp2_with fail
      refine HOP.out.mono ?_
      rintro e w7 ⟨rfl, hb7⟩
      have q7 := Lib.hid (below_step hb.out hb.out.size hb7)
      clear x0 x1 x2 x3 x4 hb7 HOP
      generalize opd x.a x.b x.c x.d k = v at *
      generalize mnem x.op ++ opsW x k = s at *
      have hzi : (bs (Lib.itoa v)).size ≤ 30 := by rw [bs_size]; exact Nat.le_trans (Lib.itoa_length_le v hfit.1 hfit.2) (by decide)
      have hc1 : ¬ 9223372036854775807 < (bs s).size + 1 := by omega
      have hc2 : ¬ 9223372036854775807 < (bs s).size + 2 := by omega
      have hc3 : ¬ 9223372036854775807 < (bs s).size + 1 + (bs (Lib.itoa v)).size := by omega
      have hc4 : ¬ 9223372036854775807 < (bs s).size + 2 + (bs (Lib.itoa v)).size := by omega
      have HDE := Lib.hid (rdec_any v w7 hfit)
      have hbg : (bs (clsL x.op))[k]'(by omega) = (clsL x.op)[k]'hin := by rw [bs_get, List.getD_eq_getElem?_getD, List.getElem?_eq_getElem hin]; rfl
      rcases cls_at hin with e | e | e | e | e | e
      · have e2 : (bs (clsL x.op))[k]'(by omega) = 114 := by rw [hbg]; exact e
        rw [e] at HSU hok
        have HB := Lib.hid (show bs s ++ ⟨#[32, 114]⟩ ++ bs (Lib.itoa v) = bs (s ++ 32 :: wrd 114 v) by
          rw [show (⟨#[32, 114]⟩ : ByteArray) = bs [32, 114] from rfl, bs_app, bs_app, List.append_assoc]; rfl)
        go_wp2_with fail
        refine HDE.out.mono ?_
        rintro e w8 ⟨rfl, rfl⟩
        go_wp2_with fail
        exact ⟨⟨k + 1, by omega, by go_num, by rw [HSU.out, HB.out], q7⟩, by simp [intOf]; omega⟩
      · have e2 : (bs (clsL x.op))[k]'(by omega) = 107 := by rw [hbg]; exact e
        rw [e] at HSU hok
        have HB := Lib.hid (show bs s ++ ⟨#[32]⟩ ++ bs (Lib.itoa v) = bs (s ++ 32 :: wrd 107 v) by
          rw [show (⟨#[32]⟩ : ByteArray) = bs [32] from rfl, bs_app, bs_app, List.append_assoc]; rfl)
        go_wp2_with fail
        refine HDE.out.mono ?_
        rintro e w8 ⟨rfl, rfl⟩
        go_wp2_with fail
        exact ⟨⟨k + 1, by omega, by go_num, by rw [HSU.out, HB.out], q7⟩, by simp [intOf]; omega⟩
      · have e2 : (bs (clsL x.op))[k]'(by omega) = 110 := by rw [hbg]; exact e
        rw [e] at HSU hok
        have HB := Lib.hid (show bs s ++ ⟨#[32]⟩ ++ bs (Lib.itoa v) = bs (s ++ 32 :: wrd 110 v) by
          rw [show (⟨#[32]⟩ : ByteArray) = bs [32] from rfl, bs_app, bs_app, List.append_assoc]; rfl)
        go_wp2_with fail
        refine HDE.out.mono ?_
        rintro e w8 ⟨rfl, rfl⟩
        go_wp2_with fail
        exact ⟨⟨k + 1, by omega, by go_num, by rw [HSU.out, HB.out], q7⟩, by simp [intOf]; omega⟩
      · have e2 : (bs (clsL x.op))[k]'(by omega) = 116 := by rw [hbg]; exact e
        rw [e] at HSU hok
        have HB := Lib.hid (show bs s ++ ⟨#[32]⟩ ++ bs (Lib.itoa v) = bs (s ++ 32 :: wrd 116 v) by
          rw [show (⟨#[32]⟩ : ByteArray) = bs [32] from rfl, bs_app, bs_app, List.append_assoc]; rfl)
        go_wp2_with fail
        refine HDE.out.mono ?_
        rintro e w8 ⟨rfl, rfl⟩
        go_wp2_with fail
        exact ⟨⟨k + 1, by omega, by go_num, by rw [HSU.out, HB.out], q7⟩, by simp [intOf]; omega⟩
      · have e2 : (bs (clsL x.op))[k]'(by omega) = 101 := by rw [hbg]; exact e
        rw [e] at HSU hok
        have HB := Lib.hid (show bs s ++ ⟨#[32]⟩ ++ bs (Lib.itoa v) = bs (s ++ 32 :: wrd 101 v) by
          rw [show (⟨#[32]⟩ : ByteArray) = bs [32] from rfl, bs_app, bs_app, List.append_assoc]; rfl)
        go_wp2_with fail
        refine HDE.out.mono ?_
        rintro e w8 ⟨rfl, rfl⟩
        go_wp2_with fail
        exact ⟨⟨k + 1, by omega, by go_num, by rw [HSU.out, HB.out], q7⟩, by simp [intOf]; omega⟩
      · have e2 : (bs (clsL x.op))[k]'(by omega) = 111 := by rw [hbg]; exact e
        rw [e] at HSU hok
        obtain ⟨hv8, hv23⟩ : 8 ≤ v ∧ v ≤ 23 := by
          unfold okW at hok
          rwa [if_pos rfl] at hok
        obtain ⟨vn, rfl⟩ : ∃ vn : Nat, v = vn := ⟨v.toNat, by omega⟩
        have HB := Lib.hid (show bs s ++ ⟨#[32]⟩ ++ bs (symb (vn : Int)) = bs (s ++ 32 :: wrd 111 (vn : Int)) by
          rw [show (⟨#[32]⟩ : ByteArray) = bs [32] from rfl, bs_app, bs_app, List.append_assoc]; rfl)
        have HSY := Lib.hid (rsym_any vn (by omega) (by omega) w7)
        have hvm : (vn : Int) % 256 = vn := by omega
        have hzs : (bs (symb (vn : Int))).size ≤ 30 := by
          rw [bs_size]
          have := wrd_len hok hfit.1 hfit.2
          have hw : wrd 111 (vn : Int) = symb vn := rfl
          rw [hw] at this
          omega
        have hc5 : ¬ 9223372036854775807 < (bs s).size + 1 + (bs (symb (vn : Int))).size := by omega
        go_wp2_with fail
        refine HSY.out.mono ?_
        rintro e w8 ⟨rfl, rfl⟩
        go_wp2_with fail
        exact ⟨⟨k + 1, by omega, by go_num, by rw [HSU.out, HB.out], q7⟩, by simp [intOf]; omega⟩
    · obtain rfl : k = (clsL x.op).length := by omega
      go_wp2_with fail
      go_ret
      exact ⟨by rw [lineI_eq]; rfl, below_step HB2.out HB2.out.size hb.out⟩

end Go.Proofs.YtodiijoeeeeicaaDoor
