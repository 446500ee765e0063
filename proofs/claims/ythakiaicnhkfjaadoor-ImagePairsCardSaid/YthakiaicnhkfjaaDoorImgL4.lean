/-
  The walk of the law ImagePairs.
-/
import Derived.Test.YthakiaicnhkfjaaDoorImgL3
namespace Go.Proofs.YthakiaicnhkfjaaDoor
open Go.ChangeShapes Go.WideShapes Go.ChangeAt Go.RowKit Go.Sort

theorem pair_facts {i t : Int} {a b : Nat} (h : pairB i t a b = true) : lndB b = jmpB a ∧ jmpB b = lndB a ∧ ((b : Int) == 33) = ((a : Int) == 32) := by
  unfold pairB at h
  by_cases j : jmpB a = true
  · rw [if_pos j] at h
    refine ⟨by rw [h, j], ?_, ?_⟩
    · rw [jl_not j]
      simp [lndB, jmpB] at h ⊢; omega
    · rw [Bool.eq_iff_iff]; simp [jmpB, lndB] at j h ⊢; omega
  · rw [if_neg j] at h
    by_cases k : lndB a = true
    · rw [if_pos k] at h
      refine ⟨?_, by rw [h, k], ?_⟩
      · rw [jl_not h]; symm; simpa using j
      · rw [Bool.eq_iff_iff]; simp [jmpB, lndB] at k h ⊢; omega
    · rw [if_neg k] at h
      split at h <;> simp at h <;> obtain ⟨rfl, rfl⟩ := h <;> decide

theorem ptn_unpaired {l : List Ins} {i : Int} (h : pairedB (atI l i).op = false) : ptn l i = none := by
  cases hp : ptn l i with
  | none => rfl
  | some t => rw [ptn_paired hp] at h; cases h

set_option maxRecDepth 100000 in
set_option maxHeartbeats 4000000 in
theorem imagePairs_walk (l : List Ins) (A : Option Addr) (cap : Nat) (M S : Int) (w : World) (hC : CodeAt w A l) (hY : Bytes l) (hl63 : l.length ≤ 9223372036854775807) (hT : Tab w) :
    Calls Tryd.prog 7 #[.agg #[.slice A l.length cap, .int .i64 M, .int .i64 S]] w fun e w' => e = .returned (.bool true) ∧ Below w.heap.size w w' := by
  have hbW := below_box w (Obj.cells #[.slice A l.length cap, .int .i64 M, .int .i64 S] 24)
  have im := imgAt_box w 24 A cap M S l hC
  have HT := Lib.hid (hT.mono hbW)
  clear hC hT
  go_enter Tryd.func7, Tryd.ntmps7
  go_wp2_with fail
  generalize w.alloc _ = W at hbW im HT ⊢
  refine (awake23_any _ HT.out).mono ?_
  rintro e w1 ⟨rfl, hb1⟩
  have im1 := im.mono hb1
  have HT1 := Lib.hid (HT.out.mono hb1)
  have q1 := below_step hbW hbW.size hb1
  clear im HT hbW hb1
  obtain ⟨b0, b1, b2, bc⟩ := id im1
  clear bc
  go_wp2_with fail
  refine (great_any l _ _ _ _ _ hl63).mono ?_
  rintro e w2 ⟨rfl, hb2⟩
  have im2 := im1.mono hb2
  have HT2 := Lib.hid (HT1.out.mono hb2)
  have q2 := below_step q1 q1.size hb2
  clear im1 HT1 q1 hb2 b0 b1 b2
  obtain ⟨b0, b1, b2, bc⟩ := id im2
  clear bc
  by_cases h80 : 80 < l.length
  · have g80 : decide (80 < l.length) = true := by simpa using h80
    go_wp2
    go_ret
    exact ⟨rfl, q2⟩
  have g80 : decide (80 < l.length) = false := by simpa using h80
  have hl : l.length ≤ 1000000 := by omega
  go_wp2_with fail
  refine (ivalid_any l _ _ _ _ _ im2.code hY HT2.out hl).mono ?_
  rintro e w3 ⟨rfl, hb3⟩
  have im3 := im2.mono hb3
  have HT3 := Lib.hid (HT2.out.mono hb3)
  have q3 := below_step q2 q2.size hb3
  clear im2 HT2 q2 hb3 b0 b1 b2
  obtain ⟨b0, b1, b2, bc⟩ := id im3
  clear bc
  by_cases hok : okImg l M S = true
  rotate_left
  · have hok' : okImg l M S = false := by simpa using hok
    clear hok
    go_wp2
    go_ret
    exact ⟨rfl, q3⟩
  obtain ⟨hsz, hst⟩ := ok_iff.1 hok
  have hn16 : l.length ≤ 65536 := by simp [sizesB] at hsz; omega
  have HSZ := Lib.hid hsz
  have HST := Lib.hid hst
  clear hsz hst
  go_wp2
  clear b0 b1 b2
  go_loopw [23] (fun v wr => ∃ k : Nat, k ≤ l.length ∧ v = .int .i64 k ∧ Below w3.heap.size w3 wr) (fun v _ => l.length - (intOf v).toNat)
  case atStart => exact ⟨0, by omega, rfl, Below.refl _ _⟩
  case round =>
    obtain ⟨k, hk, rfl, hb⟩ := hrel
    have im4 := im3.mono hb
    have HT4 := Lib.hid (HT3.out.mono hb)
    have q4 := below_step q3 q3.size hb
    by_cases hin : k < l.length
    rotate_left
    · go_wp2
      go_ret
      exact ⟨rfl, q4⟩
    have hop := hY.at_ hin
    obtain ⟨b, o, rfl, hi⟩ := im4.code.at_ hin
    have hlt := hi.lt
    have hx : atI l (k : Int) = l[k] := atI_nat hin
    have hvx := HST.out.v k hin
    have hprx := HST.out.pr k hin
    have hcx := HST.out.call k hin
    rw [hx] at hvx hprx hcx
    generalize hxl : l[k] = x at *
    have Hx := Lib.hid hx
    clear hx hxl
    obtain ⟨c0, c1, c2, c3, c4⟩ := id hi
    obtain ⟨b0, b1, b2, bc⟩ := id im4
    have s4 := im4.lt
    have HPR := Lib.hid hprx
    have HCX := Lib.hid hcx
    have hvx' : validB x.op x.a x.b x.c x.d = true := hvx
    clear bc hprx hcx hvx
    go_wp2_with fail
    have ix := insAt_box wr 38 x.op x.a x.b x.c x.d
    have hbx := below_box wr (Obj.cells #[Value.int IntKind.u8 ↑x.op, Value.int IntKind.i64 x.a, Value.int IntKind.i64 x.b, Value.int IntKind.i64 x.c, Value.int IntKind.i64 x.d] 38)
    generalize wr.alloc _ = W5 at ix hbx ⊢
    have im5 := im4.mono hbx
    have HT5 := Lib.hid (HT4.out.mono hbx)
    have hb5 := below_step hb hb.size hbx
    clear c0 c1 c2 c3 c4 hi hlt b0 b1 b2 im4 HT4 hbx s4 q4
    refine (partner_any l _ _ _ _ _ _ im5.code hY HT5.out hl).mono ?_
    rintro e w6 ⟨rfl, hb6⟩
    have im6 := im5.mono hb6
    have HT6 := Lib.hid (HT5.out.mono hb6)
    have ix6 := ix.mono hb6
    have hb7 := below_step hb5 hb5.size hb6
    clear im5 HT5 ix hb5 hb6
    obtain ⟨c0, c1, c2, c3, c4, fz⟩ := id ix6
    rcases opc x.op with ⟨a1, a2, a3, a4, a5, a6⟩ | ⟨a1, a2, a3, a4, a5, a6⟩ | ⟨a1, a2, a3, a4, a5, a6⟩ | ⟨a1, a2, a3, a4, a5, a6⟩ | ⟨a1, a2, a3, a4, a5, a6⟩ | ⟨a1, a2, a3, a4, a5, a6⟩ | ⟨a1, a2, a3, a4, a5, a6⟩
    case inr.inr.inr.inr.inr.inr =>
      have hpb : pairedB x.op = false := by unfold pairedB; rw [a1, a2, beqN.symm.trans a5, beqN.symm.trans a6]; rfl
      have hn : ptn l (k : Int) = none := ptn_unpaired (by rw [Hx.out]; exact hpb)
      rw [hn]
      simp only [ptnI, Option.getD_none, Option.isSome_none]
      clear hn hpb
      go_wp2_with (first | (go_at_call 22; refine (isJump_any _ hop _).mono ?_; rintro e w' ⟨rfl, rfl⟩) | (go_at_call 23; refine (isLanding_any _ hop _).mono ?_; rintro e w' ⟨rfl, rfl⟩))
      refine (valid_any _ hop _ _ _ _ _ HT6.out).mono ?_
      rintro e w7 ⟨rfl, hb8⟩
      have ix7 := ix6.mono hb8
      have hb9 := below_step hb7 hb7.size hb8
      obtain ⟨e0, e1, e2, e3, e4, ez⟩ := id ix7
      go_wp2
      exact ⟨⟨k + 1, by omega, by go_num, hb9⟩, by simp [intOf]; omega⟩
    case inr.inr.inl =>
      have hpb : pairedB x.op = false := by unfold pairedB; rw [a1, a2, beqN.symm.trans a5, beqN.symm.trans a6]; rfl
      have hn : ptn l (k : Int) = none := ptn_unpaired (by rw [Hx.out]; exact hpb)
      have hcall : x.op = 30 ∨ x.op = 31 := by
        have h := a3; rw [beq_iff_eq] at h; omega
      obtain ⟨ee, hpe⟩ := HCX.out hcall
      have hrr := (ptn_range hpe.2).1
      obtain ⟨c, hc⟩ := Int.eq_ofNat_of_zero_le hrr.1
      have hcl : c < l.length := by omega
      have hc32 : l[c].op = 32 := by have := hpe.1; rw [hc, atI_nat hcl] at this; exact this
      have h3 : ((l[c].op : Int) != 32) = false := by rw [hc32]; rfl
      rw [hn]
      simp only [ptnI, Option.getD_none, Option.isSome_none]
      have HCc := Lib.hid hc
      clear hn hpb hcall hpe hrr hc32 hc
      go_wp2_with (first | (go_at_call 22; refine (isJump_any _ hop _).mono ?_; rintro e w' ⟨rfl, rfl⟩) | (go_at_call 23; refine (isLanding_any _ hop _).mono ?_; rintro e w' ⟨rfl, rfl⟩))
      refine (valid_any _ hop _ _ _ _ _ HT6.out).mono ?_
      rintro e w7 ⟨rfl, hb8⟩
      have ix7 := ix6.mono hb8
      have im7 := im6.mono hb8
      have hb9 := below_step hb7 hb7.size hb8
      obtain ⟨e0, e1, e2, e3, e4, ez⟩ := id ix7
      obtain ⟨b0, b1, b2, bc⟩ := id im7
      obtain ⟨b', o', e', hj⟩ := bc.at_ hcl
      obtain ⟨rfl, rfl⟩ : b = b' ∧ o = o' := by simpa using e'
      obtain ⟨y0, y1, y2, y3, y4⟩ := id hj
      clear bc e' c0 c1 c2 c3 c4 fz
      rw [HCc.out] at e1
      go_wp2
      exact ⟨⟨k + 1, by omega, by go_num, hb9⟩, by simp [intOf]; omega⟩
    case inr.inr.inr.inl =>
      have hpb : pairedB x.op = false := by unfold pairedB; rw [a1, a2, beqN.symm.trans a5, beqN.symm.trans a6]; rfl
      have hn : ptn l (k : Int) = none := ptn_unpaired (by rw [Hx.out]; exact hpb)
      have hcall : x.op = 30 ∨ x.op = 31 := by
        have h := a4; rw [beq_iff_eq] at h; omega
      obtain ⟨ee, hpe⟩ := HCX.out hcall
      have hrr := (ptn_range hpe.2).1
      obtain ⟨c, hc⟩ := Int.eq_ofNat_of_zero_le hrr.1
      have hcl : c < l.length := by omega
      have hc32 : l[c].op = 32 := by have := hpe.1; rw [hc, atI_nat hcl] at this; exact this
      have h3 : ((l[c].op : Int) != 32) = false := by rw [hc32]; rfl
      rw [hn]
      simp only [ptnI, Option.getD_none, Option.isSome_none]
      have HCc := Lib.hid hc
      clear hn hpb hcall hpe hrr hc32 hc
      go_wp2_with (first | (go_at_call 22; refine (isJump_any _ hop _).mono ?_; rintro e w' ⟨rfl, rfl⟩) | (go_at_call 23; refine (isLanding_any _ hop _).mono ?_; rintro e w' ⟨rfl, rfl⟩))
      refine (valid_any _ hop _ _ _ _ _ HT6.out).mono ?_
      rintro e w7 ⟨rfl, hb8⟩
      have ix7 := ix6.mono hb8
      have im7 := im6.mono hb8
      have hb9 := below_step hb7 hb7.size hb8
      obtain ⟨e0, e1, e2, e3, e4, ez⟩ := id ix7
      obtain ⟨b0, b1, b2, bc⟩ := id im7
      obtain ⟨b', o', e', hj⟩ := bc.at_ hcl
      obtain ⟨rfl, rfl⟩ : b = b' ∧ o = o' := by simpa using e'
      obtain ⟨y0, y1, y2, y3, y4⟩ := id hj
      clear bc e' c0 c1 c2 c3 c4 fz
      rw [HCc.out] at e1
      go_wp2
      exact ⟨⟨k + 1, by omega, by go_num, hb9⟩, by simp [intOf]; omega⟩
    case inl =>
      have hpb : pairedB x.op = true := by unfold pairedB; rw [a1, a2, beqN.symm.trans a5, beqN.symm.trans a6]; rfl
      obtain ⟨t, ht⟩ := HPR.out hpb
      have hsym := ptn_symm ht
      have hrr := (ptn_range ht).2
      obtain ⟨m, rfl⟩ := Int.eq_ofNat_of_zero_le hrr.1
      have hml : m < l.length := by omega
      have hym : atI l (m : Int) = l[m] := atI_nat hml
      have h9 := (ptn_spec.1 ht).2.2.2.2.2.2.2.2
      rw [Hx.out, hym] at h9
      obtain ⟨f1, f2, f3⟩ := pair_facts h9
      rw [a1] at f1
      rw [a2] at f2
      rw [a5] at f3
      have hopy := hY.at_ hml
      have hmk : ((m : Int) == k) = false := beq_eq_false_iff_ne.2 (fun e => hsym.2 e.symm)
      have Hs := Lib.hid hsym.1
      rw [ht]
      simp only [ptnI, Option.getD_some, Option.isSome_some]
      clear hpb ht hsym hrr hym h9
      generalize hyl : l[m] = y at *
      have Hyl := Lib.hid hyl
      clear hyl
      go_wp2_with (first | (go_at_call 22; refine (isJump_any _ hop _).mono ?_; rintro e w' ⟨rfl, rfl⟩) | (go_at_call 23; refine (isLanding_any _ hop _).mono ?_; rintro e w' ⟨rfl, rfl⟩))
      refine (valid_any _ hop _ _ _ _ _ HT6.out).mono ?_
      rintro e w7 ⟨rfl, hb8⟩
      have ix7 := ix6.mono hb8
      have im7 := im6.mono hb8
      have HT7 := Lib.hid (HT6.out.mono hb8)
      have hb9 := below_step hb7 hb7.size hb8
      clear ix6 im6 HT6 hb7 hb8 c0 c1 c2 c3 c4 fz
      obtain ⟨c0, c1, c2, c3, c4, fz⟩ := id ix7
      obtain ⟨b0, b1, b2, bc⟩ := id im7
      clear bc
      go_wp2_with fail
      refine (partner_any l _ _ _ _ _ _ im7.code hY HT7.out hl).mono ?_
      rintro e w8 ⟨rfl, hb10⟩
      rw [Hs.out]
      simp only [ptnI, Option.getD_some, Option.isSome_some]
      have ix8 := ix7.mono hb10
      have im8 := im7.mono hb10
      have hb11 := below_step hb9 hb9.size hb10
      clear ix7 im7 HT7 hb9 hb10 c0 c1 c2 c3 c4 fz b0 b1 b2
      obtain ⟨c0, c1, c2, c3, c4, fz⟩ := id ix8
      obtain ⟨b0, b1, b2, bc⟩ := id im8
      obtain ⟨b', o', e', hj⟩ := bc.at_ hml
      obtain ⟨rfl, rfl⟩ : b = b' ∧ o = o' := by simpa using e'
      rw [Hyl.out] at hj
      obtain ⟨y0, y1, y2, y3, y4⟩ := id hj
      clear bc e'
      go_wp2_with (first | (go_at_call 22; refine (isJump_any _ (by first | exact hop | exact hopy) _).mono ?_; rintro e w' ⟨rfl, rfl⟩) | (go_at_call 23; refine (isLanding_any _ (by first | exact hop | exact hopy) _).mono ?_; rintro e w' ⟨rfl, rfl⟩))
      exact ⟨⟨k + 1, by omega, by go_num, hb11⟩, by simp [intOf]; omega⟩
    case inr.inl =>
      have hpb : pairedB x.op = true := by unfold pairedB; rw [a1, a2, beqN.symm.trans a5, beqN.symm.trans a6]; rfl
      obtain ⟨t, ht⟩ := HPR.out hpb
      have hsym := ptn_symm ht
      have hrr := (ptn_range ht).2
      obtain ⟨m, rfl⟩ := Int.eq_ofNat_of_zero_le hrr.1
      have hml : m < l.length := by omega
      have hym : atI l (m : Int) = l[m] := atI_nat hml
      have h9 := (ptn_spec.1 ht).2.2.2.2.2.2.2.2
      rw [Hx.out, hym] at h9
      obtain ⟨f1, f2, f3⟩ := pair_facts h9
      rw [a1] at f1
      rw [a2] at f2
      rw [a5] at f3
      have hopy := hY.at_ hml
      have hmk : ((m : Int) == k) = false := beq_eq_false_iff_ne.2 (fun e => hsym.2 e.symm)
      have Hs := Lib.hid hsym.1
      rw [ht]
      simp only [ptnI, Option.getD_some, Option.isSome_some]
      clear hpb ht hsym hrr hym h9
      generalize hyl : l[m] = y at *
      have Hyl := Lib.hid hyl
      clear hyl
      go_wp2_with (first | (go_at_call 22; refine (isJump_any _ hop _).mono ?_; rintro e w' ⟨rfl, rfl⟩) | (go_at_call 23; refine (isLanding_any _ hop _).mono ?_; rintro e w' ⟨rfl, rfl⟩))
      refine (valid_any _ hop _ _ _ _ _ HT6.out).mono ?_
      rintro e w7 ⟨rfl, hb8⟩
      have ix7 := ix6.mono hb8
      have im7 := im6.mono hb8
      have HT7 := Lib.hid (HT6.out.mono hb8)
      have hb9 := below_step hb7 hb7.size hb8
      clear ix6 im6 HT6 hb7 hb8 c0 c1 c2 c3 c4 fz
      obtain ⟨c0, c1, c2, c3, c4, fz⟩ := id ix7
      obtain ⟨b0, b1, b2, bc⟩ := id im7
      clear bc
      go_wp2_with fail
      refine (partner_any l _ _ _ _ _ _ im7.code hY HT7.out hl).mono ?_
      rintro e w8 ⟨rfl, hb10⟩
      rw [Hs.out]
      simp only [ptnI, Option.getD_some, Option.isSome_some]
      have ix8 := ix7.mono hb10
      have im8 := im7.mono hb10
      have hb11 := below_step hb9 hb9.size hb10
      clear ix7 im7 HT7 hb9 hb10 c0 c1 c2 c3 c4 fz b0 b1 b2
      obtain ⟨c0, c1, c2, c3, c4, fz⟩ := id ix8
      obtain ⟨b0, b1, b2, bc⟩ := id im8
      obtain ⟨b', o', e', hj⟩ := bc.at_ hml
      obtain ⟨rfl, rfl⟩ : b = b' ∧ o = o' := by simpa using e'
      rw [Hyl.out] at hj
      obtain ⟨y0, y1, y2, y3, y4⟩ := id hj
      clear bc e'
      go_wp2_with (first | (go_at_call 22; refine (isJump_any _ (by first | exact hop | exact hopy) _).mono ?_; rintro e w' ⟨rfl, rfl⟩) | (go_at_call 23; refine (isLanding_any _ (by first | exact hop | exact hopy) _).mono ?_; rintro e w' ⟨rfl, rfl⟩))
      exact ⟨⟨k + 1, by omega, by go_num, hb11⟩, by simp [intOf]; omega⟩
    case inr.inr.inr.inr.inl =>
      have hpb : pairedB x.op = true := by unfold pairedB; rw [a1, a2, beqN.symm.trans a5, beqN.symm.trans a6]; rfl
      obtain ⟨t, ht⟩ := HPR.out hpb
      have hsym := ptn_symm ht
      have hrr := (ptn_range ht).2
      obtain ⟨m, rfl⟩ := Int.eq_ofNat_of_zero_le hrr.1
      have hml : m < l.length := by omega
      have hym : atI l (m : Int) = l[m] := atI_nat hml
      have h9 := (ptn_spec.1 ht).2.2.2.2.2.2.2.2
      rw [Hx.out, hym] at h9
      obtain ⟨f1, f2, f3⟩ := pair_facts h9
      rw [a1] at f1
      rw [a2] at f2
      rw [a5] at f3
      have hopy := hY.at_ hml
      have hmk : ((m : Int) == k) = false := beq_eq_false_iff_ne.2 (fun e => hsym.2 e.symm)
      have Hs := Lib.hid hsym.1
      rw [ht]
      simp only [ptnI, Option.getD_some, Option.isSome_some]
      clear hpb ht hsym hrr hym h9
      generalize hyl : l[m] = y at *
      have Hyl := Lib.hid hyl
      clear hyl
      go_wp2_with (first | (go_at_call 22; refine (isJump_any _ hop _).mono ?_; rintro e w' ⟨rfl, rfl⟩) | (go_at_call 23; refine (isLanding_any _ hop _).mono ?_; rintro e w' ⟨rfl, rfl⟩))
      refine (valid_any _ hop _ _ _ _ _ HT6.out).mono ?_
      rintro e w7 ⟨rfl, hb8⟩
      have ix7 := ix6.mono hb8
      have im7 := im6.mono hb8
      have HT7 := Lib.hid (HT6.out.mono hb8)
      have hb9 := below_step hb7 hb7.size hb8
      clear ix6 im6 HT6 hb7 hb8 c0 c1 c2 c3 c4 fz
      obtain ⟨c0, c1, c2, c3, c4, fz⟩ := id ix7
      obtain ⟨b0, b1, b2, bc⟩ := id im7
      clear bc
      go_wp2_with fail
      refine (partner_any l _ _ _ _ _ _ im7.code hY HT7.out hl).mono ?_
      rintro e w8 ⟨rfl, hb10⟩
      rw [Hs.out]
      simp only [ptnI, Option.getD_some, Option.isSome_some]
      have ix8 := ix7.mono hb10
      have im8 := im7.mono hb10
      have hb11 := below_step hb9 hb9.size hb10
      clear ix7 im7 HT7 hb9 hb10 c0 c1 c2 c3 c4 fz b0 b1 b2
      obtain ⟨c0, c1, c2, c3, c4, fz⟩ := id ix8
      obtain ⟨b0, b1, b2, bc⟩ := id im8
      obtain ⟨b', o', e', hj⟩ := bc.at_ hml
      obtain ⟨rfl, rfl⟩ : b = b' ∧ o = o' := by simpa using e'
      rw [Hyl.out] at hj
      obtain ⟨y0, y1, y2, y3, y4⟩ := id hj
      clear bc e'
      go_wp2_with (first | (go_at_call 22; refine (isJump_any _ (by first | exact hop | exact hopy) _).mono ?_; rintro e w' ⟨rfl, rfl⟩) | (go_at_call 23; refine (isLanding_any _ (by first | exact hop | exact hopy) _).mono ?_; rintro e w' ⟨rfl, rfl⟩))
      exact ⟨⟨k + 1, by omega, by go_num, hb11⟩, by simp [intOf]; omega⟩
    case inr.inr.inr.inr.inr.inl =>
      have hpb : pairedB x.op = true := by unfold pairedB; rw [a1, a2, beqN.symm.trans a5, beqN.symm.trans a6]; rfl
      obtain ⟨t, ht⟩ := HPR.out hpb
      have hsym := ptn_symm ht
      have hrr := (ptn_range ht).2
      obtain ⟨m, rfl⟩ := Int.eq_ofNat_of_zero_le hrr.1
      have hml : m < l.length := by omega
      have hym : atI l (m : Int) = l[m] := atI_nat hml
      have h9 := (ptn_spec.1 ht).2.2.2.2.2.2.2.2
      rw [Hx.out, hym] at h9
      obtain ⟨f1, f2, f3⟩ := pair_facts h9
      rw [a1] at f1
      rw [a2] at f2
      rw [a5] at f3
      have hopy := hY.at_ hml
      have hmk : ((m : Int) == k) = false := beq_eq_false_iff_ne.2 (fun e => hsym.2 e.symm)
      have Hs := Lib.hid hsym.1
      rw [ht]
      simp only [ptnI, Option.getD_some, Option.isSome_some]
      clear hpb ht hsym hrr hym h9
      generalize hyl : l[m] = y at *
      have Hyl := Lib.hid hyl
      clear hyl
      go_wp2_with (first | (go_at_call 22; refine (isJump_any _ hop _).mono ?_; rintro e w' ⟨rfl, rfl⟩) | (go_at_call 23; refine (isLanding_any _ hop _).mono ?_; rintro e w' ⟨rfl, rfl⟩))
      refine (valid_any _ hop _ _ _ _ _ HT6.out).mono ?_
      rintro e w7 ⟨rfl, hb8⟩
      have ix7 := ix6.mono hb8
      have im7 := im6.mono hb8
      have HT7 := Lib.hid (HT6.out.mono hb8)
      have hb9 := below_step hb7 hb7.size hb8
      clear ix6 im6 HT6 hb7 hb8 c0 c1 c2 c3 c4 fz
      obtain ⟨c0, c1, c2, c3, c4, fz⟩ := id ix7
      obtain ⟨b0, b1, b2, bc⟩ := id im7
      clear bc
      go_wp2_with fail
      refine (partner_any l _ _ _ _ _ _ im7.code hY HT7.out hl).mono ?_
      rintro e w8 ⟨rfl, hb10⟩
      rw [Hs.out]
      simp only [ptnI, Option.getD_some, Option.isSome_some]
      have ix8 := ix7.mono hb10
      have im8 := im7.mono hb10
      have hb11 := below_step hb9 hb9.size hb10
      clear ix7 im7 HT7 hb9 hb10 c0 c1 c2 c3 c4 fz b0 b1 b2
      obtain ⟨c0, c1, c2, c3, c4, fz⟩ := id ix8
      obtain ⟨b0, b1, b2, bc⟩ := id im8
      obtain ⟨b', o', e', hj⟩ := bc.at_ hml
      obtain ⟨rfl, rfl⟩ : b = b' ∧ o = o' := by simpa using e'
      rw [Hyl.out] at hj
      obtain ⟨y0, y1, y2, y3, y4⟩ := id hj
      clear bc e'
      go_wp2_with (first | (go_at_call 22; refine (isJump_any _ (by first | exact hop | exact hopy) _).mono ?_; rintro e w' ⟨rfl, rfl⟩) | (go_at_call 23; refine (isLanding_any _ (by first | exact hop | exact hopy) _).mono ?_; rintro e w' ⟨rfl, rfl⟩))
      exact ⟨⟨k + 1, by omega, by go_num, hb11⟩, by simp [intOf]; omega⟩

end Go.Proofs.YthakiaicnhkfjaaDoor
