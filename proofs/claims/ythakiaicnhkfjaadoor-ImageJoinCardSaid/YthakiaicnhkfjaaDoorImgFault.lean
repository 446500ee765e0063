/-
  The contract of image.fault.
-/
import Derived.Test.YthakiaicnhkfjaaDoorImgMath
namespace Go.Proofs.YthakiaicnhkfjaaDoor
open Go.ChangeShapes Go.WideShapes Go.ChangeAt Go.RowKit Go.Sort

theorem isJump_bel (op : Nat) (hx : op < 256) (w : World) :
    Calls Tryd.prog 22 #[.int .u8 op] w fun e w' => e = .returned (.bool (jmpB op)) ∧ Below w.heap.size w w' :=
  (isJump_any op hx w).mono fun _ _ ⟨he, hw⟩ => ⟨he, hw ▸ Below.refl _ _⟩
theorem isLanding_bel (op : Nat) (hx : op < 256) (w : World) :
    Calls Tryd.prog 23 #[.int .u8 op] w fun e w' => e = .returned (.bool (lndB op)) ∧ Below w.heap.size w w' :=
  (isLanding_any op hx w).mono fun _ _ ⟨he, hw⟩ => ⟨he, hw ▸ Below.refl _ _⟩

theorem tgtK_cls (x : Ins) : (tgtK x.op != 0) = kI x := rfl

set_option maxRecDepth 100000 in
set_option maxHeartbeats 2000000 in
theorem fault_any (l : List Ins) (A : Option Addr) (cap : Nat) (i : Nat) (hi : i < l.length) (R : Option Addr) (cR : Nat) (w : World) (hC : CodeAt w A l) (hY : Bytes l) (hT : Tab w) (hl : l.length ≤ 1000000) (hR : IntsAt w R ((List.range l.length).map (regP l))) :
    Calls Tryd.prog 36 #[.slice A l.length cap, .int .i64 i, .slice R l.length cR, .bool (insP l i)] w fun e w' => e = .returned (.int .i64 (pfault l i)) ∧ Below w.heap.size w w' := by
  have hop := hY.at_ hi
  obtain ⟨b, o, rfl, hi'⟩ := hC.at_ hi
  have hlt := hi'.lt
  have hx : atI l (i : Int) = l[i] := atI_nat hi
  obtain ⟨c0, c1, c2, c3, c4⟩ := id hi'
  generalize hxl : l[i] = x at *
  have Hx := Lib.hid hx
  clear hx hxl
  have hbW := below_box w (Obj.cells #[Value.int IntKind.u8 ↑x.op, Value.int IntKind.i64 x.a, Value.int IntKind.i64 x.b, Value.int IntKind.i64 x.c, Value.int IntKind.i64 x.d] 38)
  have ib := insAt_box w 38 x.op x.a x.b x.c x.d
  have HC := Lib.hid (hC.mono hbW)
  have HT := Lib.hid (hT.mono hbW)
  have HR := Lib.hid (hR.mono hbW)
  clear hC hT hR
  go_enter Tryd.func36, Tryd.ntmps36
  go_wp2_with fail
  generalize w.alloc _ = W at hbW ib HC HT HR ⊢
  refine (valid_any _ hop _ _ _ _ _ HT.out).mono ?_
  rintro e w1 ⟨rfl, hb1⟩
  have ib1 := ib.mono hb1
  have HC1 := Lib.hid (HC.out.mono hb1)
  have HT1 := Lib.hid (HT.out.mono hb1)
  have HR1 := Lib.hid (HR.out.mono hb1)
  have q1 := below_step hbW hbW.size hb1
  clear ib HC HT HR hbW hb1 c0 c1 c2 c3 c4 hi' hlt
  obtain ⟨c0, c1, c2, c3, c4, fz⟩ := id ib1
  by_cases hv : validB x.op x.a x.b x.c x.d = true
  rotate_left
  · have hv' : validB x.op x.a x.b x.c x.d = false := by simpa using hv
    have hn := Lib.hid (show pfault l i = 3 by unfold pfault; rw [Hx.out, if_pos (show vI x = false from hv')])
    clear hv
    go_wp2
    go_ret
    exact ⟨ret_i64 hn.out.symm, q1⟩
  have HF := Lib.hid (show pfault l i = if kI x = false then 0
      else if x.op = 30 ∨ x.op = 31 then (if ptn l (tI x) = none ∨ (atI l (tI x)).op ≠ 32 then 23 else 0)
      else if ptn l i = none then 23
      else if x.op = 32 ∧ insP l i = true then 20
      else if (jmpB x.op || lndB x.op) = true ∧ regP l i ≠ regP l (tI x).toNat then 20
      else 0 by
    conv => lhs; unfold pfault
    rw [Hx.out, if_neg (show ¬ vI x = false by rw [show vI x = true from hv]; decide)])
  go_wp2_with fail
  refine (target_any _ hop _ _ _ _ _).mono ?_
  rintro e w2 ⟨rfl, hb2⟩
  have ib2 := ib1.mono hb2
  have HC2 := Lib.hid (HC1.out.mono hb2)
  have HT2 := Lib.hid (HT1.out.mono hb2)
  have HR2 := Lib.hid (HR1.out.mono hb2)
  have q2 := below_step q1 q1.size hb2
  clear ib1 HC1 HT1 HR1 q1 hb2 c0 c1 c2 c3 c4 fz
  by_cases hk : kI x = true
  rotate_left
  · have hk' : kI x = false := by simpa using hk
    have hk2 : (tgtK x.op != 0) = false := hk'
    have hn := Lib.hid (HF.out.trans (if_pos hk'))
    clear hk hk' HF
    go_wp2
    go_ret
    exact ⟨ret_i64 hn.out.symm, q2⟩
  have hk2 : (tgtK x.op != 0) = true := hk
  have HF2 := Lib.hid (HF.out.trans (if_neg (show ¬ kI x = false by rw [hk]; decide)))
  clear HF
  obtain ⟨c0, c1, c2, c3, c4, fz⟩ := id ib2
  have s2 := ib2.lt
  have hbI := below_box w2 (Obj.cells #[Value.slice (some ⟨b, o, none⟩) l.length cap, Value.int IntKind.i64 0, Value.int IntKind.i64 0] 24)
  have im3 := imgAt_box w2 24 (some ⟨b, o, none⟩) cap 0 0 l HC2.out
  have ib3 := ib2.mono hbI
  have HT3 := Lib.hid (HT2.out.mono hbI)
  have HR3 := Lib.hid (HR2.out.mono hbI)
  have q3 := below_step q2 q2.size hbI
  have htI : Hid (tgt x.op x.a x.b = tI x) := rfl
  generalize tgt x.op x.a x.b = t at htI ⊢
  rcases opc x.op with ⟨a1, a2, a3, a4, a5, a6⟩ | ⟨a1, a2, a3, a4, a5, a6⟩ | ⟨a1, a2, a3, a4, a5, a6⟩ | ⟨a1, a2, a3, a4, a5, a6⟩ | ⟨a1, a2, a3, a4, a5, a6⟩ | ⟨a1, a2, a3, a4, a5, a6⟩ | ⟨a1, a2, a3, a4, a5, a6⟩
  case inr.inr.inr.inr.inr.inr =>
    exfalso
    rw [kI_iff, a1, a2, beqN.symm.trans a3, beqN.symm.trans a4, beqN.symm.trans a5, beqN.symm.trans a6] at hk
    cases hk
  case inr.inr.inl =>
    have hcall : x.op = 30 ∨ x.op = 31 := by
      have h := a3; rw [beq_iff_eq] at h; omega
    have HF3 := Lib.hid (HF2.out.trans (if_pos hcall))
    rw [← htI.out] at HF3
    clear HF2 hcall
    go_wp2_with fail
    generalize w2.alloc _ = W3 at hbI im3 ib3 HT3 HR3 q3 ⊢
    refine (partner_any l _ _ _ _ t _ im3.code hY HT3.out hl).mono ?_
    rintro e w4 ⟨rfl, hb4⟩
    have q4 := below_step q3 q3.size hb4
    have im4 := im3.mono hb4
    have ib4 := ib3.mono hb4
    clear c0 c1 c2 c3 c4 fz s2
    by_cases hp : (ptn l t).isSome = true
    rotate_left
    · have hp' : (ptn l t).isSome = false := by simpa using hp
      have hn := Lib.hid (HF3.out.trans (if_pos (.inl (by simpa using hp))))
      clear hp HF3
      go_wp2
      go_ret
      exact ⟨ret_i64 hn.out.symm, q4⟩
    obtain ⟨e1, he1⟩ := Option.isSome_iff_exists.1 hp
    have hr := (ptn_range he1).1
    obtain ⟨m, rfl⟩ := Int.eq_ofNat_of_zero_le hr.1
    have hm : m < l.length := by omega
    have hne : ptn l (m : Int) ≠ none := by rw [he1]; simp
    have HNE := Lib.hid hne
    clear hne he1 hr
    have hy : atI l (m : Int) = l[m] := atI_nat hm
    obtain ⟨b', o', e', hj⟩ := im4.code.at_ hm
    obtain ⟨rfl, rfl⟩ : b = b' ∧ o = o' := by simpa using e'
    clear e'
    obtain ⟨e0, e1, e2, e3, e4⟩ := id hj
    by_cases hy32 : l[m].op = 32
    · have h3 : ((l[m].op : Int) != 32) = false := by rw [hy32]; rfl
      have hn := Lib.hid (HF3.out.trans (if_neg (by
        rintro (h | h)
        · exact HNE.out h
        · rw [hy] at h; exact h hy32)))
      clear HF3 hy hy32
      go_wp2
      go_ret
      exact ⟨ret_i64 hn.out.symm, q4⟩
    · have h3 : ((l[m].op : Int) != 32) = true := bne_iff_ne.2 (by omega)
      have hn := Lib.hid (HF3.out.trans (if_pos (.inr (by rw [hy]; exact hy32))))
      clear HF3 hy hy32
      go_wp2
      go_ret
      exact ⟨ret_i64 hn.out.symm, q4⟩
  case inr.inr.inr.inl =>
    have hcall : x.op = 30 ∨ x.op = 31 := by
      have h := a4; rw [beq_iff_eq] at h; omega
    have HF3 := Lib.hid (HF2.out.trans (if_pos hcall))
    rw [← htI.out] at HF3
    clear HF2 hcall
    go_wp2_with fail
    generalize w2.alloc _ = W3 at hbI im3 ib3 HT3 HR3 q3 ⊢
    refine (partner_any l _ _ _ _ t _ im3.code hY HT3.out hl).mono ?_
    rintro e w4 ⟨rfl, hb4⟩
    have q4 := below_step q3 q3.size hb4
    have im4 := im3.mono hb4
    have ib4 := ib3.mono hb4
    clear c0 c1 c2 c3 c4 fz s2
    by_cases hp : (ptn l t).isSome = true
    rotate_left
    · have hp' : (ptn l t).isSome = false := by simpa using hp
      have hn := Lib.hid (HF3.out.trans (if_pos (.inl (by simpa using hp))))
      clear hp HF3
      go_wp2
      go_ret
      exact ⟨ret_i64 hn.out.symm, q4⟩
    obtain ⟨e1, he1⟩ := Option.isSome_iff_exists.1 hp
    have hr := (ptn_range he1).1
    obtain ⟨m, rfl⟩ := Int.eq_ofNat_of_zero_le hr.1
    have hm : m < l.length := by omega
    have hne : ptn l (m : Int) ≠ none := by rw [he1]; simp
    have HNE := Lib.hid hne
    clear hne he1 hr
    have hy : atI l (m : Int) = l[m] := atI_nat hm
    obtain ⟨b', o', e', hj⟩ := im4.code.at_ hm
    obtain ⟨rfl, rfl⟩ : b = b' ∧ o = o' := by simpa using e'
    clear e'
    obtain ⟨e0, e1, e2, e3, e4⟩ := id hj
    by_cases hy32 : l[m].op = 32
    · have h3 : ((l[m].op : Int) != 32) = false := by rw [hy32]; rfl
      have hn := Lib.hid (HF3.out.trans (if_neg (by
        rintro (h | h)
        · exact HNE.out h
        · rw [hy] at h; exact h hy32)))
      clear HF3 hy hy32
      go_wp2
      go_ret
      exact ⟨ret_i64 hn.out.symm, q4⟩
    · have h3 : ((l[m].op : Int) != 32) = true := bne_iff_ne.2 (by omega)
      have hn := Lib.hid (HF3.out.trans (if_pos (.inr (by rw [hy]; exact hy32))))
      clear HF3 hy hy32
      go_wp2
      go_ret
      exact ⟨ret_i64 hn.out.symm, q4⟩
  case inl =>
    have h30 : ¬ (x.op = 30 ∨ x.op = 31) := by
      have h1 := a3; have h2 := a4; rw [beq_eq_false_iff_ne] at h1 h2; omega
    have HF3 := Lib.hid (HF2.out.trans (if_neg h30))
    clear HF2 h30
    go_wp2_with fail
    generalize w2.alloc _ = W3 at hbI im3 ib3 HT3 HR3 q3 ⊢
    refine (partner_any l _ _ _ _ _ _ im3.code hY HT3.out hl).mono ?_
    rintro e w4 ⟨rfl, hb4⟩
    have q4 := below_step q3 q3.size hb4
    have ib4 := ib3.mono hb4
    have HR4 := Lib.hid (HR3.out.mono hb4)
    clear c0 c1 c2 c3 c4 fz s2
    obtain ⟨c0, c1, c2, c3, c4, fz⟩ := id ib4
    by_cases hp : (ptn l (i : Int)).isSome = true
    rotate_left
    · have hp' : (ptn l (i : Int)).isSome = false := by simpa using hp
      have hn := Lib.hid (HF3.out.trans (if_pos (by simpa using hp)))
      clear hp HF3
      go_wp2
      go_ret
      exact ⟨ret_i64 hn.out.symm, q4⟩
    have HF4 := Lib.hid (HF3.out.trans (if_neg (by intro h; rw [h] at hp; cases hp)))
    clear HF3
    have h32 : ¬ x.op = 32 := by have h1 := a5; rw [beq_eq_false_iff_ne] at h1; omega
    have HF5 := Lib.hid (HF4.out.trans (if_neg (fun h => h32 h.1)))
    clear HF4 h32
    obtain ⟨e1, he1⟩ := Option.isSome_iff_exists.1 hp
    have hr := (ptn_range he1).2
    have het : t = e1 := by
      have h3 := (ptn_spec.1 he1).2.2.1
      rw [Hx.out] at h3; rw [htI.out, h3]
    obtain ⟨m, hm0⟩ := Int.eq_ofNat_of_zero_le hr.1
    have hm : m < l.length := by omega
    obtain rfl : t = (m : Int) := by rw [het, hm0]
    rw [← htI.out, Int.toNat_natCast] at HF5
    clear het hm0 hr he1
    obtain ⟨rb, ro, rfl, hrl, rc1⟩ := HR4.out.at_ (k := i) (by simpa using hi)
    obtain ⟨rb', ro', e', hrl', rc2⟩ := HR4.out.at_ (k := m) (by simpa using hm)
    obtain ⟨rfl, rfl⟩ : rb = rb' ∧ ro = ro' := by simpa using e'
    clear e'
    simp only [List.getElem_map, List.getElem_range] at rc1 rc2
    have r1 : (0 : Int) ≤ i := by omega
    have r2 : (i : Int) < l.length := by omega
    have r3 : (0 : Int) ≤ m := by omega
    have r4 : (m : Int) < l.length := by omega
    have d0 := cell_regrown c0
    have v1 := cell_regrown rc1
    have v2 := cell_regrown rc2
    by_cases hne : regP l i = regP l m
    · have hn := Lib.hid (HF5.out.trans (if_neg (fun h => h.2 hne)))
      have hne' : (regP l i != regP l m) = false := by rw [hne]; simp
      clear HF5 hne
      go_wp2
      refine wp_region_quiet_below (by kernel_rfl) (by kernel_rfl) ?_
      repeat (first | go_big_quiet_step ((first | (go_at_call 22; exact Calls.regrown_of (isJump_bel x.op hop _)) | (go_at_call 23; exact Calls.regrown_of (isLanding_bel x.op hop _)))) | quiet_step ((first | (go_at_call 22; exact Calls.regrown_of (isJump_bel x.op hop _)) | (go_at_call 23; exact Calls.regrown_of (isLanding_bel x.op hop _)))))
      refine wpQuiet_nil ?_
      intro wq hw'
      obtain ⟨⟨dq, osq⟩, hw''⟩ := hw'
      have hbq := below_regrown w4 dq osq
      rw [← hw''] at hbq
      clear hw''
      go_wp2
      go_ret
      exact ⟨ret_i64 hn.out.symm, below_step q4 q4.size hbq⟩
    · have hn := Lib.hid (HF5.out.trans (if_pos ⟨by rw [a1, a2]; rfl, hne⟩))
      have hne' : (regP l i != regP l m) = true := bne_iff_ne.2 hne
      clear HF5 hne
      go_wp2
      refine wp_region_quiet_below (by kernel_rfl) (by kernel_rfl) ?_
      repeat (first | go_big_quiet_step ((first | (go_at_call 22; exact Calls.regrown_of (isJump_bel x.op hop _)) | (go_at_call 23; exact Calls.regrown_of (isLanding_bel x.op hop _)))) | quiet_step ((first | (go_at_call 22; exact Calls.regrown_of (isJump_bel x.op hop _)) | (go_at_call 23; exact Calls.regrown_of (isLanding_bel x.op hop _)))))
      refine wpQuiet_nil ?_
      intro wq hw'
      obtain ⟨⟨dq, osq⟩, hw''⟩ := hw'
      have hbq := below_regrown w4 dq osq
      rw [← hw''] at hbq
      clear hw''
      go_wp2
      go_ret
      exact ⟨ret_i64 hn.out.symm, below_step q4 q4.size hbq⟩
  case inr.inl =>
    have h30 : ¬ (x.op = 30 ∨ x.op = 31) := by
      have h1 := a3; have h2 := a4; rw [beq_eq_false_iff_ne] at h1 h2; omega
    have HF3 := Lib.hid (HF2.out.trans (if_neg h30))
    clear HF2 h30
    go_wp2_with fail
    generalize w2.alloc _ = W3 at hbI im3 ib3 HT3 HR3 q3 ⊢
    refine (partner_any l _ _ _ _ _ _ im3.code hY HT3.out hl).mono ?_
    rintro e w4 ⟨rfl, hb4⟩
    have q4 := below_step q3 q3.size hb4
    have ib4 := ib3.mono hb4
    have HR4 := Lib.hid (HR3.out.mono hb4)
    clear c0 c1 c2 c3 c4 fz s2
    obtain ⟨c0, c1, c2, c3, c4, fz⟩ := id ib4
    by_cases hp : (ptn l (i : Int)).isSome = true
    rotate_left
    · have hp' : (ptn l (i : Int)).isSome = false := by simpa using hp
      have hn := Lib.hid (HF3.out.trans (if_pos (by simpa using hp)))
      clear hp HF3
      go_wp2
      go_ret
      exact ⟨ret_i64 hn.out.symm, q4⟩
    have HF4 := Lib.hid (HF3.out.trans (if_neg (by intro h; rw [h] at hp; cases hp)))
    clear HF3
    have h32 : ¬ x.op = 32 := by have h1 := a5; rw [beq_eq_false_iff_ne] at h1; omega
    have HF5 := Lib.hid (HF4.out.trans (if_neg (fun h => h32 h.1)))
    clear HF4 h32
    obtain ⟨e1, he1⟩ := Option.isSome_iff_exists.1 hp
    have hr := (ptn_range he1).2
    have het : t = e1 := by
      have h3 := (ptn_spec.1 he1).2.2.1
      rw [Hx.out] at h3; rw [htI.out, h3]
    obtain ⟨m, hm0⟩ := Int.eq_ofNat_of_zero_le hr.1
    have hm : m < l.length := by omega
    obtain rfl : t = (m : Int) := by rw [het, hm0]
    rw [← htI.out, Int.toNat_natCast] at HF5
    clear het hm0 hr he1
    obtain ⟨rb, ro, rfl, hrl, rc1⟩ := HR4.out.at_ (k := i) (by simpa using hi)
    obtain ⟨rb', ro', e', hrl', rc2⟩ := HR4.out.at_ (k := m) (by simpa using hm)
    obtain ⟨rfl, rfl⟩ : rb = rb' ∧ ro = ro' := by simpa using e'
    clear e'
    simp only [List.getElem_map, List.getElem_range] at rc1 rc2
    have r1 : (0 : Int) ≤ i := by omega
    have r2 : (i : Int) < l.length := by omega
    have r3 : (0 : Int) ≤ m := by omega
    have r4 : (m : Int) < l.length := by omega
    have d0 := cell_regrown c0
    have v1 := cell_regrown rc1
    have v2 := cell_regrown rc2
    by_cases hne : regP l i = regP l m
    · have hn := Lib.hid (HF5.out.trans (if_neg (fun h => h.2 hne)))
      have hne' : (regP l i != regP l m) = false := by rw [hne]; simp
      clear HF5 hne
      go_wp2
      refine wp_region_quiet_below (by kernel_rfl) (by kernel_rfl) ?_
      repeat (first | go_big_quiet_step ((first | (go_at_call 22; exact Calls.regrown_of (isJump_bel x.op hop _)) | (go_at_call 23; exact Calls.regrown_of (isLanding_bel x.op hop _)))) | quiet_step ((first | (go_at_call 22; exact Calls.regrown_of (isJump_bel x.op hop _)) | (go_at_call 23; exact Calls.regrown_of (isLanding_bel x.op hop _)))))
      refine wpQuiet_nil ?_
      intro wq hw'
      obtain ⟨⟨dq, osq⟩, hw''⟩ := hw'
      have hbq := below_regrown w4 dq osq
      rw [← hw''] at hbq
      clear hw''
      go_wp2
      go_ret
      exact ⟨ret_i64 hn.out.symm, below_step q4 q4.size hbq⟩
    · have hn := Lib.hid (HF5.out.trans (if_pos ⟨by rw [a1, a2]; rfl, hne⟩))
      have hne' : (regP l i != regP l m) = true := bne_iff_ne.2 hne
      clear HF5 hne
      go_wp2
      refine wp_region_quiet_below (by kernel_rfl) (by kernel_rfl) ?_
      repeat (first | go_big_quiet_step ((first | (go_at_call 22; exact Calls.regrown_of (isJump_bel x.op hop _)) | (go_at_call 23; exact Calls.regrown_of (isLanding_bel x.op hop _)))) | quiet_step ((first | (go_at_call 22; exact Calls.regrown_of (isJump_bel x.op hop _)) | (go_at_call 23; exact Calls.regrown_of (isLanding_bel x.op hop _)))))
      refine wpQuiet_nil ?_
      intro wq hw'
      obtain ⟨⟨dq, osq⟩, hw''⟩ := hw'
      have hbq := below_regrown w4 dq osq
      rw [← hw''] at hbq
      clear hw''
      go_wp2
      go_ret
      exact ⟨ret_i64 hn.out.symm, below_step q4 q4.size hbq⟩
  case inr.inr.inr.inr.inl =>
    have h30 : ¬ (x.op = 30 ∨ x.op = 31) := by
      have h1 := a3; have h2 := a4; rw [beq_eq_false_iff_ne] at h1 h2; omega
    have HF3 := Lib.hid (HF2.out.trans (if_neg h30))
    clear HF2 h30
    go_wp2_with fail
    generalize w2.alloc _ = W3 at hbI im3 ib3 HT3 HR3 q3 ⊢
    refine (partner_any l _ _ _ _ _ _ im3.code hY HT3.out hl).mono ?_
    rintro e w4 ⟨rfl, hb4⟩
    have q4 := below_step q3 q3.size hb4
    have ib4 := ib3.mono hb4
    have HR4 := Lib.hid (HR3.out.mono hb4)
    clear c0 c1 c2 c3 c4 fz s2
    obtain ⟨c0, c1, c2, c3, c4, fz⟩ := id ib4
    by_cases hp : (ptn l (i : Int)).isSome = true
    rotate_left
    · have hp' : (ptn l (i : Int)).isSome = false := by simpa using hp
      have hn := Lib.hid (HF3.out.trans (if_pos (by simpa using hp)))
      clear hp HF3
      go_wp2
      go_ret
      exact ⟨ret_i64 hn.out.symm, q4⟩
    have HF4 := Lib.hid (HF3.out.trans (if_neg (by intro h; rw [h] at hp; cases hp)))
    clear HF3
    have h32 : x.op = 32 := by have h1 := a5; rw [beq_iff_eq] at h1; omega
    have d0 := cell_regrown c0
    by_cases hin : insP l i = true
    · have hn := Lib.hid (HF4.out.trans (if_pos ⟨h32, hin⟩))
      clear HF4 h32
      go_wp2
      go_ret
      exact ⟨ret_i64 hn.out.symm, q4⟩
    · have hin' : insP l i = false := by simpa using hin
      have hn := Lib.hid (HF4.out.trans ((if_neg (fun h => hin h.2)).trans (if_neg (by rw [a1, a2]; simp))))
      clear HF4 h32 hin
      go_wp2
      refine wp_region_quiet_below (by kernel_rfl) (by kernel_rfl) ?_
      repeat (first | go_big_quiet_step ((first | (go_at_call 22; exact Calls.regrown_of (isJump_bel x.op hop _)) | (go_at_call 23; exact Calls.regrown_of (isLanding_bel x.op hop _)))) | quiet_step ((first | (go_at_call 22; exact Calls.regrown_of (isJump_bel x.op hop _)) | (go_at_call 23; exact Calls.regrown_of (isLanding_bel x.op hop _)))))
      refine wpQuiet_nil ?_
      intro wq hw'
      obtain ⟨⟨dq, osq⟩, hw''⟩ := hw'
      have hbq := below_regrown w4 dq osq
      rw [← hw''] at hbq
      clear hw''
      go_wp2
      go_ret
      exact ⟨ret_i64 hn.out.symm, below_step q4 q4.size hbq⟩
  case inr.inr.inr.inr.inr.inl =>
    have h30 : ¬ (x.op = 30 ∨ x.op = 31) := by
      have h1 := a3; have h2 := a4; rw [beq_eq_false_iff_ne] at h1 h2; omega
    have HF3 := Lib.hid (HF2.out.trans (if_neg h30))
    clear HF2 h30
    go_wp2_with fail
    generalize w2.alloc _ = W3 at hbI im3 ib3 HT3 HR3 q3 ⊢
    refine (partner_any l _ _ _ _ _ _ im3.code hY HT3.out hl).mono ?_
    rintro e w4 ⟨rfl, hb4⟩
    have q4 := below_step q3 q3.size hb4
    have ib4 := ib3.mono hb4
    have HR4 := Lib.hid (HR3.out.mono hb4)
    clear c0 c1 c2 c3 c4 fz s2
    obtain ⟨c0, c1, c2, c3, c4, fz⟩ := id ib4
    by_cases hp : (ptn l (i : Int)).isSome = true
    rotate_left
    · have hp' : (ptn l (i : Int)).isSome = false := by simpa using hp
      have hn := Lib.hid (HF3.out.trans (if_pos (by simpa using hp)))
      clear hp HF3
      go_wp2
      go_ret
      exact ⟨ret_i64 hn.out.symm, q4⟩
    have HF4 := Lib.hid (HF3.out.trans (if_neg (by intro h; rw [h] at hp; cases hp)))
    clear HF3
    have h32 : ¬ x.op = 32 := by have h1 := a5; rw [beq_eq_false_iff_ne] at h1; omega
    have d0 := cell_regrown c0
    have hn := Lib.hid (HF4.out.trans ((if_neg (fun h => h32 h.1)).trans (if_neg (by rw [a1, a2]; simp))))
    clear HF4 h32
    go_wp2
    refine wp_region_quiet_below (by kernel_rfl) (by kernel_rfl) ?_
    repeat (first | go_big_quiet_step ((first | (go_at_call 22; exact Calls.regrown_of (isJump_bel x.op hop _)) | (go_at_call 23; exact Calls.regrown_of (isLanding_bel x.op hop _)))) | quiet_step ((first | (go_at_call 22; exact Calls.regrown_of (isJump_bel x.op hop _)) | (go_at_call 23; exact Calls.regrown_of (isLanding_bel x.op hop _)))))
    refine wpQuiet_nil ?_
    intro wq hw'
    obtain ⟨⟨dq, osq⟩, hw''⟩ := hw'
    have hbq := below_regrown w4 dq osq
    rw [← hw''] at hbq
    clear hw''
    go_wp2
    go_ret
    exact ⟨ret_i64 hn.out.symm, below_step q4 q4.size hbq⟩

end Go.Proofs.YthakiaicnhkfjaaDoor
