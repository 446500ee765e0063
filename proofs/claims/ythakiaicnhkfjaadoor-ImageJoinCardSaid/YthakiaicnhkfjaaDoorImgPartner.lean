/-
  The contract of image.Partner.
-/
import Derived.Test.YthakiaicnhkfjaaDoorImgHalt
import Derived.Test.YthakiaicnhkfjaaDoorImgPlain
namespace Go.Proofs.YthakiaicnhkfjaaDoor
open Go.ChangeShapes Go.WideShapes Go.ChangeAt Go.RowKit Go.Sort

/-- An image in a box of its own, and its code. -/
structure ImgAt (w : World) (bx : Nat) (A : Option Addr) (cap : Nat) (M S : Int) (l : List Ins) : Prop where
  b0 : w.cell? ⟨bx, 0, none⟩ = some (.slice A l.length cap)
  b1 : w.cell? ⟨bx, 1, none⟩ = some (.int .i64 M)
  b2 : w.cell? ⟨bx, 2, none⟩ = some (.int .i64 S)
  code : CodeAt w A l
theorem ImgAt.lt {w : World} {bx : Nat} {A : Option Addr} {cap : Nat} {M S : Int} {l : List Ins} (h : ImgAt w bx A cap M S l) : bx < w.heap.size := block_lt_of_cell h.b0
theorem ImgAt.mono {w w' : World} {bx : Nat} {A : Option Addr} {cap : Nat} {M S : Int} {l : List Ins} (h : ImgAt w bx A cap M S l) (hb : Below w.heap.size w w') : ImgAt w' bx A cap M S l := by
  have e : ∀ o, w'.cell? ⟨bx, o, none⟩ = w.cell? ⟨bx, o, none⟩ := fun o => hb.cell (p := ⟨bx, o, none⟩) h.lt
  exact ⟨by rw [e]; exact h.b0, by rw [e]; exact h.b1, by rw [e]; exact h.b2, h.code.mono hb⟩
theorem imgAt_box (w : World) (T : TypeId) (A : Option Addr) (cap : Nat) (M S : Int) (l : List Ins) (hC : CodeAt w A l) : ImgAt (w.alloc (Obj.cells #[Value.slice A l.length cap, Value.int IntKind.i64 M, Value.int IntKind.i64 S] T)) w.heap.size A cap M S l :=
  ⟨by simp [go_sem], by simp [go_sem], by simp [go_sem], hC.mono (below_box _ _)⟩

def ptnI (o : Option Int) : Int := o.getD 0
theorem ptn_none {l : List Ins} {i : Int} (h : ∀ t, ptn l i ≠ some t) : ptn l i = none := by
  cases hh : ptn l i with
  | none => rfl
  | some t => exact absurd hh (h t)
theorem atI_nat {l : List Ins} {k : Nat} (hk : k < l.length) : atI l (k : Int) = l[k] := by
  simp [atI, hk]

set_option maxRecDepth 100000 in
set_option maxHeartbeats 1000000 in
theorem partner_any (l : List Ins) (A : Option Addr) (cap : Nat) (M S i : Int) (w : World) (hC : CodeAt w A l) (hY : Bytes l) (hT : Tab w) (_hl : l.length ≤ 1000000) :
    Calls Tryd.prog 21 #[.agg #[.slice A l.length cap, .int .i64 M, .int .i64 S], .int .i64 i] w fun e w' => e = .returned (.tuple #[.int .i64 (ptnI (ptn l i)), .bool (ptn l i).isSome]) ∧ Below w.heap.size w w' := by
  have hbW := below_box w (Obj.cells #[.slice A l.length cap, .int .i64 M, .int .i64 S] 24)
  have HT := Lib.hid (hT.mono hbW)
  have im := imgAt_box w 24 A cap M S l hC
  clear hT
  by_cases hr : 0 ≤ i ∧ i < l.length
  · obtain ⟨k, rfl⟩ := Int.eq_ofNat_of_zero_le hr.1
    have hk : k < l.length := by omega
    clear hr
    have hop := hY.at_ hk
    obtain ⟨b, o, rfl, hi⟩ := hC.at_ hk
    have hlt := hi.lt
    obtain ⟨c0, c1, c2, c3, c4⟩ := id hi
    have g1 : decide ((k : Int) < 0) = false := by simp
    have g2 : decide (l.length ≤ k) = false := by simp; omega
    go_enter Tryd.func21, Tryd.ntmps21
    go_wp2_with fail
    generalize w.alloc _ = W at hbW HT im ⊢
    clear hC hi c0 c1 c2 c3 c4 hlt
    refine (target_any _ hop _ _ _ _ _).mono ?_
    rintro e w1 ⟨rfl, hb1⟩
    have im1 := im.mono hb1
    have HT1 := Lib.hid (HT.out.mono hb1)
    have q1 := below_step hbW hbW.size hb1
    clear im HT hb1 hbW
    have hx : atI l (k : Int) = l[k] := atI_nat hk
    generalize hxl : l[k] = x at *
    have Hx := Lib.hid hx
    have Hxl := Lib.hid hxl
    clear hx hxl
    obtain ⟨b0, b1, b2, bc⟩ := id im1
    have Ht := Lib.hid (show tI x = tgt x.op x.a x.b from rfl)
    generalize tgt x.op x.a x.b = t at Ht ⊢
    by_cases hkx : (tgtK x.op != 0) = true
    rotate_left
    · have hkx' : (tgtK x.op != 0) = false := by simpa using hkx
      have hn := Lib.hid (ptn_none (l := l) (i := (k : Int)) fun t' h => hkx (by have := (ptn_spec.1 h).2.1; rw [Hx.out] at this; exact this))
      clear hkx bc
      go_wp2
      go_ret2
      exact ⟨ret_ib (by rw [hn.out]; rfl) (by rw [hn.out]; rfl), q1⟩
    by_cases ht0 : t < 0
    · have hn := Lib.hid (ptn_none (l := l) (i := (k : Int)) fun t' h => by
        obtain ⟨_, _, h3, h4, _⟩ := ptn_spec.1 h
        rw [Hx.out, Ht.out] at h3; subst h3; simp [inR] at h4; omega)
      clear bc
      go_wp2
      go_ret2
      exact ⟨ret_ib (by rw [hn.out]; rfl) (by rw [hn.out]; rfl), q1⟩
    obtain ⟨m, rfl⟩ := Int.eq_ofNat_of_zero_le (show 0 ≤ t by omega)
    have h0 : decide ((m : Int) < 0) = false := by simp
    clear ht0
    by_cases htl : m < l.length
    rotate_left
    · have hn := Lib.hid (ptn_none (l := l) (i := (k : Int)) fun t' h => by
        obtain ⟨_, _, h3, h4, _⟩ := ptn_spec.1 h
        rw [Hx.out, Ht.out] at h3; subst h3; simp [inR] at h4; omega)
      have h1 : decide (l.length ≤ m) = true := by simp; omega
      clear bc
      go_wp2
      go_ret2
      exact ⟨ret_ib (by rw [hn.out]; rfl) (by rw [hn.out]; rfl), q1⟩
    have h1 : decide (l.length ≤ m) = false := by simp; omega
    obtain ⟨b', o', e', hi1⟩ := bc.at_ hk
    obtain ⟨rfl, rfl⟩ : b = b' ∧ o = o' := by simpa using e'
    clear e'
    rw [Hxl.out] at hi1
    obtain ⟨c0, c1, c2, c3, c4⟩ := id hi1
    have hlt1 := im1.lt
    go_wp2_with fail
    refine (valid_any _ hop _ _ _ _ _ HT1.out).mono ?_
    rintro e w2 ⟨rfl, hb2⟩
    have im2 := im1.mono hb2
    have HT2 := Lib.hid (HT1.out.mono hb2)
    have q2 := below_step q1 q1.size hb2
    clear im1 HT1 hb2 q1 bc b0 b1 b2 c0 c1 c2 c3 c4 hi1 hlt1
    obtain ⟨b0, b1, b2, bc⟩ := id im2
    by_cases hvx : validB x.op x.a x.b x.c x.d = true
    rotate_left
    · have hvx' : validB x.op x.a x.b x.c x.d = false := by simpa using hvx
      have hn := Lib.hid (ptn_none (l := l) (i := (k : Int)) fun t' h => by
        obtain ⟨_, _, _, _, h5, _⟩ := ptn_spec.1 h
        rw [Hx.out] at h5; exact hvx h5)
      clear bc hvx
      go_wp2
      go_ret2
      exact ⟨ret_ib (by rw [hn.out]; rfl) (by rw [hn.out]; rfl), q2⟩
    obtain ⟨b', o', e', hi2⟩ := bc.at_ htl
    obtain ⟨rfl, rfl⟩ : b = b' ∧ o = o' := by simpa using e'
    clear e'
    have hy : atI l (m : Int) = l[m] := atI_nat htl
    have hopy := hY.at_ htl
    generalize hyl : l[m] = y at *
    have Hy := Lib.hid hy
    have Hyl := Lib.hid hyl
    clear hy hyl
    obtain ⟨c0, c1, c2, c3, c4⟩ := id hi2
    have hlt2 := im2.lt
    go_wp2_with fail
    refine (valid_any _ hopy _ _ _ _ _ HT2.out).mono ?_
    rintro e w3 ⟨rfl, hb3⟩
    have im3 := im2.mono hb3
    have q3 := below_step q2 q2.size hb3
    have hi3 := hi2.mono hb3
    clear im2 HT2 hb3 q2 bc b0 b1 b2 c0 c1 c2 c3 c4 hi2 hlt2
    obtain ⟨b0, b1, b2, bc⟩ := id im3
    by_cases hvy : validB y.op y.a y.b y.c y.d = true
    rotate_left
    · have hvy' : validB y.op y.a y.b y.c y.d = false := by simpa using hvy
      have hn := Lib.hid (ptn_none (l := l) (i := (k : Int)) fun t' h => by
        obtain ⟨_, _, h3, _, _, h6, _⟩ := ptn_spec.1 h
        rw [Hx.out, Ht.out] at h3; subst h3
        rw [Hy.out] at h6; exact hvy h6)
      clear bc hvy
      go_wp2
      go_ret2
      exact ⟨ret_ib (by rw [hn.out]; rfl) (by rw [hn.out]; rfl), q3⟩
    obtain ⟨c0, c1, c2, c3, c4⟩ := id hi3
    go_wp2_with fail
    refine (target_any _ hopy _ _ _ _ _).mono ?_
    rintro e w4 ⟨rfl, hb4⟩
    have im4 := im3.mono hb4
    have q4 := below_step q3 q3.size hb4
    have hi4 := hi3.mono hb4
    clear im3 hb4 q3 bc b0 b1 b2 c0 c1 c2 c3 c4 hi3
    obtain ⟨b0, b1, b2, bc⟩ := id im4
    have Hty := Lib.hid (show tI y = tgt y.op y.a y.b from rfl)
    generalize tgt y.op y.a y.b = t2 at Hty ⊢
    have hlt4 := im4.lt
    by_cases hky : (tgtK y.op != 0) = true
    rotate_left
    · have hky' : (tgtK y.op != 0) = false := by simpa using hky
      have hn := Lib.hid (ptn_none (l := l) (i := (k : Int)) fun t' h => by
        obtain ⟨_, _, h3, _, _, _, h7, _⟩ := ptn_spec.1 h
        rw [Hx.out, Ht.out] at h3; subst h3
        rw [Hy.out] at h7; exact hky h7)
      clear bc hky
      go_wp2
      go_ret2
      exact ⟨ret_ib (by rw [hn.out]; rfl) (by rw [hn.out]; rfl), (q4.alloc q4.size _)⟩
    by_cases heq : t2 = k
    rotate_left
    · have hn := Lib.hid (ptn_none (l := l) (i := (k : Int)) fun t' h => by
        obtain ⟨_, _, h3, _, _, _, _, h8, _⟩ := ptn_spec.1 h
        rw [Hx.out, Ht.out] at h3; subst h3
        rw [Hy.out, Hty.out] at h8; exact heq h8)
      have heq' : ¬ (k : Int) = t2 := fun e => heq e.symm
      have heq2 : ((k : Int) == t2) = false := beq_eq_false_iff_ne.2 heq'
      clear bc
      go_wp2
      go_ret2
      exact ⟨ret_ib (by rw [hn.out]; rfl) (by rw [hn.out]; rfl), (q4.alloc q4.size _)⟩
    subst heq
    obtain ⟨b', o', e', hi5⟩ := bc.at_ hk
    obtain ⟨rfl, rfl⟩ : b = b' ∧ o = o' := by simpa using e'
    clear e'
    rw [Hxl.out] at hi5
    have HP := Lib.hid (show ptn l (k : Int) = if pairB k m x.op y.op = true then some (m : Int) else none by
      by_cases hp : pairB k m x.op y.op = true
      · rw [if_pos hp]
        exact ptn_spec.2 ⟨by simp [inR]; omega, by rw [Hx.out]; exact hkx, by rw [Hx.out, Ht.out], by simp [inR]; omega, by rw [Hx.out]; exact hvx, by rw [Hy.out]; exact hvy, by rw [Hy.out]; exact hky, by rw [Hy.out, Hty.out], by rw [Hx.out, Hy.out]; exact hp⟩
      · rw [if_neg hp]
        refine ptn_none fun t' h => ?_
        obtain ⟨_, _, h3, _, _, _, _, _, h9⟩ := ptn_spec.1 h
        rw [Hx.out, Ht.out] at h3; subst h3
        rw [Hx.out, Hy.out] at h9; exact hp h9)
    have hlk := hi5.lt
    go_wp2
    have hbx := below_box w4 (Obj.cells #[Value.int IntKind.i64 ↑k, Value.int IntKind.i64 ↑m] 60)
    have im5 := im4.mono hbx
    have hi6 := hi5.mono hbx
    have hj6 := hi4.mono hbx
    have q5 := below_step q4 q4.size hbx
    clear bc im4 hi5 hi4 q4 hbx b0 b1 b2 hlk hlt4
    generalize w4.alloc _ = W5 at im5 hi6 hj6 q5 ⊢
    obtain ⟨b0, b1, b2, bc⟩ := id im5
    obtain ⟨c0, c1, c2, c3, c4⟩ := id hi6
    obtain ⟨e0, e1, e2, e3, e4⟩ := id hj6
    have r1 : (0 : Int) ≤ k := by omega
    have r2 : (k : Int) < l.length := by omega
    have r3 : (0 : Int) ≤ m := by omega
    have r4 : (m : Int) < l.length := by omega
    clear bc
    go_quiet (fail)
    have hend : ∀ (W' : World), W' = W5.drewN nq → Below w.heap.size w W' := by
      rintro W' rfl
      exact q5.trans ⟨rfl, rfl, rfl, Nat.le_refl _, fun _ _ => rfl⟩
    have q6 := hend _ rfl
    clear hend
    generalize W5.drewN nq = W6 at q6 ⊢
    by_cases j : jmpB x.op = true
    · by_cases jy : lndB y.op = true
      · have hp := Lib.hid (show ptn l (k : Int) = some (m : Int) by rw [HP.out, if_pos (by simp [pairB, j, jy])])
        go_wp2_with (first | (go_at_call 22; refine (isJump_any _ hop _).mono ?_; rintro e w' ⟨rfl, rfl⟩) | (go_at_call 23; refine (isLanding_any _ hopy _).mono ?_; rintro e w' ⟨rfl, rfl⟩))
        go_ret2
        exact ⟨ret_ib (by rw [hp.out]; rfl) (by rw [hp.out]; rfl), q6⟩
      · have hn := Lib.hid (show ptn l (k : Int) = none by rw [HP.out, if_neg (by simp [pairB, j, jy])])
        have jy' : lndB y.op = false := by simpa using jy
        clear jy
        go_wp2_with (first | (go_at_call 22; refine (isJump_any _ hop _).mono ?_; rintro e w' ⟨rfl, rfl⟩) | (go_at_call 23; refine (isLanding_any _ hopy _).mono ?_; rintro e w' ⟨rfl, rfl⟩))
        go_ret2
        exact ⟨ret_ib (by rw [hn.out]; rfl) (by rw [hn.out]; rfl), q6⟩
    have j' : jmpB x.op = false := by simpa using j
    by_cases ln : lndB x.op = true
    · by_cases jy : jmpB y.op = true
      · have hp := Lib.hid (show ptn l (k : Int) = some (m : Int) by rw [HP.out, if_pos (by simp [pairB, j', ln, jy])])
        clear j
        go_wp2_with (first | (go_at_call 22; refine (isJump_any _ (by first | exact hop | exact hopy) _).mono ?_; rintro e w' ⟨rfl, rfl⟩) | (go_at_call 23; refine (isLanding_any _ hop _).mono ?_; rintro e w' ⟨rfl, rfl⟩))
        go_ret2
        exact ⟨ret_ib (by rw [hp.out]; rfl) (by rw [hp.out]; rfl), q6⟩
      · have hn := Lib.hid (show ptn l (k : Int) = none by rw [HP.out, if_neg (by simp [pairB, j', ln, jy])])
        have jy' : jmpB y.op = false := by simpa using jy
        clear jy j
        go_wp2_with (first | (go_at_call 22; refine (isJump_any _ (by first | exact hop | exact hopy) _).mono ?_; rintro e w' ⟨rfl, rfl⟩) | (go_at_call 23; refine (isLanding_any _ hop _).mono ?_; rintro e w' ⟨rfl, rfl⟩))
        go_ret2
        exact ⟨ret_ib (by rw [hn.out]; rfl) (by rw [hn.out]; rfl), q6⟩
    have ln' : lndB x.op = false := by simpa using ln
    have HP2 := Lib.hid (show ptn l (k : Int) = if (if (k : Int) < m then (x.op == 32 && y.op == 33) else (x.op == 33 && y.op == 32)) = true then some (m : Int) else none by
      rw [HP.out]; simp only [pairB, j', ln']; rfl)
    clear j ln HP
    by_cases hkm : (k : Int) < m
    · skip
      by_cases a1 : x.op = 32
      · have a1' : ((x.op : Int) == 32) = true := by rw [beq_iff_eq]; omega
        by_cases a2 : y.op = 33
        · have a2' : ((y.op : Int) == 33) = true := by rw [beq_iff_eq]; omega
          have hp := Lib.hid (show ptn l (k : Int) = some (m : Int) by rw [HP2.out]; simp [a1, a2, hkm])
          clear HP2 a1 a2
          go_wp2_with (first | (go_at_call 22; refine (isJump_any _ hop _).mono ?_; rintro e w' ⟨rfl, rfl⟩) | (go_at_call 23; refine (isLanding_any _ hop _).mono ?_; rintro e w' ⟨rfl, rfl⟩))
          go_ret2
          exact ⟨ret_ib (by rw [hp.out]; rfl) (by rw [hp.out]; rfl), q6⟩
        · have a2' : ((y.op : Int) == 33) = false := beq_eq_false_iff_ne.2 (by omega)
          have hn := Lib.hid (show ptn l (k : Int) = none by rw [HP2.out]; simp [a1, a2, hkm])
          clear HP2 a1 a2
          go_wp2_with (first | (go_at_call 22; refine (isJump_any _ hop _).mono ?_; rintro e w' ⟨rfl, rfl⟩) | (go_at_call 23; refine (isLanding_any _ hop _).mono ?_; rintro e w' ⟨rfl, rfl⟩))
          go_ret2
          exact ⟨ret_ib (by rw [hn.out]; rfl) (by rw [hn.out]; rfl), q6⟩
      · have a1' : ((x.op : Int) == 32) = false := beq_eq_false_iff_ne.2 (by omega)
        have hn := Lib.hid (show ptn l (k : Int) = none by rw [HP2.out]; simp [a1, hkm])
        clear HP2 a1
        go_wp2_with (first | (go_at_call 22; refine (isJump_any _ hop _).mono ?_; rintro e w' ⟨rfl, rfl⟩) | (go_at_call 23; refine (isLanding_any _ hop _).mono ?_; rintro e w' ⟨rfl, rfl⟩))
        go_ret2
        exact ⟨ret_ib (by rw [hn.out]; rfl) (by rw [hn.out]; rfl), q6⟩
    · skip
      by_cases a1 : x.op = 33
      · have a1' : ((x.op : Int) == 33) = true := by rw [beq_iff_eq]; omega
        by_cases a2 : y.op = 32
        · have a2' : ((y.op : Int) == 32) = true := by rw [beq_iff_eq]; omega
          have hp := Lib.hid (show ptn l (k : Int) = some (m : Int) by rw [HP2.out]; simp [a1, a2, hkm])
          clear HP2 a1 a2
          go_wp2_with (first | (go_at_call 22; refine (isJump_any _ hop _).mono ?_; rintro e w' ⟨rfl, rfl⟩) | (go_at_call 23; refine (isLanding_any _ hop _).mono ?_; rintro e w' ⟨rfl, rfl⟩))
          go_ret2
          exact ⟨ret_ib (by rw [hp.out]; rfl) (by rw [hp.out]; rfl), q6⟩
        · have a2' : ((y.op : Int) == 32) = false := beq_eq_false_iff_ne.2 (by omega)
          have hn := Lib.hid (show ptn l (k : Int) = none by rw [HP2.out]; simp [a1, a2, hkm])
          clear HP2 a1 a2
          go_wp2_with (first | (go_at_call 22; refine (isJump_any _ hop _).mono ?_; rintro e w' ⟨rfl, rfl⟩) | (go_at_call 23; refine (isLanding_any _ hop _).mono ?_; rintro e w' ⟨rfl, rfl⟩))
          go_ret2
          exact ⟨ret_ib (by rw [hn.out]; rfl) (by rw [hn.out]; rfl), q6⟩
      · have a1' : ((x.op : Int) == 33) = false := beq_eq_false_iff_ne.2 (by omega)
        have hn := Lib.hid (show ptn l (k : Int) = none by rw [HP2.out]; simp [a1, hkm])
        clear HP2 a1
        go_wp2_with (first | (go_at_call 22; refine (isJump_any _ hop _).mono ?_; rintro e w' ⟨rfl, rfl⟩) | (go_at_call 23; refine (isLanding_any _ hop _).mono ?_; rintro e w' ⟨rfl, rfl⟩))
        go_ret2
        exact ⟨ret_ib (by rw [hn.out]; rfl) (by rw [hn.out]; rfl), q6⟩
  · have hn := Lib.hid (ptn_none (l := l) (i := i) fun t h => hr (ptn_range h).1)
    clear im HT hC
    by_cases h0 : i < 0
    · go_enter Tryd.func21, Tryd.ntmps21
      go_wp2
      go_ret2
      exact ⟨ret_ib (by rw [hn.out]; rfl) (by rw [hn.out]; rfl), hbW⟩
    · have h1 : (l.length : Int) ≤ i := by omega
      go_enter Tryd.func21, Tryd.ntmps21
      go_wp2
      go_ret2
      exact ⟨ret_ib (by rw [hn.out]; rfl) (by rw [hn.out]; rfl), hbW⟩

end Go.Proofs.YthakiaicnhkfjaaDoor
