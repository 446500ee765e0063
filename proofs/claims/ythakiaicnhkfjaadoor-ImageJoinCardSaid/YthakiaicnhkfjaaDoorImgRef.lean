/-
  Contracts of the reference of layer 23: jump, landing, target, Partner.
-/
import Derived.Test.YthakiaicnhkfjaaDoorImgPartner
namespace Go.Proofs.YthakiaicnhkfjaaDoor
open Go.ChangeShapes Go.WideShapes Go.ChangeAt Go.RowKit Go.Sort

theorem rjump_any (op : Nat) (w : World) :
    Calls Tryd.prog 43 #[.int .u8 op] w fun e w' => e = .returned (.bool (jmpB op)) ∧ w = w' := by
  go_enter Tryd.func43, Tryd.ntmps43
  go_wp2
  all_goals go_ret
  all_goals refine ⟨ret_bool ?_, rfl⟩
  all_goals (rw [← jmpR_eq]; simp only [jmpR])
  all_goals (try simp only [beq_iff_eq, beq_eq_false_iff_ne, ne_eq] at *)
  all_goals (try norm_cast at *)
  all_goals (rw [Bool.eq_iff_iff]; simp; omega)
theorem rlanding_any (op : Nat) (w : World) :
    Calls Tryd.prog 44 #[.int .u8 op] w fun e w' => e = .returned (.bool (lndB op)) ∧ w = w' := by
  go_enter Tryd.func44, Tryd.ntmps44
  go_wp2
  all_goals go_ret
  all_goals refine ⟨ret_bool ?_, rfl⟩
  all_goals (rw [← lndR_eq]; simp only [lndR])
  all_goals (try simp only [beq_iff_eq, beq_eq_false_iff_ne, ne_eq] at *)
  all_goals (try norm_cast at *)
  all_goals (rw [Bool.eq_iff_iff]; simp; omega)

set_option maxRecDepth 100000 in
theorem rtarget_any (x : Ins) (w : World) :
    Calls Tryd.prog 34 #[.agg #[.int .u8 x.op, .int .i64 x.a, .int .i64 x.b, .int .i64 x.c, .int .i64 x.d]] w fun e w' => e = .returned (.int .i64 (rtarget x)) ∧ Below w.heap.size w w' := by
  go_enter Tryd.func34, Tryd.ntmps34
  go_wp2
  all_goals go_ret
  all_goals refine ⟨?_, (Below.refl _ _).alloc (Nat.le_refl _) _⟩
  all_goals simp only [beq_iff_eq, beq_eq_false_iff_ne, ne_eq] at *
  all_goals norm_cast at *
  all_goals simp [rtarget, tgtK, *]


theorem ret_i64 {a b : Int} (h : a = b) : Ending.returned (.int .i64 a) = .returned (.int .i64 b) := by rw [h]
theorem clsN (op n : Nat) (h1 : n ≠ 22) (h2 : n ≠ 23) (h3 : n ≠ 24) (h4 : n ≠ 25) (h5 : n ≠ 26) (h6 : n ≠ 27) :
    (jmpB op = true ∧ lndB op = false ∧ ((op : Int) == n) = false ∧ (op == n) = false) ∨ (jmpB op = false ∧ lndB op = true ∧ ((op : Int) == n) = false ∧ (op == n) = false)
    ∨ (jmpB op = false ∧ lndB op = false ∧ ((op : Int) == n) = true ∧ (op == n) = true) ∨ (jmpB op = false ∧ lndB op = false ∧ ((op : Int) == n) = false ∧ (op == n) = false) := by
  by_cases a : 22 ≤ op ∧ op ≤ 24
  · refine .inl ⟨?_, ?_, ?_, ?_⟩ <;> simp [jmpB, lndB] <;> omega
  · by_cases b : 25 ≤ op ∧ op ≤ 27
    · refine .inr (.inl ⟨?_, ?_, ?_, ?_⟩) <;> simp [jmpB, lndB] <;> omega
    · by_cases c : op = n
      · refine .inr (.inr (.inl ⟨?_, ?_, ?_, ?_⟩)) <;> simp [jmpB, lndB] <;> omega
      · refine .inr (.inr (.inr ⟨?_, ?_, ?_, ?_⟩)) <;> simp [jmpB, lndB] <;> omega
theorem cls32 (op : Nat) : (jmpB op = true ∧ lndB op = false ∧ ((op : Int) == 32) = false ∧ (op == 32) = false) ∨ (jmpB op = false ∧ lndB op = true ∧ ((op : Int) == 32) = false ∧ (op == 32) = false)
    ∨ (jmpB op = false ∧ lndB op = false ∧ ((op : Int) == 32) = true ∧ (op == 32) = true) ∨ (jmpB op = false ∧ lndB op = false ∧ ((op : Int) == 32) = false ∧ (op == 32) = false) := clsN op 32 (by decide) (by decide) (by decide) (by decide) (by decide) (by decide)
theorem cls33 (op : Nat) : (jmpB op = true ∧ lndB op = false ∧ ((op : Int) == 33) = false ∧ (op == 33) = false) ∨ (jmpB op = false ∧ lndB op = true ∧ ((op : Int) == 33) = false ∧ (op == 33) = false)
    ∨ (jmpB op = false ∧ lndB op = false ∧ ((op : Int) == 33) = true ∧ (op == 33) = true) ∨ (jmpB op = false ∧ lndB op = false ∧ ((op : Int) == 33) = false ∧ (op == 33) = false) := clsN op 33 (by decide) (by decide) (by decide) (by decide) (by decide) (by decide)
theorem rptn_none {l : List Ins} {i : Int} (h : ∀ t, ptn l i ≠ some t) : rptn l i = -1 := by rw [rptn_eq, ptn_none h]; rfl

set_option maxRecDepth 100000 in
set_option maxHeartbeats 1000000 in
theorem rpartner_any (l : List Ins) (A : Option Addr) (cap : Nat) (i : Int) (w : World) (hC : CodeAt w A l) (hY : Bytes l) (_hl : l.length ≤ 1000000) :
    Calls Tryd.prog 29 #[.slice A l.length cap, .int .i64 i] w fun e w' => e = .returned (.int .i64 (rptn l i)) ∧ Below w.heap.size w w' := by
  by_cases hr : 0 ≤ i ∧ i < l.length
  rotate_left
  · have hn := Lib.hid (rptn_none (l := l) (i := i) fun t h => hr (ptn_range h).1)
    clear hC
    by_cases h0 : i < 0
    · go_enter Tryd.func29, Tryd.ntmps29
      go_wp2
      go_ret
      exact ⟨ret_i64 hn.out.symm, Below.refl _ _⟩
    · have h1 : (l.length : Int) ≤ i := by omega
      go_enter Tryd.func29, Tryd.ntmps29
      go_wp2
      go_ret
      exact ⟨ret_i64 hn.out.symm, Below.refl _ _⟩
  obtain ⟨k, rfl⟩ := Int.eq_ofNat_of_zero_le hr.1
  have hk : k < l.length := by omega
  clear hr
  have hop := hY.at_ hk
  obtain ⟨b, o, rfl, hi⟩ := hC.at_ hk
  obtain ⟨c0, c1, c2, c3, c4⟩ := id hi
  have g1 : decide ((k : Int) < 0) = false := by simp
  have g2 : decide (l.length ≤ k) = false := by simp; omega
  have hx : atI l (k : Int) = l[k] := atI_nat hk
  generalize hxl : l[k] = x at *
  have Hx := Lib.hid hx
  have Hxl := Lib.hid hxl
  have HC := Lib.hid hC
  clear hx hxl hC
  go_enter Tryd.func29, Tryd.ntmps29
  go_wp2_with fail
  refine (refValid_any _ hop _ _ _ _ _).mono ?_
  rintro e w1 ⟨rfl, q1⟩
  have HC1 := Lib.hid (HC.out.mono q1)
  have hi1 := hi.mono q1
  clear HC hi c0 c1 c2 c3 c4
  obtain ⟨c0, c1, c2, c3, c4⟩ := id hi1
  by_cases hvx : refV x.op x.a x.b x.c x.d = true
  rotate_left
  · have hvx' : refV x.op x.a x.b x.c x.d = false := by simpa using hvx
    have hn := Lib.hid (rptn_none (l := l) (i := (k : Int)) fun t' h => by
      obtain ⟨_, _, _, _, h5, _⟩ := ptn_spec.1 h
      rw [Hx.out, ← rV_eq] at h5; exact hvx h5)
    clear hvx
    go_wp2
    go_ret
    exact ⟨ret_i64 hn.out.symm, q1⟩
  go_wp2_with fail
  refine (rtarget_any x _).mono ?_
  rintro e w2 ⟨rfl, hb2⟩
  have HC2 := Lib.hid (HC1.out.mono hb2)
  have hi2 := hi1.mono hb2
  have q2 := below_step q1 q1.size hb2
  clear HC1 hi1 q1 hb2 c0 c1 c2 c3 c4
  generalize ht : rtarget x = t
  have Ht := Lib.hid ht
  clear ht
  have Htn : ∀ t', ptn l (k : Int) = some t' → t' = t := fun t' h => by
    obtain ⟨_, h2, h3, _⟩ := ptn_spec.1 h
    rw [Hx.out] at h2 h3
    rw [h3, ← rtarget_k h2]; exact Ht.out
  have HTN := Lib.hid Htn
  clear Htn
  by_cases ht0 : t < 0
  · have hn := Lib.hid (rptn_none (l := l) (i := (k : Int)) fun t' h => by
      have := HTN.out t' h; have := (ptn_range h).2; omega)
    go_wp2
    go_ret
    exact ⟨ret_i64 hn.out.symm, q2⟩
  obtain ⟨m, rfl⟩ := Int.eq_ofNat_of_zero_le (show 0 ≤ t by omega)
  have h0 : decide ((m : Int) < 0) = false := by simp
  clear ht0
  by_cases htl : m < l.length
  rotate_left
  · have hn := Lib.hid (rptn_none (l := l) (i := (k : Int)) fun t' h => by
      have := HTN.out t' h; have := (ptn_range h).2; omega)
    have h1 : decide (l.length ≤ m) = true := by simp; omega
    go_wp2
    go_ret
    exact ⟨ret_i64 hn.out.symm, q2⟩
  have h1 : decide (l.length ≤ m) = false := by simp; omega
  obtain ⟨b', o', e', hj2⟩ := HC2.out.at_ htl
  obtain ⟨rfl, rfl⟩ : b = b' ∧ o = o' := by simpa using e'
  clear e'
  have hy : atI l (m : Int) = l[m] := atI_nat htl
  have hopy := hY.at_ htl
  generalize hyl : l[m] = y at *
  have Hy := Lib.hid hy
  clear hy hyl
  obtain ⟨c0, c1, c2, c3, c4⟩ := id hj2
  go_wp2_with fail
  refine (refValid_any _ hopy _ _ _ _ _).mono ?_
  rintro e w3 ⟨rfl, hb3⟩
  have hi3 := hi2.mono hb3
  have hj3 := hj2.mono hb3
  have q3 := below_step q2 q2.size hb3
  clear HC2 hi2 hj2 q2 hb3 c0 c1 c2 c3 c4
  by_cases hvy : refV y.op y.a y.b y.c y.d = true
  rotate_left
  · have hvy' : refV y.op y.a y.b y.c y.d = false := by simpa using hvy
    have hn := Lib.hid (rptn_none (l := l) (i := (k : Int)) fun t' h => by
      obtain rfl := HTN.out t' h
      obtain ⟨_, _, _, _, _, h6, _⟩ := ptn_spec.1 h
      rw [Hy.out, ← rV_eq] at h6; exact hvy h6)
    clear hvy
    go_wp2
    go_ret
    exact ⟨ret_i64 hn.out.symm, q3⟩
  obtain ⟨c0, c1, c2, c3, c4⟩ := id hj3
  go_wp2_with fail
  refine (rtarget_any y _).mono ?_
  rintro e w4 ⟨rfl, hb4⟩
  have hi4 := hi3.mono hb4
  have hj4 := hj3.mono hb4
  have q4 := below_step q3 q3.size hb4
  clear hi3 hj3 q3 hb4 c0 c1 c2 c3 c4
  by_cases heq : rtarget y = k
  rotate_left
  · have hn := Lib.hid (rptn_none (l := l) (i := (k : Int)) fun t' h => by
      obtain rfl := HTN.out t' h
      obtain ⟨_, _, _, _, _, _, h7, h8, _⟩ := ptn_spec.1 h
      rw [Hy.out] at h7 h8; rw [rtarget_k h7] at heq; exact heq h8)
    have heq2 : (rtarget y != (k : Int)) = true := bne_iff_ne.2 heq
    clear heq
    go_wp2
    go_ret
    exact ⟨ret_i64 hn.out.symm, q4⟩
  have HP := Lib.hid (show rptn l (k : Int) = if pairB k m x.op y.op = true then (m : Int) else -1 by
    unfold rptn
    rw [Hx.out, Ht.out, Hy.out]
    have hpc := pair_cond (i := (k : Int)) (t := (m : Int)) l (congrArg Ins.op Hx.out) (congrArg Ins.op Hy.out)
    by_cases hp : pairB k m x.op y.op = true
    · rw [if_pos ⟨by simp [inR]; omega, hvx, by simp [inR]; omega, hvy, heq, hpc.2 hp⟩, if_pos hp]
    · rw [if_neg hp, if_neg]
      rintro ⟨_, _, _, _, _, h⟩
      exact hp (hpc.1 h))
  have heq2 : (rtarget y != (k : Int)) = false := by rw [heq]; simp
  clear heq
  obtain ⟨c0, c1, c2, c3, c4⟩ := id hi4
  obtain ⟨e0, e1, e2, e3, e4⟩ := id hj4
  have r1 : (0 : Int) ≤ k := by omega
  have r2 : (k : Int) < l.length := by omega
  have r3 : (0 : Int) ≤ m := by omega
  have r4 : (m : Int) < l.length := by omega
  rcases Nat.lt_trichotomy k m with hkm | hkm | hkm
  · have hne : ((k : Int) != m) = true := by rw [bne_iff_ne]; omega
    go_wp2
    go_quiet (fail)
    have q6 : Below w.heap.size w (w4.drewN nq) := q4.trans ⟨rfl, rfl, rfl, Nat.le_refl _, fun _ _ => rfl⟩
    generalize w4.drewN nq = W6 at q6 ⊢
    clear c0 c1 c2 c3 c4 e0 e1 e2 e3 e4 hi4 hj4
    rcases cls32 x.op with ⟨a1, a2, a3, a4⟩ | ⟨a1, a2, a3, a4⟩ | ⟨a1, a2, a3, a4⟩ | ⟨a1, a2, a3, a4⟩ <;> rcases cls33 y.op with ⟨b1, b2, b3, b4⟩ | ⟨b1, b2, b3, b4⟩ | ⟨b1, b2, b3, b4⟩ | ⟨b1, b2, b3, b4⟩
    all_goals
      go_wp2_with (first | (go_at_call 43; refine (rjump_any _ _).mono ?_; rintro e w' ⟨rfl, rfl⟩) | (go_at_call 44; refine (rlanding_any _ _).mono ?_; rintro e w' ⟨rfl, rfl⟩))
      go_ret
      exact ⟨ret_i64 (by rw [HP.out]; simp [pairB, a1, a2, a4, b1, b2, b4, hkm]), q6⟩
  · subst hkm
    obtain rfl : x = y := Hx.out.symm.trans Hy.out
    have hne : ((k : Int) != k) = false := by simp
    go_wp2
    go_quiet (fail)
    have q6 : Below w.heap.size w (w4.drewN nq) := q4.trans ⟨rfl, rfl, rfl, Nat.le_refl _, fun _ _ => rfl⟩
    generalize w4.drewN nq = W6 at q6 ⊢
    clear c0 c1 c2 c3 c4 e0 e1 e2 e3 e4 hi4 hj4
    rcases cls32 x.op with ⟨a1, a2, a3, a4⟩ | ⟨a1, a2, a3, a4⟩ | ⟨a1, a2, a3, a4⟩ | ⟨a1, a2, a3, a4⟩
    all_goals
      go_wp2_with (first | (go_at_call 43; refine (rjump_any _ _).mono ?_; rintro e w' ⟨rfl, rfl⟩) | (go_at_call 44; refine (rlanding_any _ _).mono ?_; rintro e w' ⟨rfl, rfl⟩))
      go_ret
      exact ⟨ret_i64 (by rw [HP.out]; simp only [beq_eq_false_iff_ne, beq_iff_eq, ne_eq] at a4; simp [pairB, a1, a2, a4]; try (first | omega | decide)), q6⟩
  · have hne : ((k : Int) != m) = true := by rw [bne_iff_ne]; omega
    have hkm' : ¬ k < m := by omega
    go_wp2
    go_quiet (fail)
    have q6 : Below w.heap.size w (w4.drewN nq) := q4.trans ⟨rfl, rfl, rfl, Nat.le_refl _, fun _ _ => rfl⟩
    generalize w4.drewN nq = W6 at q6 ⊢
    clear c0 c1 c2 c3 c4 e0 e1 e2 e3 e4 hi4 hj4
    rcases cls32 y.op with ⟨a1, a2, a3, a4⟩ | ⟨a1, a2, a3, a4⟩ | ⟨a1, a2, a3, a4⟩ | ⟨a1, a2, a3, a4⟩ <;> rcases cls33 x.op with ⟨b1, b2, b3, b4⟩ | ⟨b1, b2, b3, b4⟩ | ⟨b1, b2, b3, b4⟩ | ⟨b1, b2, b3, b4⟩
    all_goals
      go_wp2_with (first | (go_at_call 43; refine (rjump_any _ _).mono ?_; rintro e w' ⟨rfl, rfl⟩) | (go_at_call 44; refine (rlanding_any _ _).mono ?_; rintro e w' ⟨rfl, rfl⟩))
      go_ret
      exact ⟨ret_i64 (by rw [HP.out]; simp [pairB, a1, a2, a4, b1, b2, b4, hkm']), q6⟩

end Go.Proofs.YthakiaicnhkfjaaDoor
