/-
  The contract of the reference's fault (layer 23).
-/
import Derived.Test.YthakiaicnhkfjaaDoorImgRefReg
namespace Go.Proofs.YthakiaicnhkfjaaDoor
open Go.ChangeShapes Go.WideShapes Go.ChangeAt Go.RowKit Go.Sort

theorem insAt_box (w : World) (T : TypeId) (op : Nat) (A B C D : Int) : InsAt (w.alloc (Obj.cells #[Value.int IntKind.u8 ↑op, Value.int IntKind.i64 A, Value.int IntKind.i64 B, Value.int IntKind.i64 C, Value.int IntKind.i64 D] T)) w.heap.size op A B C D := by
  constructor <;> simp [go_sem]

theorem rptn_pos {l : List Ins} {i : Int} (h : ¬ rptn l i < 0) : ∃ m : Nat, m < l.length ∧ rptn l i = m ∧ ptn l i = some (m : Int) := by
  rw [rptn_eq] at h ⊢
  cases hp : ptn l i with
  | none => rw [hp] at h; simp at h
  | some t =>
    have := (ptn_range hp).2
    exact ⟨t.toNat, by omega, by simp; omega, by congr 1; omega⟩

set_option maxRecDepth 100000 in
set_option maxHeartbeats 2000000 in
theorem rfault_any (l : List Ins) (A : Option Addr) (cap : Nat) (i : Nat) (hi : i < l.length) (w : World) (hC : CodeAt w A l) (hY : Bytes l) (hl : l.length ≤ 1000000) :
    Calls Tryd.prog 32 #[.slice A l.length cap, .int .i64 i] w fun e w' => e = .returned (.int .i64 (rfault l i)) ∧ Below w.heap.size w w' := by
  have hop := hY.at_ hi
  obtain ⟨b, o, rfl, hi'⟩ := hC.at_ hi
  have hlt := hi'.lt
  have hx : atI l (i : Int) = l[i] := atI_nat hi
  obtain ⟨c0, c1, c2, c3, c4⟩ := id hi'
  generalize hxl : l[i] = x at *
  have Hx := Lib.hid hx
  clear hx hxl
  have hbW := below_box w (Obj.cells #[Value.int IntKind.u8 ↑x.op, Value.int IntKind.i64 x.a, Value.int IntKind.i64 x.b, Value.int IntKind.i64 x.c, Value.int IntKind.i64 x.d] 38)
  have ib := insAt_box w 38 x.op x.a x.b x.c x.d
  have HC := Lib.hid (hC.mono hbW)
  clear hC
  go_enter Tryd.func32, Tryd.ntmps32
  go_wp2_with fail
  generalize w.alloc _ = W at hbW ib HC ⊢
  refine (refValid_any _ hop _ _ _ _ _).mono ?_
  rintro e w1 ⟨rfl, hb1⟩
  have ib1 := ib.mono hb1
  have HC1 := Lib.hid (HC.out.mono hb1)
  have q1 := below_step hbW hbW.size hb1
  clear ib HC hbW hb1 c0 c1 c2 c3 c4 hi' hlt
  by_cases hv : refV x.op x.a x.b x.c x.d = true
  rotate_left
  · have hv' : refV x.op x.a x.b x.c x.d = false := by simpa using hv
    have hn := Lib.hid (show rfault l i = 3 by unfold rfault; rw [Hx.out, if_pos (show rV x = false from hv')])
    clear hv
    go_wp2
    go_ret
    exact ⟨ret_i64 hn.out.symm, q1⟩
  have HF := Lib.hid (show rfault l i = if (jmpB x.op || lndB x.op || x.op == 32 || x.op == 33) = true ∧ rptn l i < 0 then 23
      else if (x.op == 30 || x.op == 31) = true ∧ ((l.length : Int) ≤ x.a ∨ (atI l x.a).op ≠ 32 ∨ rptn l x.a < 0) then 23
      else if (x.op = 32 ∧ 0 ≤ regS l i i (i + 1)) ∨ ((jmpB x.op || lndB x.op) = true ∧ regS l i (-1) (i + 1) ≠ regS l (rptn l i) (-1) ((rptn l i).toNat + 1)) then 20
      else 0 by
    conv => lhs; unfold rfault
    rw [Hx.out, if_neg (show ¬ rV x = false by rw [show rV x = true from hv]; decide)])
  go_wp2_with fail
  refine (rpartner_any l _ _ _ _ HC1.out hY hl).mono ?_
  rintro e w2 ⟨rfl, hb2⟩
  have ib2 := ib1.mono hb2
  have HC2 := Lib.hid (HC1.out.mono hb2)
  have q2 := below_step q1 q1.size hb2
  clear ib1 HC1 q1 hb2
  obtain ⟨c0, c1, c2, c3, c4, fz⟩ := id ib2
  rcases opc x.op with ⟨a1, a2, a3, a4, a5, a6⟩ | ⟨a1, a2, a3, a4, a5, a6⟩ | ⟨a1, a2, a3, a4, a5, a6⟩ | ⟨a1, a2, a3, a4, a5, a6⟩ | ⟨a1, a2, a3, a4, a5, a6⟩ | ⟨a1, a2, a3, a4, a5, a6⟩ | ⟨a1, a2, a3, a4, a5, a6⟩
  all_goals have n3 : (x.op == 30) = _ := beqN.symm.trans a3
  all_goals have n4 : (x.op == 31) = _ := beqN.symm.trans a4
  all_goals have n5 : (x.op == 32) = _ := beqN.symm.trans a5
  all_goals have n6 : (x.op == 33) = _ := beqN.symm.trans a6
  all_goals have HFF := HF.out
  all_goals rw [n3, n4, n5, n6, a1, a2] at HFF
  all_goals have HN5 := Lib.hid n5
  all_goals clear n3 n4 n5 n6 HF
  case inr.inr.inr.inr.inr.inr =>
    have hn := Lib.hid (show rfault l i = 0 by
      rw [HFF, if_neg (by simp), if_neg (by simp), if_neg]
      rintro (⟨h, _⟩ | ⟨h, _⟩)
      · have := HN5.out; rw [beq_eq_false_iff_ne] at this; exact this h
      · cases h)
    clear HFF
    go_wp2_with (first | (go_at_call 43; refine (rjump_any _ _).mono ?_; rintro e w' ⟨rfl, rfl⟩) | (go_at_call 44; refine (rlanding_any _ _).mono ?_; rintro e w' ⟨rfl, rfl⟩))
    go_ret
    exact ⟨ret_i64 hn.out.symm, q2⟩
  case inr.inr.inr.inr.inr.inl =>
    by_cases hp : rptn l i < 0
    · have hn := Lib.hid (show rfault l i = 23 by rw [HFF, if_pos ⟨by simp, hp⟩])
      clear HFF
      go_wp2_with (first | (go_at_call 43; refine (rjump_any _ _).mono ?_; rintro e w' ⟨rfl, rfl⟩) | (go_at_call 44; refine (rlanding_any _ _).mono ?_; rintro e w' ⟨rfl, rfl⟩))
      go_ret
      exact ⟨ret_i64 hn.out.symm, q2⟩
    · have hn := Lib.hid (show rfault l i = 0 by
        rw [HFF, if_neg (fun h => hp h.2), if_neg (by simp), if_neg]
        rintro (⟨h, _⟩ | ⟨h, _⟩)
        · have := HN5.out; rw [beq_eq_false_iff_ne] at this; exact this h
        · cases h)
      clear HFF
      go_wp2_with (first | (go_at_call 43; refine (rjump_any _ _).mono ?_; rintro e w' ⟨rfl, rfl⟩) | (go_at_call 44; refine (rlanding_any _ _).mono ?_; rintro e w' ⟨rfl, rfl⟩))
      go_ret
      exact ⟨ret_i64 hn.out.symm, q2⟩
  case inr.inr.inr.inr.inl =>
    by_cases hp : rptn l i < 0
    · have hn := Lib.hid (show rfault l i = 23 by rw [HFF, if_pos ⟨by simp, hp⟩])
      clear HFF
      go_wp2_with (first | (go_at_call 43; refine (rjump_any _ _).mono ?_; rintro e w' ⟨rfl, rfl⟩) | (go_at_call 44; refine (rlanding_any _ _).mono ?_; rintro e w' ⟨rfl, rfl⟩))
      go_ret
      exact ⟨ret_i64 hn.out.symm, q2⟩
    · have h32 : x.op = 32 := by have := HN5.out; rw [beq_iff_eq] at this; exact this
      have HF2 := Lib.hid (show rfault l i = if 0 ≤ regS l i i (i + 1) then 20 else 0 by
        rw [HFF, if_neg (fun h => hp h.2), if_neg (by simp)]
        by_cases h : 0 ≤ regS l i i (i + 1)
        · rw [if_pos h, if_pos (.inl ⟨h32, h⟩)]
        · rw [if_neg h, if_neg]
          rintro (⟨_, h2⟩ | ⟨h2, _⟩)
          · exact h h2
          · cases h2)
      clear HFF h32
      go_wp2_with (first | (go_at_call 43; refine (rjump_any _ _).mono ?_; rintro e w' ⟨rfl, rfl⟩) | (go_at_call 44; refine (rlanding_any _ _).mono ?_; rintro e w' ⟨rfl, rfl⟩))
      refine (rregion_any l _ _ i hi _ _ HC2.out hY hl).mono ?_
      rintro e w3 ⟨rfl, hb3⟩
      have q3 := below_step q2 q2.size hb3
      by_cases h : 0 ≤ regS l i i (i + 1)
      · have hn := Lib.hid (HF2.out.trans (if_pos h))
        clear HF2
        go_wp2
        go_ret
        exact ⟨ret_i64 hn.out.symm, q3⟩
      · have hn := Lib.hid (HF2.out.trans (if_neg h))
        have ib3 := ib2.mono hb3
        obtain ⟨c0', c1', c2', c3', c4', fz'⟩ := id ib3
        clear HF2
        go_wp2
        go_ret
        exact ⟨ret_i64 hn.out.symm, q3⟩
  case inl =>
    by_cases hp : rptn l i < 0
    · have hn := Lib.hid (show rfault l i = 23 by rw [HFF, if_pos ⟨by simp, hp⟩])
      clear HFF
      go_wp2_with (first | (go_at_call 43; refine (rjump_any _ _).mono ?_; rintro e w' ⟨rfl, rfl⟩) | (go_at_call 44; refine (rlanding_any _ _).mono ?_; rintro e w' ⟨rfl, rfl⟩))
      go_ret
      exact ⟨ret_i64 hn.out.symm, q2⟩
    · obtain ⟨m, hm, hpm, _⟩ := rptn_pos hp
      have h32 : ¬ x.op = 32 := by have := HN5.out; rw [beq_eq_false_iff_ne] at this; exact this
      have HF2 := Lib.hid (show rfault l i = if regS l i (-1) (i + 1) = regS l m (-1) (m + 1) then 0 else 20 by
        rw [HFF, if_neg (fun h => hp h.2), if_neg (by simp), hpm]
        by_cases h : regS l i (-1) (i + 1) = regS l m (-1) (m + 1)
        · rw [if_pos h, if_neg]
          rintro (⟨h2, _⟩ | ⟨_, h2⟩)
          · exact h32 h2
          · exact h2 h
        · rw [if_neg h, if_pos (.inr ⟨by simp, h⟩)])
      clear HFF h32 hp
      have hp0 : decide ((m : Int) < 0) = false := by simp
      go_wp2_with (first | (go_at_call 43; refine (rjump_any _ _).mono ?_; rintro e w' ⟨rfl, rfl⟩) | (go_at_call 44; refine (rlanding_any _ _).mono ?_; rintro e w' ⟨rfl, rfl⟩))
      refine (rregion_any l _ _ i hi _ _ HC2.out hY hl).mono ?_
      rintro e w3 ⟨rfl, hb3⟩
      have ib3 := ib2.mono hb3
      have HC3 := Lib.hid (HC2.out.mono hb3)
      have q3 := below_step q2 q2.size hb3
      go_wp2_with fail
      refine (rregion_any l _ _ m hm _ _ HC3.out hY hl).mono ?_
      rintro e w4 ⟨rfl, hb4⟩
      have q4 := below_step q3 q3.size hb4
      by_cases h : regS l i (-1) (i + 1) = regS l m (-1) (m + 1)
      · have hn := Lib.hid (HF2.out.trans (if_pos h))
        have hne : (regS l i (-1) (i + 1) != regS l m (-1) (m + 1)) = false := by rw [h]; simp
        clear HF2 h
        go_wp2
        go_ret
        exact ⟨ret_i64 hn.out.symm, q4⟩
      · have hn := Lib.hid (HF2.out.trans (if_neg h))
        have hne : (regS l i (-1) (i + 1) != regS l m (-1) (m + 1)) = true := bne_iff_ne.2 h
        clear HF2
        go_wp2
        go_ret
        exact ⟨ret_i64 hn.out.symm, q4⟩
  case inr.inl =>
    by_cases hp : rptn l i < 0
    · have hn := Lib.hid (show rfault l i = 23 by rw [HFF, if_pos ⟨by simp, hp⟩])
      clear HFF
      go_wp2_with (first | (go_at_call 43; refine (rjump_any _ _).mono ?_; rintro e w' ⟨rfl, rfl⟩) | (go_at_call 44; refine (rlanding_any _ _).mono ?_; rintro e w' ⟨rfl, rfl⟩))
      go_ret
      exact ⟨ret_i64 hn.out.symm, q2⟩
    · obtain ⟨m, hm, hpm, _⟩ := rptn_pos hp
      have h32 : ¬ x.op = 32 := by have := HN5.out; rw [beq_eq_false_iff_ne] at this; exact this
      have HF2 := Lib.hid (show rfault l i = if regS l i (-1) (i + 1) = regS l m (-1) (m + 1) then 0 else 20 by
        rw [HFF, if_neg (fun h => hp h.2), if_neg (by simp), hpm]
        by_cases h : regS l i (-1) (i + 1) = regS l m (-1) (m + 1)
        · rw [if_pos h, if_neg]
          rintro (⟨h2, _⟩ | ⟨_, h2⟩)
          · exact h32 h2
          · exact h2 h
        · rw [if_neg h, if_pos (.inr ⟨by simp, h⟩)])
      clear HFF h32 hp
      have hp0 : decide ((m : Int) < 0) = false := by simp
      go_wp2_with (first | (go_at_call 43; refine (rjump_any _ _).mono ?_; rintro e w' ⟨rfl, rfl⟩) | (go_at_call 44; refine (rlanding_any _ _).mono ?_; rintro e w' ⟨rfl, rfl⟩))
      refine (rregion_any l _ _ i hi _ _ HC2.out hY hl).mono ?_
      rintro e w3 ⟨rfl, hb3⟩
      have ib3 := ib2.mono hb3
      have HC3 := Lib.hid (HC2.out.mono hb3)
      have q3 := below_step q2 q2.size hb3
      go_wp2_with fail
      refine (rregion_any l _ _ m hm _ _ HC3.out hY hl).mono ?_
      rintro e w4 ⟨rfl, hb4⟩
      have q4 := below_step q3 q3.size hb4
      by_cases h : regS l i (-1) (i + 1) = regS l m (-1) (m + 1)
      · have hn := Lib.hid (HF2.out.trans (if_pos h))
        have hne : (regS l i (-1) (i + 1) != regS l m (-1) (m + 1)) = false := by rw [h]; simp
        clear HF2 h
        go_wp2
        go_ret
        exact ⟨ret_i64 hn.out.symm, q4⟩
      · have hn := Lib.hid (HF2.out.trans (if_neg h))
        have hne : (regS l i (-1) (i + 1) != regS l m (-1) (m + 1)) = true := bne_iff_ne.2 h
        clear HF2
        go_wp2
        go_ret
        exact ⟨ret_i64 hn.out.symm, q4⟩
  case inr.inr.inl =>
    have hcall : x.op = 30 ∨ x.op = 31 := by
      have h := a3; rw [beq_iff_eq] at h; omega
    obtain ⟨ha0, ha1⟩ := valid_call (x := x) (by rw [valid_ref]; exact hv) hcall
    clear hcall ha1
    have h32 : ¬ x.op = 32 := by have := HN5.out; rw [beq_eq_false_iff_ne] at this; exact this
    have HF2 := Lib.hid (show rfault l i = if (l.length : Int) ≤ x.a ∨ (atI l x.a).op ≠ 32 ∨ rptn l x.a < 0 then 23 else 0 by
      rw [HFF, if_neg (by simp)]
      by_cases h : (l.length : Int) ≤ x.a ∨ (atI l x.a).op ≠ 32 ∨ rptn l x.a < 0
      · rw [if_pos h, if_pos ⟨by simp, h⟩]
      · rw [if_neg h, if_neg (fun hh => h hh.2), if_neg]
        rintro (⟨h2, _⟩ | ⟨h2, _⟩)
        · exact h32 h2
        · cases h2)
    clear HFF h32
    generalize hxa : x.a = xa at *
    have HXA := Lib.hid hxa
    clear hxa
    obtain ⟨c, rfl⟩ := Int.eq_ofNat_of_zero_le ha0
    by_cases hc : c < l.length
    rotate_left
    · have hn := Lib.hid (HF2.out.trans (if_pos (.inl (by omega))))
      have h1 : decide (l.length ≤ c) = true := by simp; omega
      clear HF2
      go_wp2_with (first | (go_at_call 43; refine (rjump_any _ _).mono ?_; rintro e w' ⟨rfl, rfl⟩) | (go_at_call 44; refine (rlanding_any _ _).mono ?_; rintro e w' ⟨rfl, rfl⟩))
      go_ret
      exact ⟨ret_i64 hn.out.symm, q2⟩
    have h1 : decide (l.length ≤ c) = false := by simp; omega
    have hy : atI l (c : Int) = l[c] := atI_nat hc
    obtain ⟨b', o', e', hj2⟩ := HC2.out.at_ hc
    obtain ⟨rfl, rfl⟩ : b = b' ∧ o = o' := by simpa using e'
    clear e'
    obtain ⟨e0, e1, e2, e3, e4⟩ := id hj2
    by_cases hy32 : l[c].op = 32
    rotate_left
    · have hn := Lib.hid (HF2.out.trans (if_pos (.inr (.inl (by rw [hy]; exact hy32)))))
      have h3 : ((l[c].op : Int) != 32) = true := bne_iff_ne.2 (by omega)
      clear HF2 hy hy32
      go_wp2_with (first | (go_at_call 43; refine (rjump_any _ _).mono ?_; rintro e w' ⟨rfl, rfl⟩) | (go_at_call 44; refine (rlanding_any _ _).mono ?_; rintro e w' ⟨rfl, rfl⟩))
      go_ret
      exact ⟨ret_i64 hn.out.symm, q2⟩
    have h3 : ((l[c].op : Int) != 32) = false := by rw [hy32]; rfl
    by_cases hp : rptn l c < 0
    · have hn := Lib.hid (HF2.out.trans (if_pos (.inr (.inr hp))))
      clear HF2 hy hy32
      go_wp2_with (first | (go_at_call 43; refine (rjump_any _ _).mono ?_; rintro e w' ⟨rfl, rfl⟩) | (go_at_call 44; refine (rlanding_any _ _).mono ?_; rintro e w' ⟨rfl, rfl⟩))
      refine (rpartner_any l _ _ _ _ HC2.out hY hl).mono ?_
      rintro e w3 ⟨rfl, hb3⟩
      have q3 := below_step q2 q2.size hb3
      go_wp2
      go_ret
      exact ⟨ret_i64 hn.out.symm, q3⟩
    · have hn := Lib.hid (HF2.out.trans (if_neg (by
        rintro (h | h | h)
        · omega
        · rw [hy] at h; exact h hy32
        · exact hp h)))
      clear HF2 hy hy32
      go_wp2_with (first | (go_at_call 43; refine (rjump_any _ _).mono ?_; rintro e w' ⟨rfl, rfl⟩) | (go_at_call 44; refine (rlanding_any _ _).mono ?_; rintro e w' ⟨rfl, rfl⟩))
      refine (rpartner_any l _ _ _ _ HC2.out hY hl).mono ?_
      rintro e w3 ⟨rfl, hb3⟩
      have q3 := below_step q2 q2.size hb3
      have ib3 := ib2.mono hb3
      obtain ⟨c0', c1', c2', c3', c4', fz'⟩ := id ib3
      go_wp2
      go_ret
      exact ⟨ret_i64 hn.out.symm, q3⟩
  case inr.inr.inr.inl =>
    have hcall : x.op = 30 ∨ x.op = 31 := by
      have h := a4; rw [beq_iff_eq] at h; omega
    obtain ⟨ha0, ha1⟩ := valid_call (x := x) (by rw [valid_ref]; exact hv) hcall
    clear hcall ha1
    have h32 : ¬ x.op = 32 := by have := HN5.out; rw [beq_eq_false_iff_ne] at this; exact this
    have HF2 := Lib.hid (show rfault l i = if (l.length : Int) ≤ x.a ∨ (atI l x.a).op ≠ 32 ∨ rptn l x.a < 0 then 23 else 0 by
      rw [HFF, if_neg (by simp)]
      by_cases h : (l.length : Int) ≤ x.a ∨ (atI l x.a).op ≠ 32 ∨ rptn l x.a < 0
      · rw [if_pos h, if_pos ⟨by simp, h⟩]
      · rw [if_neg h, if_neg (fun hh => h hh.2), if_neg]
        rintro (⟨h2, _⟩ | ⟨h2, _⟩)
        · exact h32 h2
        · cases h2)
    clear HFF h32
    generalize hxa : x.a = xa at *
    have HXA := Lib.hid hxa
    clear hxa
    obtain ⟨c, rfl⟩ := Int.eq_ofNat_of_zero_le ha0
    by_cases hc : c < l.length
    rotate_left
    · have hn := Lib.hid (HF2.out.trans (if_pos (.inl (by omega))))
      have h1 : decide (l.length ≤ c) = true := by simp; omega
      clear HF2
      go_wp2_with (first | (go_at_call 43; refine (rjump_any _ _).mono ?_; rintro e w' ⟨rfl, rfl⟩) | (go_at_call 44; refine (rlanding_any _ _).mono ?_; rintro e w' ⟨rfl, rfl⟩))
      go_ret
      exact ⟨ret_i64 hn.out.symm, q2⟩
    have h1 : decide (l.length ≤ c) = false := by simp; omega
    have hy : atI l (c : Int) = l[c] := atI_nat hc
    obtain ⟨b', o', e', hj2⟩ := HC2.out.at_ hc
    obtain ⟨rfl, rfl⟩ : b = b' ∧ o = o' := by simpa using e'
    clear e'
    obtain ⟨e0, e1, e2, e3, e4⟩ := id hj2
    by_cases hy32 : l[c].op = 32
    rotate_left
    · have hn := Lib.hid (HF2.out.trans (if_pos (.inr (.inl (by rw [hy]; exact hy32)))))
      have h3 : ((l[c].op : Int) != 32) = true := bne_iff_ne.2 (by omega)
      clear HF2 hy hy32
      go_wp2_with (first | (go_at_call 43; refine (rjump_any _ _).mono ?_; rintro e w' ⟨rfl, rfl⟩) | (go_at_call 44; refine (rlanding_any _ _).mono ?_; rintro e w' ⟨rfl, rfl⟩))
      go_ret
      exact ⟨ret_i64 hn.out.symm, q2⟩
    have h3 : ((l[c].op : Int) != 32) = false := by rw [hy32]; rfl
    by_cases hp : rptn l c < 0
    · have hn := Lib.hid (HF2.out.trans (if_pos (.inr (.inr hp))))
      clear HF2 hy hy32
      go_wp2_with (first | (go_at_call 43; refine (rjump_any _ _).mono ?_; rintro e w' ⟨rfl, rfl⟩) | (go_at_call 44; refine (rlanding_any _ _).mono ?_; rintro e w' ⟨rfl, rfl⟩))
      refine (rpartner_any l _ _ _ _ HC2.out hY hl).mono ?_
      rintro e w3 ⟨rfl, hb3⟩
      have q3 := below_step q2 q2.size hb3
      go_wp2
      go_ret
      exact ⟨ret_i64 hn.out.symm, q3⟩
    · have hn := Lib.hid (HF2.out.trans (if_neg (by
        rintro (h | h | h)
        · omega
        · rw [hy] at h; exact h hy32
        · exact hp h)))
      clear HF2 hy hy32
      go_wp2_with (first | (go_at_call 43; refine (rjump_any _ _).mono ?_; rintro e w' ⟨rfl, rfl⟩) | (go_at_call 44; refine (rlanding_any _ _).mono ?_; rintro e w' ⟨rfl, rfl⟩))
      refine (rpartner_any l _ _ _ _ HC2.out hY hl).mono ?_
      rintro e w3 ⟨rfl, hb3⟩
      have q3 := below_step q2 q2.size hb3
      have ib3 := ib2.mono hb3
      obtain ⟨c0', c1', c2', c3', c4', fz'⟩ := id ib3
      go_wp2
      go_ret
      exact ⟨ret_i64 hn.out.symm, q3⟩

end Go.Proofs.YthakiaicnhkfjaaDoor
