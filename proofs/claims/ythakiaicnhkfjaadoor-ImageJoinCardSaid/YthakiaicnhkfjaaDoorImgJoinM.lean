/-
  Plain laws of layer 23: two valid images in sequence.
-/
import Derived.Test.YthakiaicnhkfjaaDoorImgInvMath
namespace Go.Proofs.YthakiaicnhkfjaaDoor

/-- An instruction whose target is shifted. -/
def shI (n : Int) (x : Ins) : Ins := if kI x = true then ⟨x.op, retA x.op x.a (tI x + n), retB x.op x.b (tI x + n), x.c, x.d⟩ else x
theorem op_sh (n : Int) (x : Ins) : (shI n x).op = x.op := by unfold shI; split <;> rfl
theorem kI_sh (n : Int) (x : Ins) : kI (shI n x) = kI x := by unfold kI; rw [op_sh]
theorem tI_sh {n : Int} {x : Ins} (h : kI x = true) : tI (shI n x) = tI x + n := by
  unfold shI; rw [if_pos h]; unfold tI; exact tgt_ret (kI_ne h) _ _ _
theorem sh_not {n : Int} {x : Ins} (h : ¬ kI x = true) : shI n x = x := by unfold shI; rw [if_neg h]
theorem vI_sh {n : Int} {x : Ins} (hv : vI x = true) (h0 : 0 ≤ n) (h1 : kI x = true → tI x + n < 65536) : vI (shI n x) = true := by
  unfold shI
  by_cases hk : kI x = true
  · rw [if_pos hk]
    exact valid_ret hv hk _ (by have := valid_tgt hv hk; omega) (h1 hk)
  · rw [if_neg hk]; exact hv

def shL (n : Int) (l : List Ins) : List Ins := l.map (shI n)
theorem shL_length (n : Int) (l : List Ins) : (shL n l).length = l.length := by simp [shL]
def joinL (a b : List Ins) : List Ins := a ++ shL a.length b
theorem joinL_length (a b : List Ins) : (joinL a b).length = a.length + b.length := by simp [joinL, shL]
theorem atI_left {a b : List Ins} {i : Int} (h0 : 0 ≤ i) (h1 : i < a.length) : atI (joinL a b) i = atI a i := by
  unfold atI joinL
  rw [List.getD_eq_getElem?_getD, List.getD_eq_getElem?_getD, List.getElem?_append_left (by omega)]
theorem atI_right {a b : List Ins} {i : Int} (h0 : 0 ≤ i) (h1 : i < b.length) : atI (joinL a b) (a.length + i) = shI a.length (atI b i) := by
  unfold atI joinL shL
  rw [List.getD_eq_getElem?_getD, List.getD_eq_getElem?_getD, List.getElem?_append_right (by omega), show ((a.length : Int) + i).toNat - a.length = i.toNat by omega]
  rw [List.getElem?_map, List.getElem?_eq_getElem (by omega)]; rfl

/-- Every target of a valid image lies in it. -/
theorem tgt_in {l : List Ins} (h : Struct l) {i : Nat} (hi : i < l.length) (hk : kI (atI l i) = true) : 0 ≤ tI (atI l i) ∧ tI (atI l i) < l.length := by
  by_cases hc : (atI l i).op = 30 ∨ (atI l i).op = 31
  · obtain ⟨e, he⟩ := h.call i hi hc
    rw [tI_call hc]; exact (ptn_range he.2).1
  · obtain ⟨t, ht⟩ := h.pr i hi (paired_of_kI hk hc)
    rw [← (ptn_spec.1 ht).2.2.1]; exact (ptn_range ht).2

section
variable {a b : List Ins} (ha : Struct a) (hb : Struct b) (hn : a.length + b.length ≤ 65536)

theorem inR_iff {l : List Ins} {i : Int} : inR l i = true ↔ 0 ≤ i ∧ i < l.length := by simp [inR]

include ha in
theorem ptn_left {i : Int} (h1 : i < a.length) {t : Int} : ptn (joinL a b) i = some t ↔ ptn a i = some t := by
  have hl := joinL_length a b
  constructor
  · intro h
    obtain ⟨g1, g2, g3, g4, g5, g6, g7, g8, g9⟩ := ptn_spec.1 h
    have h0 := (inR_iff.1 g1).1
    have ei := atI_left (b := b) h0 h1
    rw [ei] at g2 g3 g5 g9
    obtain ⟨m, rfl⟩ := Int.eq_ofNat_of_zero_le h0
    have ht := tgt_in ha (i := m) (by omega) g2
    rw [← g3] at ht
    have et := atI_left (b := b) ht.1 ht.2
    rw [et] at g6 g7 g8 g9
    exact ptn_spec.2 ⟨inR_iff.2 ⟨h0, h1⟩, g2, g3, inR_iff.2 ht, g5, g6, g7, g8, g9⟩
  · intro h
    have hr := ptn_range h
    obtain ⟨g1, g2, g3, g4, g5, g6, g7, g8, g9⟩ := ptn_spec.1 h
    have ei := atI_left (b := b) hr.1.1 hr.1.2
    have et := atI_left (b := b) hr.2.1 hr.2.2
    refine ptn_spec.2 ?_
    rw [ei, et]
    exact ⟨inR_iff.2 (by omega), g2, g3, inR_iff.2 (by omega), g5, g6, g7, g8, g9⟩

theorem pairB_shift {n i t : Int} {x y : Nat} : pairB (n + i) (n + t) x y = pairB i t x y := by
  have e : (n + i < n + t) = (i < t) := by apply propext; constructor <;> intro h <;> omega
  unfold pairB
  simp only [e]

include hb hn in
theorem vI_right {i : Nat} (hi : i < b.length) : vI (shI a.length (atI b i)) = true :=
  vI_sh (hb.v i hi) (by omega) fun hk => by have := tgt_in hb hi hk; omega

include hb hn in
theorem ptn_right {i u : Int} (h : ptn b i = some u) : ptn (joinL a b) (a.length + i) = some (a.length + u) := by
  have hl := joinL_length a b
  have hr := ptn_range h
  obtain ⟨g1, g2, g3, g4, g5, g6, g7, g8, g9⟩ := ptn_spec.1 h
  have ei := atI_right (a := a) hr.1.1 hr.1.2
  have et := atI_right (a := a) hr.2.1 hr.2.2
  obtain ⟨m, rfl⟩ := Int.eq_ofNat_of_zero_le hr.1.1
  obtain ⟨k, rfl⟩ := Int.eq_ofNat_of_zero_le hr.2.1
  refine ptn_spec.2 ?_
  rw [ei, et, op_sh, op_sh, kI_sh, kI_sh, tI_sh g2, tI_sh g7, pairB_shift]
  exact ⟨inR_iff.2 (by omega), g2, by omega, inR_iff.2 (by omega), vI_right hb hn (by omega), vI_right hb hn (by omega), g7, by omega, g9⟩

include hb in
theorem ptn_right' {i t : Int} (h : ptn (joinL a b) (a.length + i) = some t) (h0 : 0 ≤ i) : ptn b i = some (t - a.length) := by
  have hl := joinL_length a b
  have hr := ptn_range h
  obtain ⟨m, rfl⟩ := Int.eq_ofNat_of_zero_le h0
  have hm : m < b.length := by omega
  obtain ⟨g1, g2, g3, g4, g5, g6, g7, g8, g9⟩ := ptn_spec.1 h
  have ei := atI_right (a := a) (b := b) (i := m) (by omega) (by omega)
  rw [ei] at g2 g3
  rw [kI_sh] at g2
  rw [tI_sh g2] at g3
  have hp : pairedB (atI b m).op = true := by
    have := ptn_paired h; rw [ei, op_sh] at this; exact this
  obtain ⟨u, hu⟩ := hb.pr m hm hp
  have : u = tI (atI b m) := (ptn_spec.1 hu).2.2.1
  rw [hu, g3, ← this]; congr 1; omega

include hb hn in
theorem proc_right {s e : Int} (h : proc b s e) : proc (joinL a b) (a.length + s) (a.length + e) := by
  have hr := ptn_range h.2
  refine ⟨?_, ptn_right hb hn h.2⟩
  rw [atI_right hr.1.1 hr.1.2, op_sh]; exact h.1
include ha in
theorem proc_left {s e : Int} (h : proc a s e) : proc (joinL a b) s e := by
  have hr := ptn_range h.2
  refine ⟨?_, (ptn_left ha hr.1.2).2 h.2⟩
  rw [atI_left hr.1.1 hr.1.2]; exact h.1
include ha hb in
theorem proc_join {s e : Int} (h : proc (joinL a b) s e) : proc a s e ∨ ((a.length : Int) ≤ s ∧ proc b (s - a.length) (e - a.length)) := by
  have hl := joinL_length a b
  have hr := ptn_range h.2
  by_cases hs : s < a.length
  · left
    refine ⟨?_, (ptn_left ha hs).1 h.2⟩
    have := h.1; rw [atI_left hr.1.1 hs] at this; exact this
  · right
    obtain ⟨m, hm⟩ := Int.eq_ofNat_of_zero_le (show 0 ≤ s - a.length by omega)
    have hs' : s = a.length + m := by omega
    refine ⟨by omega, ?_⟩
    rw [hm]
    rw [hs'] at h
    refine ⟨?_, ptn_right' hb h.2 (by omega)⟩
    have := h.1
    rw [atI_right (by omega) (by omega), op_sh] at this; exact this

include ha hb hn in
theorem struct_join : Struct (joinL a b) := by
  have hl := joinL_length a b
  have split : ∀ i : Nat, i < (joinL a b).length → (i < a.length ∧ atI (joinL a b) i = atI a i) ∨ (∃ m : Nat, (i : Int) = a.length + m ∧ m < b.length ∧ atI (joinL a b) i = shI a.length (atI b m)) := fun i hi => by
    by_cases h : i < a.length
    · exact .inl ⟨h, atI_left (by omega) (by omega)⟩
    · refine .inr ⟨i - a.length, by omega, by omega, ?_⟩
      rw [show (i : Int) = a.length + ((i - a.length : Nat) : Int) by omega]
      exact atI_right (by omega) (by omega)
  refine ⟨fun i hi => ?_, fun i hi hp => ?_, fun i hi hc => ?_, fun s e s' e' h1 h2 hlt => ?_, fun i p hip hj s e hse => ?_⟩
  · rcases split i hi with ⟨h1, h2⟩ | ⟨m, h1, h2, h3⟩
    · rw [h2]; exact ha.v i h1
    · rw [h3]; exact vI_right hb hn h2
  · rcases split i hi with ⟨h1, h2⟩ | ⟨m, h1, h2, h3⟩
    · rw [h2] at hp
      obtain ⟨t, ht⟩ := ha.pr i h1 hp
      exact ⟨t, (ptn_left ha (by omega)).2 ht⟩
    · rw [h3, op_sh] at hp
      obtain ⟨t, ht⟩ := hb.pr m h2 hp
      exact ⟨_, by rw [h1]; exact ptn_right hb hn ht⟩
  · rcases split i hi with ⟨h1, h2⟩ | ⟨m, h1, h2, h3⟩
    · rw [h2] at hc ⊢
      obtain ⟨e, he⟩ := ha.call i h1 hc
      exact ⟨e, proc_left ha he⟩
    · rw [h3, op_sh] at hc
      obtain ⟨e, he⟩ := hb.call m h2 hc
      have hk : kI (atI b m) = true := by rw [kI_iff]; rcases hc with e | e <;> rw [e] <;> rfl
      have hta : (shI a.length (atI b m)).a = a.length + (atI b m).a := by
        rw [← tI_call (x := shI a.length (atI b m)) (by rw [op_sh]; exact hc), tI_sh hk, tI_call hc]; omega
      rw [h3, hta]
      exact ⟨_, proc_right hb hn he⟩
  · have r1 := ptn_range h1.2
    rcases proc_join ha hb h1 with g1 | ⟨k1, g1⟩ <;> rcases proc_join ha hb h2 with g2 | ⟨k2, g2⟩
    · exact ha.nest _ _ _ _ g1 g2 hlt
    · have := (ptn_range g1.2).2; omega
    · have := (ptn_range g2.2).1; omega
    · have := hb.nest _ _ _ _ g1 g2 (by omega); omega
  · have hr := ptn_range hip
    have hpl := proc_lt hse
    by_cases hi : i < a.length
    · have hp := (ptn_left ha hi).1 hip
      have hrp := ptn_range hp
      rw [atI_left hr.1.1 hi] at hj
      rcases proc_join ha hb hse with g | ⟨k, g⟩
      · exact ha.jump i p hp hj s e g
      · constructor <;> rintro ⟨_, _⟩ <;> omega
    · obtain ⟨m, hm⟩ := Int.eq_ofNat_of_zero_le (show 0 ≤ i - a.length by omega)
      have hi' : i = a.length + m := by omega
      rw [hi'] at hip hj
      have hp := ptn_right' hb hip (by omega)
      have hrp := ptn_range hp
      rw [atI_right (by omega) (by omega), op_sh] at hj
      rcases proc_join ha hb hse with g | ⟨k, g⟩
      · have := (ptn_range g.2).2
        constructor <;> rintro ⟨_, _⟩ <;> omega
      · have := hb.jump m _ hp hj _ _ g
        constructor
        · rintro ⟨_, _⟩
          have := this.1 ⟨by omega, by omega⟩; omega
        · rintro ⟨_, _⟩
          have := this.2 ⟨by omega, by omega⟩; omega

theorem sh_a_start {n : Int} {x : Ins} (h : x.op = 32) : (shI n x).a = x.a + n := by
  have hk : kI x = true := by rw [kI_iff, h]; rfl
  rw [← tI_st (x := shI n x) (by rw [op_sh]; exact h), tI_sh hk, tI_st h]

include hb in
theorem new_right {i : Nat} (hi : i < b.length) : newX (joinL a b) (a.length + i) = newX b i := by
  have hl := joinL_length a b
  have ei : atI (joinL a b) ((a.length + i : Nat) : Int) = shI a.length (atI b i) := by
    rw [show ((a.length + i : Nat) : Int) = (a.length : Int) + (i : Int) by omega]
    exact atI_right (by omega) (by omega)
  unfold newX
  rw [ei, kI_sh, op_sh, hl]
  by_cases hk : kI (atI b i) = true
  · rw [if_pos hk, if_pos hk]
    have ht := tgt_in hb hi hk
    have hT : newT (joinL a b) (shI a.length (atI b i)) = newT b (atI b i) + a.length := by
      unfold newT
      rw [op_sh]
      by_cases hc : invN (atI b i).op = 30 ∨ invN (atI b i).op = 31
      · rw [if_pos hc, if_pos hc, tI_sh hk, show tI (atI b i) + (a.length : Int) = a.length + tI (atI b i) by omega, atI_right ht.1 ht.2]
        have hc' := (invN_call _).1 hc
        obtain ⟨e, he⟩ := hb.call i hi hc'
        rw [tI_call hc']
        exact sh_a_start he.1
      · rw [if_neg hc, if_neg hc, tI_sh hk]
    have e2 : ((a.length + b.length : Nat) : Int) - 1 - newT (joinL a b) (shI a.length (atI b i)) = (b.length : Int) - 1 - newT b (atI b i) := by
      rw [hT]; omega
    rw [e2]
    generalize (b.length : Int) - 1 - newT b (atI b i) = T
    unfold shI
    rw [if_pos hk]
    have hne := kI_ne hk
    simp only [Ins.mk.injEq, true_and, and_true]
    unfold retA retB
    rw [tgtK_invN]
    rcases tgtK_012 (atI b i).op with e | e | e
    · exact absurd e hne
    · simp [e]
    · simp [e]
  · rw [if_neg hk, if_neg hk, sh_not hk]

include ha in
theorem new_left {i : Nat} (hi : i < a.length) : newX (joinL a b) i = shI b.length (newX a i) := by
  have hl := joinL_length a b
  have ei : atI (joinL a b) (i : Int) = atI a i := atI_left (by omega) (by omega)
  have hkn := kI_new a i
  unfold newX at hkn ⊢
  rw [ei, hl]
  by_cases hk : kI (atI a i) = true
  · rw [if_pos hk] at hkn ⊢
    rw [if_pos hk]
    have ht := tgt_in ha hi hk
    have hT : newT (joinL a b) (atI a i) = newT a (atI a i) := by
      unfold newT
      by_cases hc : invN (atI a i).op = 30 ∨ invN (atI a i).op = 31
      · rw [if_pos hc, if_pos hc, atI_left ht.1 ht.2]
      · rw [if_neg hc, if_neg hc]
    rw [hT]
    have hne := kI_ne hk
    have hne' : tgtK (invN (atI a i).op) ≠ 0 := by rw [tgtK_invN]; exact hne
    unfold shI
    rw [if_pos (hkn.trans hk)]
    have htt : tI ⟨invN (atI a i).op, retA (invN (atI a i).op) (atI a i).a ((a.length : Int) - 1 - newT a (atI a i)), retB (invN (atI a i).op) (atI a i).b ((a.length : Int) - 1 - newT a (atI a i)), (atI a i).c, (atI a i).d⟩ = (a.length : Int) - 1 - newT a (atI a i) := tgt_ret hne' _ _ _
    rw [htt]
    have e2 : ((a.length + b.length : Nat) : Int) - 1 - newT a (atI a i) = (a.length : Int) - 1 - newT a (atI a i) + b.length := by omega
    rw [e2]
    generalize (a.length : Int) - 1 - newT a (atI a i) = T
    simp only [Ins.mk.injEq, true_and, and_true]
    unfold retA retB
    rcases tgtK_012 (invN (atI a i).op) with e | e | e
    · exact absurd e hne'
    · simp [e]
    · simp [e]
  · rw [if_neg hk] at hkn ⊢
    rw [if_neg hk, sh_not (by rw [hkn]; exact hk)]

include ha hb in
/-- The inverse of the sequence. -/
theorem inv_join : invL (joinL a b) = joinL (invL b) (invL a) := by
  have hl := joinL_length a b
  apply List.ext_getElem?
  intro j
  by_cases hj : j < a.length + b.length
  · have h1 : (invL (joinL a b))[j]? = some (newX (joinL a b) (a.length + b.length - 1 - j)) := by
      simp [invL, hl, hj]
    rw [h1]
    have e2 : joinL (invL b) (invL a) = invL b ++ (invL a).map (shI (invL b).length) := rfl
    rw [e2]
    by_cases hjb : j < b.length
    · rw [List.getElem?_append_left (by rw [invL_length]; exact hjb)]
      rw [show a.length + b.length - 1 - j = a.length + (b.length - 1 - j) by omega, new_right hb (by omega)]
      simp [invL, hjb]
    · rw [List.getElem?_append_right (by rw [invL_length]; omega), List.getElem?_map, invL_length]
      have hja : j - b.length < a.length := by omega
      rw [show a.length + b.length - 1 - j = a.length - 1 - (j - b.length) by omega, new_left ha (by omega)]
      simp [invL, hja]
  · rw [List.getElem?_eq_none (by rw [invL_length, hl]; omega), List.getElem?_eq_none (by rw [joinL_length, invL_length, invL_length]; omega)]
end

end Go.Proofs.YthakiaicnhkfjaaDoor
