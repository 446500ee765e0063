/-
  Plain laws of layer 23: a valid image of which one instruction is replaced by nop.
-/
import Derived.Test.YthakiaicnhkfjaaDoorImgInvMath
namespace Go.Proofs.YthakiaicnhkfjaaDoor

theorem atI_set_self {l : List Ins} {i : Nat} (hi : i < l.length) : atI (l.set i nopI) (i : Int) = nopI := by
  unfold atI; simp [hi]
theorem atI_set_ne {l : List Ins} {i : Nat} {j : Int} (hj : 0 ≤ j) (h : j ≠ i) : atI (l.set i nopI) j = atI l j := by
  unfold atI
  rw [List.getD_eq_getElem?_getD, List.getD_eq_getElem?_getD, List.getElem?_set_ne (by omega)]
theorem inR_set (l : List Ins) (i : Nat) (j : Int) : inR (l.set i nopI) j = inR l j := by unfold inR; simp
theorem kI_nop : kI nopI = false := rfl
theorem inR_pos {l : List Ins} {j : Int} (h : inR l j = true) : 0 ≤ j := by simp [inR] at h; omega

theorem ptn_set_of {l : List Ins} {i : Nat} (hi : i < l.length) {j t : Int} (h : ptn (l.set i nopI) j = some t) : ptn l j = some t ∧ j ≠ i ∧ t ≠ i := by
  obtain ⟨h1, h2, h3, h4, h5, h6, h7, h8, h9⟩ := ptn_spec.1 h
  have hj : j ≠ i := fun e => by rw [e, atI_set_self hi] at h2; cases h2
  have ht : t ≠ i := fun e => by rw [e, atI_set_self hi] at h7; cases h7
  rw [inR_set] at h1 h4
  have ej := atI_set_ne (l := l) (inR_pos h1) hj
  have et := atI_set_ne (l := l) (inR_pos h4) ht
  rw [ej] at h2 h3 h5 h9
  rw [et] at h6 h7 h8 h9
  exact ⟨ptn_spec.2 ⟨h1, h2, h3, h4, h5, h6, h7, h8, h9⟩, hj, ht⟩
theorem ptn_set_to {l : List Ins} {i : Nat} {j t : Int} (h : ptn l j = some t) (hj : j ≠ i) (ht : t ≠ i) : ptn (l.set i nopI) j = some t := by
  obtain ⟨h1, h2, h3, h4, h5, h6, h7, h8, h9⟩ := ptn_spec.1 h
  have ej := atI_set_ne (l := l) (inR_pos h1) hj
  have et := atI_set_ne (l := l) (inR_pos h4) ht
  refine ptn_spec.2 ?_
  rw [inR_set, inR_set, ej, et]
  exact ⟨h1, h2, h3, h4, h5, h6, h7, h8, h9⟩
theorem proc_set_of {l : List Ins} {i : Nat} (hi : i < l.length) {s e : Int} (h : proc (l.set i nopI) s e) : proc l s e := by
  obtain ⟨h1, h2⟩ := h
  obtain ⟨h3, h4, _⟩ := ptn_set_of hi h2
  rw [atI_set_ne (ptn_range h3).1.1 h4] at h1
  exact ⟨h1, h3⟩

theorem spoil_fault {l : List Ins} (h : Struct l) {i : Nat} (hi : i < l.length) {j : Nat} (hj : j < l.length) :
    pfault (l.set i nopI) j = 0 ∨ (pfault (l.set i nopI) j = 23 ∧ (ptn l i = some (j : Int) ∨ (((atI l j).op = 30 ∨ (atI l j).op = 31) ∧ (((atI l j).a = i ∧ ∃ t, ptn l i = some t) ∨ ptn l i = some (atI l j).a)))) := by
  by_cases hji : j = i
  · subst hji
    left; unfold pfault
    rw [atI_set_self hi, if_neg (by decide), if_pos kI_nop]
  have hji' : (j : Int) ≠ i := by omega
  have ex := atI_set_ne (l := l) (i := i) (j := (j : Int)) (by omega) hji'
  have hn : ∀ s e s' e', proc (l.set i nopI) s e → proc (l.set i nopI) s' e' → s < s' → e < s' := fun s e s' e' h1 h2 => h.nest s e s' e' (proc_set_of hi h1) (proc_set_of hi h2)
  unfold pfault
  rw [ex, if_neg (by rw [h.v j hj]; decide)]
  by_cases hk : kI (atI l j) = false
  · left; rw [if_pos hk]
  rw [if_neg hk]
  by_cases hc : (atI l j).op = 30 ∨ (atI l j).op = 31
  · rw [if_pos hc, tI_call hc]
    obtain ⟨e, he⟩ := h.call j hj hc
    by_cases hcond : ptn (l.set i nopI) (atI l j).a = none ∨ (atI (l.set i nopI) (atI l j).a).op ≠ 32
    · right
      rw [if_pos hcond]
      refine ⟨rfl, .inr ⟨hc, ?_⟩⟩
      by_cases ha : (atI l j).a = i
      · exact .inl ⟨ha, e, by rw [← ha]; exact he.2⟩
      · right
        by_cases hei : e = i
        · have := (ptn_symm he.2).1
          rw [hei] at this; exact this
        · exfalso
          rcases hcond with h1 | h1
          · rw [ptn_set_to he.2 ha hei] at h1; cases h1
          · rw [atI_set_ne (ptn_range he.2).1.1 ha] at h1; exact h1 he.1
    · left; rw [if_neg hcond]
  rw [if_neg hc]
  have hp : pairedB (atI l j).op = true := paired_of_kI (by simpa using hk) hc
  obtain ⟨t, ht⟩ := h.pr j hj hp
  by_cases hnone : ptn (l.set i nopI) j = none
  · right
    rw [if_pos hnone]
    refine ⟨rfl, .inl ?_⟩
    by_cases hti : t = i
    · have := (ptn_symm ht).1; rw [hti] at this; exact this
    · rw [ptn_set_to ht hji' hti] at hnone; cases hnone
  rw [if_neg hnone]
  left
  obtain ⟨t', ht'⟩ : ∃ t', ptn (l.set i nopI) j = some t' := by
    cases hh : ptn (l.set i nopI) (j : Int) with
    | none => exact absurd hh hnone
    | some t' => exact ⟨t', rfl⟩
  obtain ⟨h1, _, _⟩ := ptn_set_of hi ht'
  have hn1 : ¬ ((atI l j).op = 32 ∧ insP (l.set i nopI) j = true) := by
    rintro ⟨a1, a2⟩
    have : insP (l.set i nopI) j = false := insP_false.2 fun s e hse hs => h.nest s e j t' (proc_set_of hi hse) ⟨a1, h1⟩ hs
    rw [this] at a2; cases a2
  rw [if_neg hn1, if_neg]
  rintro ⟨hjl, hne⟩
  have hr := ptn_range h1
  obtain ⟨b, hb⟩ := Int.eq_ofNat_of_zero_le hr.2.1
  have htt : tI (atI l j) = b := by rw [← hb]; exact ((ptn_spec.1 h1).2.2.1).symm
  rw [htt, Int.toNat_natCast] at hne
  rw [hb] at h1
  exact hne ((regP_same hn).2 (fun s e hse => h.jump j b h1 hjl s e (proc_set_of hi hse)))

theorem spoil_at {l : List Ins} (h : Struct l) {i : Nat} (hi : i < l.length) {p : Nat} (hp : ptn l i = some (p : Int)) : pfault (l.set i nopI) p ≠ 0 := by
  have hs := ptn_symm hp
  have hr := ptn_range hp
  have hpi : (p : Int) ≠ i := fun e => hs.2 e.symm
  have ex := atI_set_ne (l := l) (i := i) (j := (p : Int)) (by omega) hpi
  have hpr := ptn_paired hs.1
  unfold pfault
  rw [ex, if_neg (by rw [h.v p (by omega)]; decide), if_neg (by rw [kI_of_paired hpr]; decide), if_neg (paired_not_call hpr), if_pos]
  · decide
  · cases hh : ptn (l.set i nopI) (p : Int) with
    | none => rfl
    | some t =>
      obtain ⟨h1, _, h3⟩ := ptn_set_of hi hh
      rw [hs.1] at h1
      exact absurd (Option.some.inj h1).symm h3

theorem firstF_some {f : Nat → Int} : ∀ {r k m : Nat}, k ≤ m → m < k + r → f m ≠ 0 → ∃ j : Nat, firstF f r k = ((j : Int), f j) ∧ f j ≠ 0 ∧ k ≤ j ∧ j ≤ m
  | 0, k, m, h1, h2, _ => by omega
  | r + 1, k, m, h1, h2, h3 => by
    unfold firstF
    by_cases hk : f k = 0
    · rw [if_pos hk]
      have : k ≠ m := fun e => h3 (e ▸ hk)
      obtain ⟨j, a, b, c, d⟩ := firstF_some (f := f) (r := r) (k := k + 1) (m := m) (by omega) (by omega) h3
      exact ⟨j, a, b, by omega, d⟩
    · rw [if_neg hk]; exact ⟨k, rfl, hk, by omega, h1⟩

/-- Nothing happens where there is no partner. -/
theorem spoil_none {l : List Ins} (h : Struct l) {M S : Int} (hs : sizesB l.length M S = true) {i : Nat} (hi : i < l.length) (hp : ptn l i = none) : checkF (pfault (l.set i nopI)) l.length M S = (-1, 0) := by
  unfold checkF
  rw [if_pos hs, firstF_all]
  intro j _ hj
  rcases spoil_fault h hi (j := j) (by omega) with h0 | ⟨_, h1 | ⟨_, ⟨_, t, h1⟩ | h1⟩⟩
  · exact h0
  all_goals rw [hp] at h1; cases h1
/-- The first fault of the spoilt image. -/
theorem spoil_some {l : List Ins} (h : Struct l) {M S : Int} (hs : sizesB l.length M S = true) {i : Nat} (hi : i < l.length) {p : Nat} (hp : ptn l i = some (p : Int)) :
    ∃ k : Nat, k < l.length ∧ checkF (pfault (l.set i nopI)) l.length M S = ((k : Int), 23) ∧ ((k : Int) = p ∨ (((atI l k).op = 30 ∨ (atI l k).op = 31) ∧ (k : Int) < p ∧ ((atI l k).a = i ∨ (atI l k).a = p))) := by
  have hr := ptn_range hp
  obtain ⟨k, h1, h2, _, h4⟩ := firstF_some (f := pfault (l.set i nopI)) (r := l.length) (k := 0) (m := p) (by omega) (by omega) (spoil_at h hi hp)
  refine ⟨k, by omega, ?_, ?_⟩
  · unfold checkF
    rw [if_pos hs, h1]
    rcases spoil_fault h hi (j := k) (by omega) with h0 | ⟨h0, _⟩
    · exact absurd h0 h2
    · rw [h0]
  · rcases spoil_fault h hi (j := k) (by omega) with h0 | ⟨_, h3 | ⟨h5, h6⟩⟩
    · exact absurd h0 h2
    · left; rw [hp] at h3; exact (Option.some.inj h3).symm
    · by_cases e : k = p
      · left; rw [e]
      · right
        refine ⟨h5, by omega, ?_⟩
        rcases h6 with ⟨h7, _⟩ | h7
        · exact .inl h7
        · right; rw [hp] at h7; exact (Option.some.inj h7).symm

end Go.Proofs.YthakiaicnhkfjaaDoor
