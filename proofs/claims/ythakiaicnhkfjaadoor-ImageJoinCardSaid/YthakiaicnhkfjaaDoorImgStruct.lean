/-
  Plain laws of layer 23: what a valid image is, without regions; its inverse.
-/
import Derived.Test.YthakiaicnhkfjaaDoorImgInv
namespace Go.Proofs.YthakiaicnhkfjaaDoor

/-- The instruction has a partner. -/
def pairedB (op : Nat) : Bool := jmpB op || lndB op || op == 32 || op == 33

structure Struct (l : List Ins) : Prop where
  v : ∀ i : Nat, i < l.length → vI (atI l i) = true
  pr : ∀ i : Nat, i < l.length → pairedB (atI l i).op = true → ∃ t, ptn l i = some t
  call : ∀ i : Nat, i < l.length → ((atI l i).op = 30 ∨ (atI l i).op = 31) → ∃ e, proc l (atI l i).a e
  nest : ∀ s e s' e', proc l s e → proc l s' e' → s < s' → e < s'
  jump : ∀ i p, ptn l i = some p → (jmpB (atI l i).op || lndB (atI l i).op) = true → ∀ s e, proc l s e → ((s ≤ i ∧ i ≤ e) ↔ (s ≤ p ∧ p ≤ e))

theorem proc_nat {l : List Ins} {s e : Int} (h : proc l s e) : ∃ a b : Nat, s = a ∧ e = b ∧ a < b ∧ b < l.length := by
  have h1 := (ptn_range h.2)
  have h2 := (proc_lt h).1
  exact ⟨s.toNat, e.toNat, by omega, by omega, by omega, by omega⟩
theorem proc_unique {l : List Ins} {s e e' : Int} (h : proc l s e) (h' : proc l s e') : e = e' := by
  have := h.2.symm.trans h'.2; exact Option.some.inj this

/-- Where the search for a region ends. -/
theorem regP_top (l : List Ins) (k : Nat) : IsTop l k (-1) (k + 1) (regP l k) := by
  rw [regP_eq]; exact regS_top l k (by omega) (-1) (k + 1)
theorem insP_false {l : List Ins} {k : Nat} : insP l k = false ↔ ∀ s e, proc l s e → s < k → e < k := by
  rw [insP_eq]
  have h := regS_top l k (by omega) k (k + 1)
  constructor
  · intro hf s e hp hs
    rcases h with ⟨_, a⟩ | ⟨s', e', h1, _⟩
    · obtain ⟨m, _, rfl, _⟩ := proc_nat hp
      exact a m (by omega) (by omega) e hp
    · rw [h1] at hf; simp at hf
  · intro hall
    rcases h with ⟨h1, _⟩ | ⟨s', e', h1, h2, h3, h4, h5, _⟩
    · rw [h1]; rfl
    · have := hall s' e' h4 (by omega); omega

/-- The region is told by the procedures that contain the place. -/
theorem regP_same {l : List Ins} {i p : Nat} (hn : ∀ s e s' e', proc l s e → proc l s' e' → s < s' → e < s') : regP l i = regP l p ↔ ∀ s e, proc l s e → ((s ≤ i ∧ (i : Int) ≤ e) ↔ (s ≤ p ∧ (p : Int) ≤ e)) := by
  have hi := regP_top l i
  have hp := regP_top l p
  have key : ∀ (k : Nat) (s e : Int), proc l s e → ((s ≤ k ∧ (k : Int) ≤ e) ↔ regP l k = s) := fun k s e hpr => by
    obtain ⟨a, b, rfl, rfl, hab, hbl⟩ := proc_nat hpr
    constructor
    · rintro ⟨h1, h2⟩
      rcases regP_top l k with ⟨_, h3⟩ | ⟨s', e', h3, h4, h5, h6, h7, h8⟩
      · have := h3 a (by omega) (by omega) b hpr; omega
      · rw [h3]
        by_cases hlt : s' < a
        · have := h8 a hlt (by omega) (by omega) b hpr; omega
        · by_cases hgt : a < s'
          · have := hn a b s' e' hpr h6 (by omega); omega
          · omega
    · intro h
      rcases regP_top l k with ⟨h3, _⟩ | ⟨s', e', h3, h4, h5, h6, h7, h8⟩
      · rw [h3] at h; omega
      · rw [h3] at h
        have : s' = a := by omega
        subst this
        have := proc_unique hpr h6
        omega
  constructor
  · intro heq s e hpr
    rw [key i s e hpr, key p s e hpr, heq]
  · intro hall
    rcases regP_top l i with ⟨h3, h3'⟩ | ⟨s', e', h3, h4, h5, h6, h7, h8⟩
    · rcases regP_top l p with ⟨h9, _⟩ | ⟨s, e, h9, h10, _, h11, h12, _⟩
      · rw [h3, h9]
      · have := (hall s e h11).2 ⟨by omega, by omega⟩
        have := h3' s (by omega) (by omega) e h11
        omega
    · have := (hall s' e' h6).1 ⟨by omega, by omega⟩
      rw [h3]
      exact ((key p s' e' h6).1 this).symm

theorem kI_pc (x : Ins) : kI x = (pairedB x.op || (x.op == 30 || x.op == 31)) := by
  rw [kI_iff]; unfold pairedB
  generalize jmpB x.op = a
  generalize lndB x.op = b
  generalize (x.op == 30) = c
  generalize (x.op == 31) = d
  generalize (x.op == 32) = e
  generalize (x.op == 33) = f
  cases a <;> cases b <;> cases c <;> cases d <;> cases e <;> cases f <;> rfl
theorem kI_of_paired {x : Ins} (h : pairedB x.op = true) : kI x = true := by
  rw [kI_pc, h]; rfl
theorem paired_of_kI {x : Ins} (h : kI x = true) (hc : ¬ (x.op = 30 ∨ x.op = 31)) : pairedB x.op = true := by
  rw [kI_pc] at h
  have : (x.op == 30 || x.op == 31) = false := by simpa using hc
  rw [this, Bool.or_false] at h; exact h
theorem paired_not_call {op : Nat} (h : pairedB op = true) : ¬ (op = 30 ∨ op = 31) := by
  rintro (e | e) <;> rw [e] at h <;> cases h

theorem struct_of_good {l : List Ins} (h : ∀ i, i < l.length → pfault l i = 0) : Struct l := by
  have hv : ∀ i : Nat, i < l.length → vI (atI l i) = true := fun i hi => good_valid (h i hi)
  have hpr : ∀ i : Nat, i < l.length → pairedB (atI l i).op = true → ∃ t, ptn l i = some t := fun i hi hp => by
    have hf := h i hi
    unfold pfault at hf
    rw [if_neg (by rw [hv i hi]; decide), if_neg (by rw [kI_of_paired hp]; decide), if_neg (paired_not_call hp)] at hf
    cases hh : ptn l i with
    | none => rw [if_pos hh] at hf; cases hf
    | some t => exact ⟨t, rfl⟩
  have hnest : ∀ s e s' e', proc l s e → proc l s' e' → s < s' → e < s' := fun s e s' e' h1 h2 hlt => by
    obtain ⟨a, b, rfl, rfl, hab, hbl⟩ := proc_nat h1
    obtain ⟨a', b', rfl, rfl, hab', hbl'⟩ := proc_nat h2
    have hf := h a' (by omega)
    have hp : pairedB (atI l a').op = true := by rw [h2.1]; rfl
    unfold pfault at hf
    rw [if_neg (by rw [hv a' (by omega)]; decide), if_neg (by rw [kI_of_paired hp]; decide), if_neg (paired_not_call hp), if_neg (by rw [h2.2]; simp)] at hf
    by_cases hin : insP l a' = true
    · rw [if_pos ⟨h2.1, hin⟩] at hf; cases hf
    · exact insP_false.1 (by simpa using hin) a b h1 hlt
  refine ⟨hv, hpr, fun i hi hc => ?_, hnest, fun i p hip hj s e hse => ?_⟩
  · obtain ⟨e, h1, h2⟩ := good_call (h i hi) hc
    rw [tI_call hc] at h1 h2
    exact ⟨e, h2, h1⟩
  · have hr := ptn_range hip
    obtain ⟨a, rfl⟩ := Int.eq_ofNat_of_zero_le hr.1.1
    obtain ⟨b, rfl⟩ := Int.eq_ofNat_of_zero_le hr.2.1
    have hf := h a (by omega)
    have hp : pairedB (atI l a).op = true := by unfold pairedB; rw [hj]; rfl
    have h32 : ¬ ((atI l a).op = 32 ∧ insP l a = true) := fun hh => by rw [hh.1] at hj; cases hj
    unfold pfault at hf
    rw [if_neg (by rw [hv a (by omega)]; decide), if_neg (by rw [kI_of_paired hp]; decide), if_neg (paired_not_call hp), if_neg (by rw [hip]; simp), if_neg h32] at hf
    have ht : tI (atI l a) = b := ((ptn_spec.1 hip).2.2.1).symm
    rw [ht, Int.toNat_natCast] at hf
    by_cases hre : regP l a = regP l b
    · exact (regP_same hnest).1 hre s e hse
    · rw [if_pos ⟨hj, hre⟩] at hf; cases hf

theorem good_of_struct {l : List Ins} (h : Struct l) : ∀ i, i < l.length → pfault l i = 0 := by
  intro i hi
  unfold pfault
  rw [if_neg (by rw [h.v i hi]; decide)]
  by_cases hk : kI (atI l i) = false
  · rw [if_pos hk]
  rw [if_neg hk]
  by_cases hc : (atI l i).op = 30 ∨ (atI l i).op = 31
  · obtain ⟨e, he⟩ := h.call i hi hc
    rw [if_pos hc, tI_call hc, if_neg]
    rintro (hh | hh)
    · rw [he.2] at hh; cases hh
    · exact hh he.1
  rw [if_neg hc]
  have hp : pairedB (atI l i).op = true := paired_of_kI (by simpa using hk) hc
  obtain ⟨t, ht⟩ := h.pr i hi hp
  rw [if_neg (by rw [ht]; simp)]
  have hn1 : ¬ ((atI l i).op = 32 ∧ insP l i = true) := by
    rintro ⟨h1, h2⟩
    have : insP l i = false := insP_false.2 fun s e hse hs => h.nest s e i t hse ⟨h1, ht⟩ hs
    rw [this] at h2; cases h2
  rw [if_neg hn1, if_neg]
  rintro ⟨hj, hne⟩
  have hr := ptn_range ht
  obtain ⟨b, rfl⟩ := Int.eq_ofNat_of_zero_le hr.2.1
  have htt : tI (atI l i) = b := ((ptn_spec.1 ht).2.2.1).symm
  rw [htt, Int.toNat_natCast] at hne
  exact hne ((regP_same h.nest).2 (fun s e hse => h.jump i b ht hj s e hse))

theorem firstF_all {f : Nat → Int} : ∀ {r k : Nat}, (∀ j, k ≤ j → j < k + r → f j = 0) → firstF f r k = (-1, 0)
  | 0, _, _ => rfl
  | r + 1, k, h => by
    unfold firstF
    rw [if_pos (h k (by omega) (by omega))]
    exact firstF_all fun j h1 h2 => h j (by omega) (by omega)
theorem ok_iff {l : List Ins} {M S : Int} : okImg l M S = true ↔ (sizesB l.length M S = true ∧ Struct l) := by
  constructor
  · intro h
    have := ok_good h
    exact ⟨this.1, struct_of_good this.2⟩
  · rintro ⟨h1, h2⟩
    unfold okImg checkF
    rw [if_pos h1, firstF_all (fun j _ hj => good_of_struct h2 j (by omega))]; rfl

end Go.Proofs.YthakiaicnhkfjaaDoor
