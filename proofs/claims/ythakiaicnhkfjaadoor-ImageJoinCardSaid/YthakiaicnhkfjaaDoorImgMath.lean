/-
  Plain laws of layer 23: the stack of package image finds the regions of the reference; the two faults agree.
-/
import Derived.Test.YthakiaicnhkfjaaDoorImgRegions
namespace Go.Proofs.YthakiaicnhkfjaaDoor

structure StInv (l : List Ins) (k : Nat) (st : List (Int × Int)) : Prop where
  els : ∀ p, p ∈ st → ∃ s : Nat, p.1 = s ∧ s < k ∧ proc l s p.2
  sorted : st.Pairwise fun p q => q.1 < p.1
  all : ∀ (s : Nat) (e : Int), s < k → proc l s e → (k : Int) ≤ e → ((s : Int), e) ∈ st

/-- What the pops leave. -/
structure PopInv (l : List Ins) (k : Nat) (st : List (Int × Int)) : Prop where
  els : ∀ p, p ∈ st → ∃ s : Nat, p.1 = s ∧ s < k ∧ proc l s p.2
  sorted : st.Pairwise fun p q => q.1 < p.1
  all : ∀ (s : Nat) (e : Int), s < k → proc l s e → (k : Int) ≤ e → ((s : Int), e) ∈ st
  top : ∀ p r, st = p :: r → (k : Int) ≤ p.2

theorem pop_inv {l : List Ins} {k : Nat} : ∀ {st : List (Int × Int)}, StInv l k st → PopInv l k (popK k st)
  | [], h => ⟨by simp [popK], by simp [popK], fun s e h1 h2 h3 => by have := h.all s e h1 h2 h3; simp at this, by simp [popK]⟩
  | p :: r, h => by
    by_cases hp : p.2 < k
    · rw [popK_yes hp]
      refine pop_inv ⟨fun q hq => h.els q (by simp [hq]), (List.pairwise_cons.1 h.sorted).2, fun s e h1 h2 h3 => ?_⟩
      have := h.all s e h1 h2 h3
      rcases List.mem_cons.1 this with e1 | e1
      · rw [← e1] at hp; simp at hp; omega
      · exact e1
    · rw [popK_no hp]
      exact ⟨h.els, h.sorted, h.all, fun q r' e => by injection e with e1 e2; subst e1; omega⟩

theorem stk_inv (l : List Ins) : ∀ k, StInv l k (stk l k)
  | 0 => ⟨by simp [stk], by simp [stk], fun s e h => by omega⟩
  | k + 1 => by
    have h := pop_inv (stk_inv l k)
    show StInv l (k + 1) (pushK l k (popK k (stk l k)))
    generalize popK k (stk l k) = st at h
    have base : (∀ e, proc l k e → e < ((k + 1 : Nat) : Int)) → StInv l (k + 1) st := fun hno =>
      ⟨fun p hp => by obtain ⟨s, a, b, c⟩ := h.els p hp; exact ⟨s, a, by omega, c⟩, h.sorted, fun s e h1 h2 h3 => by
        by_cases es : s = k
        · subst es; have := hno e h2; omega
        · exact h.all s e (by omega) h2 (by omega)⟩
    unfold pushK
    by_cases h32 : (atI l k).op = 32
    · rw [if_pos h32]
      cases hp : ptn l (k : Int) with
      | none => exact base fun e he => by rw [he.2] at hp; cases hp
      | some e =>
        refine ⟨fun p hp' => ?_, List.pairwise_cons.2 ⟨fun q hq => ?_, h.sorted⟩, fun s e' h1 h2 h3 => ?_⟩
        · rcases List.mem_cons.1 hp' with e1 | e1
          · subst e1; exact ⟨k, rfl, by omega, h32, hp⟩
          · obtain ⟨s, a, b, c⟩ := h.els p e1; exact ⟨s, a, by omega, c⟩
        · obtain ⟨s, a, b, _⟩ := h.els q hq
          show q.1 < (k : Int); omega
        · by_cases es : s = k
          · subst es
            have := h2.2; rw [hp] at this; injection this with this; subst this
            simp
          · exact List.mem_cons_of_mem _ (h.all s e' (by omega) h2 (by omega))
    · rw [if_neg h32]
      exact base fun e he => absurd he.1 h32

/-- What the search for a region finds. -/
def IsTop (l : List Ins) (i : Int) (skip : Int) (n : Nat) (r : Int) : Prop :=
    (r = -1 ∧ ∀ s : Nat, s < n → (s : Int) ≠ skip → ∀ e, proc l s e → e < i) ∨
    (∃ (s : Nat) (e : Int), r = s ∧ s < n ∧ (s : Int) ≠ skip ∧ proc l s e ∧ i ≤ e ∧ ∀ s' : Nat, s < s' → s' < n → (s' : Int) ≠ skip → ∀ e', proc l s' e' → e' < i)
theorem IsTop.unique {l : List Ins} {i skip : Int} {n : Nat} {r r' : Int} (h : IsTop l i skip n r) (h' : IsTop l i skip n r') : r = r' := by
  rcases h with ⟨rfl, a⟩ | ⟨s, e, rfl, h1, h2, h3, h4, h5⟩ <;> rcases h' with ⟨rfl, a'⟩ | ⟨s', e', rfl, h1', h2', h3', h4', h5'⟩
  · rfl
  · have := a s' h1' h2' e' h3'; omega
  · have := a' s h1 h2 e h3; omega
  · by_cases hlt : s < s'
    · have := h5 s' hlt h1' h2' e' h3'; omega
    · by_cases hgt : s' < s
      · have := h5' s hgt h1 h2 e h3; omega
      · have : s = s' := by omega
        rw [this]

theorem regS_top (l : List Ins) (i : Int) (hi : 0 ≤ i) (skip : Int) (n : Nat) : IsTop l i skip n (regS l i skip n) := by
  rcases regS_spec l i hi skip n with ⟨h1, h2⟩ | ⟨s, e, h⟩
  · exact .inl ⟨h1, h2⟩
  · exact .inr ⟨s, e, h⟩

theorem pop_top {l : List Ins} {k : Nat} {st : List (Int × Int)} (h : PopInv l k st) (skip : Int) (n : Nat) (hn : k ≤ n) (hs : skip < 0 ∨ skip = k) (hk : ∀ s : Nat, k ≤ s → s < n → (s : Int) ≠ skip → ∀ e, proc l s e → e < (k : Int)) : IsTop l k skip n (topI st) := by
  cases st with
  | nil =>
    refine .inl ⟨rfl, fun s h1 h2 e h3 => ?_⟩
    by_cases hsk : s < k
    · refine Int.not_le.1 fun hle => ?_
      have := h.all s e hsk h3 hle; simp at this
    · exact hk s (by omega) h1 h2 e h3
  | cons p r =>
    obtain ⟨s, e1, e2, e3⟩ := h.els p (by simp)
    have ht := h.top p r rfl
    refine .inr ⟨s, p.2, e1, by omega, by omega, e3, ht, fun s' h1 h2 h3 e' h4 => ?_⟩
    by_cases hsk : s' < k
    · refine Int.not_le.1 fun hle => ?_
      have := h.all s' e' hsk h4 hle
      rcases List.mem_cons.1 this with e5 | e5
      · rw [← e5] at e1; simp at e1; omega
      · have := (List.pairwise_cons.1 h.sorted).1 _ e5
        simp at this; omega
    · exact hk s' (by omega) h2 h3 e' h4

/-- A procedure that starts before k contains k. -/
theorem insP_eq (l : List Ins) (k : Nat) : insP l k = decide (0 ≤ regS l k k (k + 1)) := by
  have h := pop_inv (stk_inv l k)
  have ht := pop_top h (k : Int) (k + 1) (by omega) (.inr rfl) (fun s h1 h2 h3 => absurd (show (s : Int) = k by omega) h3)
  have := IsTop.unique ht (regS_top l k (by omega) k (k + 1))
  rw [← this]
  unfold insP
  generalize popK k (stk l k) = st at h
  cases st with
  | nil => rfl
  | cons p r =>
    obtain ⟨s, e1, _⟩ := h.els p (by simp)
    have : topI (p :: r) = s := e1
    rw [this]; simp
theorem regP_eq (l : List Ins) (k : Nat) : regP l k = regS l k (-1) (k + 1) := by
  have h := pop_inv (stk_inv l k)
  refine IsTop.unique ?_ (regS_top l k (by omega) (-1) (k + 1))
  show IsTop l k (-1) (k + 1) (topI (pushK l k (popK k (stk l k))))
  generalize popK k (stk l k) = st at h
  have base : (∀ e, proc l k e → e < (k : Int)) → IsTop l k (-1) (k + 1) (topI st) := fun hno =>
    pop_top h (-1) (k + 1) (by omega) (.inl (by omega)) (fun s h1 h2 _ e h4 => by
      obtain rfl : s = k := by omega
      exact hno e h4)
  unfold pushK
  by_cases h32 : (atI l k).op = 32
  · rw [if_pos h32]
    cases hp : ptn l (k : Int) with
    | none => exact base fun e he => by rw [he.2] at hp; cases hp
    | some e =>
      have hpr : proc l k e := ⟨h32, hp⟩
      have := (proc_lt hpr).1
      exact .inr ⟨k, e, rfl, by omega, by omega, hpr, by omega, fun s' h1 h2 => by omega⟩
  · rw [if_neg h32]
    exact base fun e he => absurd he.1 h32

/-! ### The faults -/

/-- The first fault of an instruction, as package image has it. -/
def pfault (l : List Ins) (i : Nat) : Int :=
  if vI (atI l i) = false then 3
  else if kI (atI l i) = false then 0
  else if (atI l i).op = 30 ∨ (atI l i).op = 31 then (if ptn l (tI (atI l i)) = none ∨ (atI l (tI (atI l i))).op ≠ 32 then 23 else 0)
  else if ptn l i = none then 23
  else if (atI l i).op = 32 ∧ insP l i = true then 20
  else if (jmpB (atI l i).op || lndB (atI l i).op) = true ∧ regP l i ≠ regP l (tI (atI l i)).toNat then 20
  else 0

theorem kI_iff (x : Ins) : kI x = (jmpB x.op || lndB x.op || x.op == 30 || x.op == 31 || x.op == 32 || x.op == 33) := by
  show (tgtK x.op != 0) = _
  generalize x.op = op
  by_cases h35 : op < 35
  · rcases op_cases h35 with rfl | rfl | rfl | rfl | rfl | rfl | rfl | rfl | rfl | rfl | rfl | rfl | rfl | rfl | rfl | rfl | rfl | rfl | rfl | rfl | rfl | rfl | rfl | rfl | rfl | rfl | rfl | rfl | rfl | rfl | rfl | rfl | rfl | rfl | rfl <;> rfl
  · rw [tgtK_hi h35]
    symm
    simp [jmpB, lndB]; omega
theorem tI_call {x : Ins} (h : x.op = 30 ∨ x.op = 31) : tI x = x.a := by
  unfold tI tgt; rw [if_pos]; rcases h with e | e <;> rw [e] <;> rfl
theorem rptn_neg {l : List Ins} {i : Int} : rptn l i < 0 ↔ ptn l i = none := by
  rw [rptn_eq]
  cases hp : ptn l i with
  | none => simp
  | some t => have := (ptn_range hp).2; simp; omega

theorem pfault_eq (l : List Ins) (i : Nat) : pfault l i = rfault l i := by
  unfold pfault rfault
  rw [rV_eq]
  generalize hx : atI l i = x
  by_cases hv : vI x = false
  · rw [if_pos hv, if_pos hv]
  rw [if_neg hv, if_neg hv]
  have hk := kI_iff x
  by_cases h30 : x.op = 30 ∨ x.op = 31
  · have hj : (jmpB x.op || lndB x.op || x.op == 32 || x.op == 33) = false := by rcases h30 with e | e <;> rw [e] <;> rfl
    have hjl : (jmpB x.op || lndB x.op) = false := by rcases h30 with e | e <;> rw [e] <;> rfl
    have hk1 : kI x = true := by rw [hk]; rcases h30 with e | e <;> rw [e] <;> rfl
    have h32 : ¬ x.op = 32 := by omega
    have hb : (x.op == 30 || x.op == 31) = true := by simpa using h30
    rw [if_neg (show ¬ kI x = false by rw [hk1]; decide), if_pos h30, tI_call h30]
    have hnj : ¬ ((jmpB x.op || lndB x.op || x.op == 32 || x.op == 33) = true ∧ rptn l i < 0) := by rw [hj]; simp
    by_cases hc : ptn l x.a = none ∨ (atI l x.a).op ≠ 32
    · have hc' : (l.length : Int) ≤ x.a ∨ (atI l x.a).op ≠ 32 ∨ rptn l x.a < 0 := by
        rcases hc with hc | hc
        · exact .inr (.inr (rptn_neg.2 hc))
        · exact .inr (.inl hc)
      rw [if_pos hc, if_neg hnj, if_pos ⟨hb, hc'⟩]
    · have n1 : ¬ ((x.op == 30 || x.op == 31) = true ∧ ((l.length : Int) ≤ x.a ∨ (atI l x.a).op ≠ 32 ∨ rptn l x.a < 0)) := by
        rintro ⟨_, h | h | h⟩
        · apply hc; left
          cases hp : ptn l x.a with
          | none => rfl
          | some t => have := (ptn_range hp).1; omega
        · exact hc (.inr h)
        · exact hc (.inl (rptn_neg.1 h))
      have n2 : ¬ ((x.op = 32 ∧ 0 ≤ regS l i i (i + 1)) ∨ ((jmpB x.op || lndB x.op) = true ∧ regS l i (-1) (i + 1) ≠ regS l (rptn l i) (-1) ((rptn l i).toNat + 1))) := by
        rintro (⟨h, _⟩ | ⟨h, _⟩)
        · exact h32 h
        · rw [hjl] at h; cases h
      rw [if_neg hc, if_neg hnj, if_neg n1, if_neg n2]
  have hb : (x.op == 30 || x.op == 31) = false := by simpa using h30
  have hjk : (jmpB x.op || lndB x.op || x.op == 32 || x.op == 33) = kI x := by
    have h1 : (x.op == 30) = false := by simp; omega
    have h2 : (x.op == 31) = false := by simp; omega
    rw [hk, h1, h2, Bool.or_false, Bool.or_false]
  have nC : ¬ ((x.op == 30 || x.op == 31) = true ∧ ((l.length : Int) ≤ x.a ∨ (atI l x.a).op ≠ 32 ∨ rptn l x.a < 0)) := by rw [hb]; simp
  by_cases hk1 : kI x = true
  rotate_left
  · have hk0 : kI x = false := by simpa using hk1
    rw [if_pos hk0]
    rw [hk0] at hjk
    have hjl : (jmpB x.op || lndB x.op) = false := by simp at hjk ⊢; exact ⟨hjk.1.1.1, hjk.1.1.2⟩
    have h32 : ¬ x.op = 32 := by simp at hjk; exact hjk.1.2
    have n2 : ¬ ((x.op = 32 ∧ 0 ≤ regS l i i (i + 1)) ∨ ((jmpB x.op || lndB x.op) = true ∧ regS l i (-1) (i + 1) ≠ regS l (rptn l i) (-1) ((rptn l i).toNat + 1))) := by
      rintro (⟨h, _⟩ | ⟨h, _⟩)
      · exact h32 h
      · rw [hjl] at h; cases h
    rw [if_neg (show ¬ ((jmpB x.op || lndB x.op || x.op == 32 || x.op == 33) = true ∧ rptn l i < 0) by rw [hjk]; simp), if_neg nC, if_neg n2]
  rw [if_neg (show ¬ kI x = false by rw [hk1]; decide), if_neg h30]
  have hj : (jmpB x.op || lndB x.op || x.op == 32 || x.op == 33) = true := hjk.trans hk1
  by_cases hp : ptn l i = none
  · rw [if_pos hp, if_pos ⟨hj, rptn_neg.2 hp⟩]
  rw [if_neg hp]
  rw [if_neg (show ¬ ((jmpB x.op || lndB x.op || x.op == 32 || x.op == 33) = true ∧ rptn l i < 0) from fun h => hp (rptn_neg.1 h.2)), if_neg nC]
  obtain ⟨m, hm, hpm, hpt⟩ := rptn_pos (fun h => hp (rptn_neg.1 h))
  have htm : tI x = m := by
    have := (ptn_spec.1 hpt).2.2.1; rw [hx] at this; exact this.symm
  rw [insP_eq, regP_eq, hpm, htm, Int.toNat_natCast, regP_eq]
  by_cases c1 : x.op = 32 ∧ decide (0 ≤ regS l i i (i + 1)) = true
  · rw [if_pos c1, if_pos (.inl ⟨c1.1, by simpa using c1.2⟩)]
  · rw [if_neg c1]
    by_cases c2 : (jmpB x.op || lndB x.op) = true ∧ regS l i (-1) (i + 1) ≠ regS l m (-1) (m + 1)
    · rw [if_pos c2, if_pos (.inr c2)]
    · rw [if_neg c2, if_neg]
      rintro (h | h)
      · exact c1 ⟨h.1, by simpa using h.2⟩
      · exact c2 h

end Go.Proofs.YthakiaicnhkfjaaDoor
