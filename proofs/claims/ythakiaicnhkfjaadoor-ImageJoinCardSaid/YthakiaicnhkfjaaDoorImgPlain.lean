/-
  Plain Lean functions that mirror package image and its reference, and their laws; no program in sight.
-/
import Derived.Test.YthakiaicnhkfjaaDoorImgBase
namespace Go.Proofs.YthakiaicnhkfjaaDoor

def vI (x : Ins) : Bool := validB x.op x.a x.b x.c x.d
def tI (x : Ins) : Int := tgt x.op x.a x.b
def kI (x : Ins) : Bool := tgtK x.op != 0
def nopI : Ins := ⟨0, 0, 0, 0, 0⟩
def pairB (i t : Int) (a b : Nat) : Bool :=
  if jmpB a = true then lndB b else if lndB a = true then jmpB b else if i < t then (a == 32 && b == 33) else (a == 33 && b == 32)
def atI (l : List Ins) (i : Int) : Ins := l.getD i.toNat nopI
def inR (l : List Ins) (i : Int) : Bool := decide (0 ≤ i) && decide (i < l.length)
/-- The partner, as package image finds it. -/
def ptn (l : List Ins) (i : Int) : Option Int :=
  if inR l i = true ∧ kI (atI l i) = true ∧ inR l (tI (atI l i)) = true ∧ vI (atI l i) = true ∧ vI (atI l (tI (atI l i))) = true ∧ kI (atI l (tI (atI l i))) = true ∧ tI (atI l (tI (atI l i))) = i ∧ pairB i (tI (atI l i)) (atI l i).op (atI l (tI (atI l i))).op = true
  then some (tI (atI l i)) else none

theorem ptn_spec {l : List Ins} {i t : Int} : ptn l i = some t ↔ (inR l i = true ∧ kI (atI l i) = true ∧ t = tI (atI l i) ∧ inR l t = true ∧ vI (atI l i) = true ∧ vI (atI l t) = true ∧ kI (atI l t) = true ∧ tI (atI l t) = i ∧ pairB i t (atI l i).op (atI l t).op = true) := by
  unfold ptn
  constructor
  · intro h
    split at h
    · rename_i hc
      obtain rfl := Option.some.inj h
      exact ⟨hc.1, hc.2.1, rfl, hc.2.2⟩
    · cases h
  · rintro ⟨h1, h2, rfl, h3⟩
    rw [if_pos ⟨h1, h2, h3⟩]

theorem jl_not {op : Nat} (h : jmpB op = true) : lndB op = false := by
  simp [jmpB, lndB] at *; omega
theorem pairB_symm {i t : Int} {a b : Nat} (h : pairB i t a b = true) (hne : i = t → a = b) : pairB t i b a = true ∧ i ≠ t := by
  by_cases hit : i = t
  · obtain rfl := hit
    obtain rfl := hne rfl
    exfalso
    unfold pairB at h
    by_cases j : jmpB a = true
    · rw [if_pos j, jl_not j] at h; cases h
    · rw [if_neg j] at h
      by_cases k : lndB a = true
      · rw [if_pos k] at h; exact j h
      · rw [if_neg k, if_neg (by omega)] at h; simp at h; omega
  · refine ⟨?_, hit⟩
    unfold pairB at *
    by_cases j : jmpB a = true
    · rw [if_pos j] at h
      rw [if_neg (by intro hb; rw [jl_not hb] at h; cases h), if_pos h]; exact j
    · rw [if_neg j] at h
      by_cases k : lndB a = true
      · rw [if_pos k] at h
        rw [if_pos h]; exact k
      · rw [if_neg k] at h
        by_cases hlt : i < t
        · rw [if_pos hlt] at h
          simp only [Bool.and_eq_true, beq_iff_eq] at h
          obtain ⟨rfl, rfl⟩ := h
          rw [if_neg (by decide), if_neg (by decide), if_neg (by omega)]; rfl
        · rw [if_neg hlt] at h
          simp only [Bool.and_eq_true, beq_iff_eq] at h
          obtain ⟨rfl, rfl⟩ := h
          rw [if_neg (by decide), if_neg (by decide), if_pos (by omega)]; rfl

theorem ptn_symm {l : List Ins} {i t : Int} (h : ptn l i = some t) : ptn l t = some i ∧ i ≠ t := by
  obtain ⟨h1, h2, h3, h4, h5, h6, h7, h8, h9⟩ := ptn_spec.1 h
  obtain ⟨hp, hne⟩ := pairB_symm h9 (fun e => by rw [e])
  exact ⟨ptn_spec.2 ⟨h4, h7, h8.symm, h1, h6, h5, h2, h3.symm, hp⟩, hne⟩

/-! ### The reference's partner -/

def rtarget (x : Ins) : Int := if tgtK x.op = 1 then x.a else if tgtK x.op = 2 then x.b else -1
def jmpR (op : Nat) : Bool := op == 22 || op == 23 || op == 24
def lndR (op : Nat) : Bool := op == 25 || op == 26 || op == 27
theorem jmpR_eq (op : Nat) : jmpR op = jmpB op := by
  rw [Bool.eq_iff_iff]; simp [jmpR, jmpB]; omega
theorem lndR_eq (op : Nat) : lndR op = lndB op := by
  rw [Bool.eq_iff_iff]; simp [lndR, lndB]; omega
/-- 'Valid' of the reference of layer 21. -/
def rV (x : Ins) : Bool := refV x.op x.a x.b x.c x.d
theorem rV_eq (x : Ins) : rV x = vI x := (valid_ref _ _ _ _ _).symm

def rptn (l : List Ins) (i : Int) : Int :=
  if inR l i = true ∧ rV (atI l i) = true ∧ inR l (rtarget (atI l i)) = true ∧ rV (atI l (rtarget (atI l i))) = true ∧ rtarget (atI l (rtarget (atI l i))) = i ∧
     (let t := rtarget (atI l i); let a := (atI l (min i t)).op; let b := (atI l (max i t)).op; (jmpR a && lndR b || lndR a && jmpR b || i != t && a == 32 && b == 33) = true)
  then rtarget (atI l i) else -1

theorem rtarget_k {x : Ins} (h : kI x = true) : rtarget x = tI x := by
  unfold kI at h
  unfold rtarget tI tgt
  by_cases h1 : tgtK x.op = 1
  · rw [if_pos h1, if_pos h1]
  · by_cases h2 : tgtK x.op = 2
    · rw [if_neg h1, if_neg h1, if_pos h2, if_pos h2]
    · exfalso
      have : tgtK x.op = 0 := by unfold tgtK at *; split at h1 <;> simp_all
      rw [this] at h; cases h
theorem tgtK_012 (op : Nat) : tgtK op = 0 ∨ tgtK op = 1 ∨ tgtK op = 2 := by
  unfold tgtK; split
  · exact .inr (.inl rfl)
  · split
    · exact .inr (.inr rfl)
    · exact .inl rfl
theorem rtarget_nk {x : Ins} (h : kI x = false) : rtarget x = -1 := by
  unfold kI at h
  have : tgtK x.op = 0 := by simpa using h
  unfold rtarget; rw [this]; rfl

theorem pair_cond {i t : Int} {a b : Nat} (l : List Ins) (ha : (atI l i).op = a) (hb : (atI l t).op = b) :
    ((jmpR (atI l (min i t)).op && lndR (atI l (max i t)).op || lndR (atI l (min i t)).op && jmpR (atI l (max i t)).op || i != t && (atI l (min i t)).op == 32 && (atI l (max i t)).op == 33) = true) ↔ pairB i t a b = true := by
  simp only [jmpR_eq, lndR_eq]
  by_cases hlt : i < t
  · rw [show min i t = i by omega, show max i t = t by omega, ha, hb]
    unfold pairB
    have hne : (i != t) = true := by simp; omega
    rw [hne]
    by_cases j : jmpB a = true
    · rw [if_pos j, j, jl_not j]
      have h32 : (a == 32) = false := by simp [jmpB] at *; omega
      simp [h32]
    · rw [if_neg j]
      by_cases k : lndB a = true
      · rw [if_pos k, k]
        have h32 : (a == 32) = false := by simp [lndB] at *; omega
        simp [h32, j]
      · rw [if_neg k, if_pos hlt]
        simp [j, k]
  · rw [show min i t = t by omega, show max i t = i by omega, ha, hb]
    by_cases hit : i = t
    · obtain rfl := hit
      obtain rfl : a = b := by rw [← ha, ← hb]
      have hne : (i != i) = false := by simp
      rw [hne]
      unfold pairB
      by_cases j : jmpB a = true
      · rw [if_pos j, j, jl_not j]; simp
      · rw [if_neg j]
        by_cases k : lndB a = true
        · rw [if_pos k, k]; simp [j]
        · rw [if_neg k, if_neg (by omega)]
          simp [j, k]; omega
    · have hne : (i != t) = true := by simp; omega
      rw [hne]
      unfold pairB
      by_cases j : jmpB a = true
      · rw [if_pos j, j, jl_not j]
        have h32 : (a == 33) = false := by simp [jmpB] at *; omega
        simp [h32]
      · rw [if_neg j]
        by_cases k : lndB a = true
        · rw [if_pos k, k]
          have h32 : (a == 33) = false := by simp [lndB] at *; omega
          simp [h32, j]
        · rw [if_neg k, if_neg hlt]
          simp [j, k]
          constructor <;> (rintro ⟨h1, h2⟩; exact ⟨h2, h1⟩)

theorem inR_neg1 (l : List Ins) : inR l (-1) = false := by simp [inR]

/-- The two partners agree. -/
theorem rptn_eq (l : List Ins) (i : Int) : rptn l i = (ptn l i).getD (-1) := by
  unfold rptn
  by_cases hk : kI (atI l i) = true
  · rw [rtarget_k hk]
    generalize ht : tI (atI l i) = t
    by_cases hkt : kI (atI l t) = true
    · rw [rtarget_k hkt]
      simp only [rV_eq]
      by_cases hp : ptn l i = some t
      · obtain ⟨h1, h2, h3, h4, h5, h6, h7, h8, h9⟩ := ptn_spec.1 hp
        rw [if_pos ⟨h1, h5, h4, h6, h8, (pair_cond l rfl rfl).2 h9⟩, hp]; rfl
      · have hn : ptn l i = none := by
          cases hh : ptn l i with
          | none => rfl
          | some t' =>
            obtain ⟨_, _, h3, _⟩ := ptn_spec.1 hh
            rw [← ht, ← h3] at hp; exact absurd hh hp
        rw [if_neg, hn]; · rfl
        rintro ⟨h1, h5, h4, h6, h8, h9⟩
        exact hp (ptn_spec.2 ⟨h1, hk, ht.symm, h4, h5, h6, hkt, h8, (pair_cond l rfl rfl).1 h9⟩)
    · have hkt' : kI (atI l t) = false := by simpa using hkt
      rw [rtarget_nk hkt']
      have hn : ptn l i = none := by
        cases hh : ptn l i with
        | none => rfl
        | some t' =>
          obtain ⟨_, _, h3, _, _, _, h7, _⟩ := ptn_spec.1 hh
          rw [h3, ht] at h7; exact absurd h7 hkt
      rw [if_neg, hn]; · rfl
      rintro ⟨h1, h5, h4, h6, h8, h9⟩
      rw [← h8, inR_neg1] at h1; cases h1
  · have hk' : kI (atI l i) = false := by simpa using hk
    rw [rtarget_nk hk', inR_neg1]
    have hn : ptn l i = none := by
      cases hh : ptn l i with
      | none => rfl
      | some t' => exact absurd (ptn_spec.1 hh).2.1 hk
    rw [if_neg (by simp), hn]; rfl

theorem ptn_range {l : List Ins} {i t : Int} (h : ptn l i = some t) : (0 ≤ i ∧ i < l.length) ∧ (0 ≤ t ∧ t < l.length) := by
  obtain ⟨h1, _, _, h4, _⟩ := ptn_spec.1 h
  simp [inR] at h1 h4
  exact ⟨h1, h4⟩

/-! ### Regions -/

/-- A procedure that starts at s and ends at e. -/
def proc (l : List Ins) (s e : Int) : Prop := (atI l s).op = 32 ∧ ptn l s = some e
theorem proc_lt {l : List Ins} {s e : Int} (h : proc l s e) : s < e ∧ (atI l e).op = 33 := by
  obtain ⟨h1, h2⟩ := h
  obtain ⟨_, _, _, _, _, _, _, _, h9⟩ := ptn_spec.1 h2
  rw [h1] at h9
  unfold pairB at h9
  rw [if_neg (by decide), if_neg (by decide)] at h9
  by_cases hlt : s < e
  · rw [if_pos hlt] at h9
    simp at h9; exact ⟨hlt, h9⟩
  · rw [if_neg hlt] at h9; simp at h9

/-- The reference's search: the greatest start below s (not 'skip') whose procedure reaches i. -/
def regS (l : List Ins) (i : Int) (skip : Int) : Nat → Int
  | 0 => -1
  | s + 1 => if ((s : Int) != skip && (atI l s).op == 32 && decide (i ≤ rptn l s)) = true then (s : Int) else regS l i skip s

theorem regS_spec (l : List Ins) (i : Int) (hi : 0 ≤ i) (skip : Int) : ∀ n : Nat,
    (regS l i skip n = -1 ∧ ∀ s : Nat, s < n → (s : Int) ≠ skip → ∀ e, proc l s e → e < i) ∨
    (∃ (s : Nat) (e : Int), regS l i skip n = s ∧ s < n ∧ (s : Int) ≠ skip ∧ proc l s e ∧ i ≤ e ∧ ∀ s' : Nat, s < s' → s' < n → (s' : Int) ≠ skip → ∀ e', proc l s' e' → e' < i)
  | 0 => .inl ⟨rfl, fun s hs => by omega⟩
  | n + 1 => by
    unfold regS
    by_cases hc : ((n : Int) != skip && (atI l n).op == 32 && decide (i ≤ rptn l n)) = true
    · rw [if_pos hc]
      simp only [Bool.and_eq_true, bne_iff_ne, ne_eq, beq_iff_eq, decide_eq_true_eq] at hc
      obtain ⟨⟨h1, h2⟩, h3⟩ := hc
      rw [rptn_eq] at h3
      cases hp : ptn l n with
      | none => rw [hp] at h3; simp at h3; omega
      | some e =>
        rw [hp] at h3
        exact .inr ⟨n, e, rfl, by omega, h1, ⟨h2, hp⟩, h3, fun s' h4 h5 => by omega⟩
    · rw [if_neg hc]
      have hn : (n : Int) ≠ skip → ∀ e, proc l n e → e < i := by
        intro hne e hp
        refine Int.not_le.1 fun hle => hc ?_
        simp only [Bool.and_eq_true, bne_iff_ne, ne_eq, beq_iff_eq, decide_eq_true_eq]
        exact ⟨⟨hne, hp.1⟩, by rw [rptn_eq, hp.2]; exact hle⟩
      rcases regS_spec l i hi skip n with ⟨h1, h2⟩ | ⟨s, e, h1, h2, h3, h4, h5, h6⟩
      · refine .inl ⟨h1, fun s hs => ?_⟩
        by_cases e : s = n
        · subst e; exact hn
        · exact h2 s (by omega)
      · refine .inr ⟨s, e, h1, by omega, h3, h4, h5, fun s' h7 h8 => ?_⟩
        by_cases e : s' = n
        · subst e; exact hn
        · exact h6 s' h7 (by omega)

end Go.Proofs.YthakiaicnhkfjaaDoor
