/-
  Plain laws of layer 23: the procedures of a valid image, laid one after the other.
-/
import Derived.Test.YthakiaicnhkfjaaDoorImgInvMath
import Derived.Test.YthakiaicnhkfjaaDoorImgL9
namespace Go.Proofs.YthakiaicnhkfjaaDoor

theorem mem_procsF : ∀ {l : List Ins} {k : Nat} {x : Int}, x ∈ procsF l k → ∃ j : Nat, ∃ h : j < l.length, l[j].op = 32 ∧ x = ((k + j : Nat) : Int)
  | [], k, x, h => by simp [procsF] at h
  | y :: r, k, x, h => by
    unfold procsF at h
    by_cases h32 : y.op = 32
    · rw [if_pos h32] at h
      rcases List.mem_cons.1 h with e | e
      · exact ⟨0, by simp, by simpa using h32, by rw [e]; simp⟩
      · obtain ⟨j, hj, h1, h2⟩ := mem_procsF e
        exact ⟨j + 1, by simpa using hj, by simpa using h1, by rw [h2]; omega⟩
    · rw [if_neg h32] at h
      obtain ⟨j, hj, h1, h2⟩ := mem_procsF h
      exact ⟨j + 1, by simpa using hj, by simpa using h1, by rw [h2]; omega⟩
theorem procsF_sorted : ∀ (l : List Ins) (k : Nat), (procsF l k).Pairwise (· < ·)
  | [], k => by simp [procsF]
  | y :: r, k => by
    unfold procsF
    by_cases h32 : y.op = 32
    · rw [if_pos h32]
      refine List.pairwise_cons.2 ⟨fun x hx => ?_, procsF_sorted r (k + 1)⟩
      obtain ⟨j, _, _, h2⟩ := mem_procsF hx
      omega
    · rw [if_neg h32]; exact procsF_sorted r (k + 1)
theorem procs_start {l : List Ins} {m : Nat} {x : Int} (h : (procsF l 0)[m]? = some x) : ∃ s : Nat, s < l.length ∧ x = s ∧ (atI l s).op = 32 := by
  obtain ⟨j, hj, h1, h2⟩ := mem_procsF (List.mem_of_getElem? h)
  refine ⟨j, hj, by rw [h2]; simp, ?_⟩
  rw [atI_nat hj]; exact h1
theorem procs_of_start {l : List Ins} {s : Nat} (hs : s < l.length) (h : (atI l s).op = 32) : ∃ c : Nat, (procsF l 0)[c]? = some (s : Int) := by
  rw [atI_nat hs] at h
  exact ⟨_, by have := procsF_at l s 0 hs h; simpa using this⟩
theorem procs_lt {l : List Ins} {m m' : Nat} {x y : Int} (h : (procsF l 0)[m]? = some x) (h' : (procsF l 0)[m']? = some y) (hlt : m < m') : x < y := by
  obtain ⟨a, rfl⟩ := List.getElem?_eq_some_iff.1 h
  obtain ⟨b, rfl⟩ := List.getElem?_eq_some_iff.1 h'
  exact List.pairwise_iff_getElem.1 (procsF_sorted l 0) m m' a b hlt

theorem regP_in {l : List Ins} (hn : ∀ s e s' e', proc l s e → proc l s' e' → s < s' → e < s') (k : Nat) {s e : Int} (hpr : proc l s e) : (s ≤ k ∧ (k : Int) ≤ e) ↔ regP l k = s := by
  obtain ⟨a, b, rfl, rfl, hab, hbl⟩ := proc_nat hpr
  constructor
  · rintro ⟨h1, h2⟩
    rcases regP_top l k with ⟨_, h3⟩ | ⟨s', e', h3, h4, h5, h6, h7, h8⟩
    · have := h3 a (by omega) (by omega) b hpr; omega
    · rw [h3]
      by_cases hlt : s' < a
      · have := h8 a hlt (by omega) (by omega) b hpr; omega
      · by_cases hgt : a < s'
        · have := hn a b s' e' hpr h6 (by omega); omega
        · omega
  · intro h
    rcases regP_top l k with ⟨h3, _⟩ | ⟨s', e', h3, h4, h5, h6, h7, h8⟩
    · rw [h3] at h; omega
    · rw [h3] at h
      have : s' = a := by omega
      subst this
      have := proc_unique hpr h6
      omega
theorem regP_cases (l : List Ins) (k : Nat) : regP l k = -1 ∨ ∃ (s : Nat) (c : Nat), s < l.length ∧ regP l k = s ∧ (procsF l 0)[c]? = some (s : Int) := by
  rcases regP_top l k with ⟨h3, _⟩ | ⟨s', e', h3, h4, h5, h6, h7, h8⟩
  · exact .inl h3
  · have hr := ptn_range h6.2
    obtain ⟨c, hc⟩ := procs_of_start (l := l) (s := s') (by omega) h6.1
    exact .inr ⟨s', c, by omega, h3, hc⟩

/-- The region, as far as the starts below u tell it. -/
def regU (l : List Ins) (u : Int) (j : Nat) : Int := if regP l j < u then regP l j else -1
/-- The same, while the procedure at s is laid up to i. -/
def inU (l : List Ins) (s i : Int) (j : Nat) : Int := if s ≤ j ∧ (j : Int) < i then s else regU l s j
theorem inU_start (l : List Ins) (s : Int) (j : Nat) : inU l s s j = regU l s j := by
  unfold inU; rw [if_neg (by omega)]
theorem regU_zero (l : List Ins) (j : Nat) : regU l 0 j = -1 := by
  unfold regU
  split
  · rcases regP_cases l j with h | ⟨s, c, _, h, _⟩ <;> omega
  · rfl
theorem regU_move {l : List Ins} {m : Nat} {u s : Int} (h0 : 0 ≤ u) (h1 : ∀ (m' : Nat) (x : Int), m' < m → (procsF l 0)[m']? = some x → x < u) (hs : (procsF l 0)[m]? = some s) (hus : u ≤ s) (j : Nat) : regU l u j = regU l s j := by
  unfold regU
  rcases regP_cases l j with h | ⟨r, c, _, h, hc⟩
  · rw [h, if_pos (by omega), if_pos (by omega)]
  · rw [h]
    by_cases hcm : c < m
    · have := h1 c r hcm hc
      rw [if_pos this, if_pos (by omega)]
    · have : s ≤ r := by
        by_cases e : c = m
        · subst e; rw [hs] at hc; have := Option.some.inj hc; omega
        · have := procs_lt hs hc (by omega); omega
      rw [if_neg (by omega), if_neg (by omega)]
theorem regU_all {l : List Ins} {u : Int} (h0 : 0 ≤ u) (h1 : ∀ (m' : Nat) (x : Int), (procsF l 0)[m']? = some x → x < u) (j : Nat) : regU l u j = regP l j := by
  unfold regU
  rcases regP_cases l j with h | ⟨r, c, _, h, hc⟩
  · rw [h, if_pos (by omega)]
  · rw [h, if_pos (h1 c r hc)]
theorem inU_end {l : List Ins} (hn : ∀ s e s' e', proc l s e → proc l s' e' → s < s' → e < s') {s e : Int} (hpr : proc l s e) (j : Nat) : inU l s (e + 1) j = regU l (s + 1) j := by
  unfold inU regU
  have := regP_in hn j hpr
  by_cases hc : s ≤ j ∧ (j : Int) < e + 1
  · have hh := this.1 ⟨hc.1, by omega⟩
    rw [if_pos hc, hh, if_pos (by omega)]
  · rw [if_neg hc]
    have hne : regP l j ≠ s := fun e' => hc (by have := this.2 e'; omega)
    by_cases h1 : regP l j < s
    · rw [if_pos h1, if_pos (by omega)]
    · rw [if_neg h1, if_neg (by omega)]
theorem inU_free {l : List Ins} (hn : ∀ s e s' e', proc l s e → proc l s' e' → s < s' → e < s') {s e : Int} (hpr : proc l s e) {i : Nat} (h1 : s ≤ i) (h2 : (i : Int) ≤ e) : inU l s i i = -1 := by
  unfold inU regU
  rw [if_neg (by omega), (regP_in hn i hpr).1 ⟨h1, h2⟩, if_neg (by omega)]
theorem inU_step {l : List Ins} {s : Int} {i : Nat} (h1 : s ≤ i) (j : Nat) : inU l s ((i : Int) + 1) j = if j = i then s else inU l s i j := by
  unfold inU
  by_cases e : j = i
  · subst e; rw [if_pos rfl, if_pos (by omega)]
  · rw [if_neg e]
    by_cases h : s ≤ j ∧ (j : Int) < i
    · rw [if_pos h, if_pos (by omega)]
    · rw [if_neg h, if_neg (by omega)]
theorem reg_jump {l : List Ins} (h : Struct l) {i p : Nat} (hp : ptn l i = some (p : Int)) (hj : (jmpB (atI l i).op || lndB (atI l i).op) = true) : regP l i = regP l p :=
  (regP_same h.nest).2 fun s e hse => h.jump i p hp hj s e hse

end Go.Proofs.YthakiaicnhkfjaaDoor
