/-
  Contracts of the reference of layer 23: region, fault, Check.
-/
import Derived.Test.YthakiaicnhkfjaaDoorImgRef
namespace Go.Proofs.YthakiaicnhkfjaaDoor
open Go.ChangeShapes Go.WideShapes Go.ChangeAt Go.RowKit Go.Sort

theorem regS_yes {l : List Ins} {i skip : Int} {s : Nat} (h1 : ((s : Int) != skip) = true) (h2 : (atI l s).op = 32) (h3 : i ≤ rptn l s) : regS l i skip (s + 1) = s := by
  unfold regS; rw [if_pos]; simp only [Bool.and_eq_true, beq_iff_eq, decide_eq_true_eq]; exact ⟨⟨h1, h2⟩, h3⟩
theorem regS_no {l : List Ins} {i skip : Int} {s : Nat} (h : ¬ (((s : Int) != skip) = true ∧ (atI l s).op = 32 ∧ i ≤ rptn l s)) : regS l i skip (s + 1) = regS l i skip s := by
  conv => lhs; unfold regS
  rw [if_neg]; simp only [Bool.and_eq_true, beq_iff_eq, decide_eq_true_eq]; exact fun hh => h ⟨hh.1.1, hh.1.2, hh.2⟩

set_option maxRecDepth 100000 in
set_option maxHeartbeats 1000000 in
theorem rregion_any (l : List Ins) (A : Option Addr) (cap : Nat) (i : Nat) (hi : i < l.length) (skip : Int) (w : World) (hC : CodeAt w A l) (hY : Bytes l) (hl : l.length ≤ 1000000) :
    Calls Tryd.prog 45 #[.slice A l.length cap, .int .i64 i, .int .i64 skip] w fun e w' => e = .returned (.int .i64 (regS l i skip (i + 1))) ∧ Below w.heap.size w w' := by
  have HC := Lib.hid hC
  clear hC
  go_enter Tryd.func45, Tryd.ntmps45
  go_wp2
  go_loopw [7] (fun v wr => ∃ n : Nat, n ≤ i + 1 ∧ v = .int .i64 ((n : Int) - 1) ∧ Hid (regS l i skip (i + 1) = regS l i skip n) ∧ Below w.heap.size w wr) (fun v _ => (intOf v + 1).toNat)
  case atStart => exact ⟨i + 1, by omega, by congr 1; omega, rfl, Below.refl _ _⟩
  case round =>
    obtain ⟨n, hn, rfl, hz, hb⟩ := hrel
    cases n with
    | zero =>
      have hz' := Lib.hid (show regS l i skip (i + 1) = -1 from hz.out)
      clear hz
      simp only [show ((0 : Nat) : Int) - 1 = -1 from rfl]
      go_wp2
      go_ret
      exact ⟨ret_i64 hz'.out.symm, hb⟩
    | succ s =>
      simp only [show ((s + 1 : Nat) : Int) - 1 = (s : Int) by omega]
      have hs : s < l.length := by omega
      have hx : atI l (s : Int) = l[s] := atI_nat hs
      have Hx := Lib.hid hx
      clear hx
      obtain ⟨b, o, rfl, hi'⟩ := (HC.out.mono hb).at_ hs
      obtain ⟨c0, c1, c2, c3, c4⟩ := id hi'
      have g1 : decide ((0 : Int) ≤ s) = true := by simp
      have g3 : (0 : Int) ≤ s := by omega
      by_cases h1 : ((s : Int) != skip) = true
      rotate_left
      · have h1' : ((s : Int) != skip) = false := by simpa using h1
        have hz' := Lib.hid (hz.out.trans (regS_no (fun h => h1 h.1)))
        clear hz h1
        go_wp2
        exact ⟨⟨s, by omega, by go_num, hz', hb⟩, by simp [intOf]⟩
      by_cases h2 : l[s].op = 32
      rotate_left
      · have h2' : ((l[s].op : Int) == 32) = false := beq_eq_false_iff_ne.2 (by omega)
        have hz' := Lib.hid (hz.out.trans (regS_no (fun h => h2 (by rw [Hx.out] at h; exact h.2.1))))
        clear hz h2
        go_wp2
        exact ⟨⟨s, by omega, by go_num, hz', hb⟩, by simp [intOf]⟩
      have h2' : ((l[s].op : Int) == 32) = true := beq_iff_eq.2 (by omega)
      have H2 := Lib.hid h2
      clear h2
      go_wp2_with fail
      refine (rpartner_any l _ _ _ _ (HC.out.mono hb) hY hl).mono ?_
      rintro e w2 ⟨rfl, hb2⟩
      have q2 := below_step hb hb.size hb2
      by_cases h3 : (i : Int) ≤ rptn l s
      · have hz' := Lib.hid (hz.out.trans (regS_yes h1 (by rw [Hx.out]; exact H2.out) h3))
        clear hz
        go_wp2
        go_ret
        exact ⟨ret_i64 hz'.out.symm, q2⟩
      · have hz' := Lib.hid (hz.out.trans (regS_no (fun h => h3 h.2.2)))
        clear hz
        go_wp2
        exact ⟨⟨s, by omega, by go_num, hz', q2⟩, by simp [intOf]⟩


/-- The first fault of an instruction, as the reference has it. -/
def rfault (l : List Ins) (i : Nat) : Int :=
  if rV (atI l i) = false then 3
  else if (jmpB (atI l i).op || lndB (atI l i).op || (atI l i).op == 32 || (atI l i).op == 33) = true ∧ rptn l i < 0 then 23
  else if ((atI l i).op == 30 || (atI l i).op == 31) = true ∧ ((l.length : Int) ≤ (atI l i).a ∨ (atI l (atI l i).a).op ≠ 32 ∨ rptn l (atI l i).a < 0) then 23
  else if ((atI l i).op = 32 ∧ 0 ≤ regS l i i (i + 1)) ∨ ((jmpB (atI l i).op || lndB (atI l i).op) = true ∧ regS l i (-1) (i + 1) ≠ regS l (rptn l i) (-1) ((rptn l i).toNat + 1)) then 20
  else 0

theorem opc (op : Nat) :
    (jmpB op = true ∧ lndB op = false ∧ ((op : Int) == 30) = false ∧ ((op : Int) == 31) = false ∧ ((op : Int) == 32) = false ∧ ((op : Int) == 33) = false)
    ∨ (jmpB op = false ∧ lndB op = true ∧ ((op : Int) == 30) = false ∧ ((op : Int) == 31) = false ∧ ((op : Int) == 32) = false ∧ ((op : Int) == 33) = false)
    ∨ (jmpB op = false ∧ lndB op = false ∧ ((op : Int) == 30) = true ∧ ((op : Int) == 31) = false ∧ ((op : Int) == 32) = false ∧ ((op : Int) == 33) = false)
    ∨ (jmpB op = false ∧ lndB op = false ∧ ((op : Int) == 30) = false ∧ ((op : Int) == 31) = true ∧ ((op : Int) == 32) = false ∧ ((op : Int) == 33) = false)
    ∨ (jmpB op = false ∧ lndB op = false ∧ ((op : Int) == 30) = false ∧ ((op : Int) == 31) = false ∧ ((op : Int) == 32) = true ∧ ((op : Int) == 33) = false)
    ∨ (jmpB op = false ∧ lndB op = false ∧ ((op : Int) == 30) = false ∧ ((op : Int) == 31) = false ∧ ((op : Int) == 32) = false ∧ ((op : Int) == 33) = true)
    ∨ (jmpB op = false ∧ lndB op = false ∧ ((op : Int) == 30) = false ∧ ((op : Int) == 31) = false ∧ ((op : Int) == 32) = false ∧ ((op : Int) == 33) = false) := by
  by_cases a : 22 ≤ op ∧ op ≤ 24
  · refine .inl ⟨?_, ?_, ?_, ?_, ?_, ?_⟩ <;> simp [jmpB, lndB] <;> omega
  by_cases b : 25 ≤ op ∧ op ≤ 27
  · refine .inr (.inl ⟨?_, ?_, ?_, ?_, ?_, ?_⟩) <;> simp [jmpB, lndB] <;> omega
  by_cases c : op = 30
  · subst c; decide
  by_cases c : op = 31
  · subst c; decide
  by_cases c : op = 32
  · subst c; decide
  by_cases c : op = 33
  · subst c; decide
  · refine .inr (.inr (.inr (.inr (.inr (.inr ⟨?_, ?_, ?_, ?_, ?_, ?_⟩))))) <;> simp [jmpB, lndB] <;> omega
theorem beqN {a n : Nat} : ((a : Int) == (n : Int)) = (a == n) := by
  rw [Bool.eq_iff_iff]; simp; omega

theorem valid_call {x : Ins} (hv : validB x.op x.a x.b x.c x.d = true) (ho : x.op = 30 ∨ x.op = 31) : 0 ≤ x.a ∧ x.a < 65536 := by
  simp only [validB, Bool.and_eq_true] at hv
  have h := hv.2
  unfold formB at h
  rcases ho with e | e <;> rw [e] at h <;> simp [idxB] at h <;> exact h

end Go.Proofs.YthakiaicnhkfjaaDoor
