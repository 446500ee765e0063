/-
  Plain laws of layer 23: the inverse of a valid image is valid, its structure is mirrored, and inverting twice gives the image back.
-/
import Derived.Test.YthakiaicnhkfjaaDoorImgStruct
namespace Go.Proofs.YthakiaicnhkfjaaDoor

theorem invL_length (l : List Ins) : (invL l).length = l.length := by simp [invL]
theorem atI_inv {l : List Ins} {i : Nat} (hi : i < l.length) : atI (invL l) ((l.length : Int) - 1 - i) = newX l i := by
  unfold atI invL
  rw [show ((l.length : Int) - 1 - i).toNat = l.length - 1 - i by omega]
  have : l.length - 1 - i < l.length := by omega
  simp [this]
  congr 1; omega
theorem atI_inv' {l : List Ins} {j : Nat} (hj : j < l.length) : atI (invL l) (j : Int) = newX l (l.length - 1 - j) := by
  have := atI_inv (l := l) (i := l.length - 1 - j) (by omega)
  rw [← this]; congr 1; omega
theorem op_new (l : List Ins) (i : Nat) : (newX l i).op = invN (atI l i).op := by unfold newX; split <;> rfl
theorem kI_new (l : List Ins) (i : Nat) : kI (newX l i) = kI (atI l i) := by unfold kI; rw [op_new, tgtK_invN]
theorem tgt_ret {op : Nat} (h : tgtK op ≠ 0) (a b t : Int) : tgt op (retA op a t) (retB op b t) = t := by
  unfold tgt retA retB
  rcases tgtK_012 op with e | e | e
  · exact absurd e h
  · simp [e]
  · simp [e]
theorem kI_ne {x : Ins} (h : kI x = true) : tgtK x.op ≠ 0 := by unfold kI at h; simpa using h
theorem tI_new {l : List Ins} {i : Nat} (hk : kI (atI l i) = true) : tI (newX l i) = (l.length : Int) - 1 - newT l (atI l i) := by
  unfold newX
  rw [if_pos hk]
  unfold tI
  exact tgt_ret (by rw [tgtK_invN]; exact kI_ne hk) _ _ _

theorem valid_ret {x : Ins} (hv : vI x = true) (hk : kI x = true) (t : Int) (h0 : 0 ≤ t) (h1 : t < 65536) : validB x.op (retA x.op x.a t) (retB x.op x.b t) x.c x.d = true := by
  obtain ⟨op, a, b, c, d⟩ := x
  unfold vI validB at hv
  unfold kI at hk
  simp only [Bool.and_eq_true, decide_eq_true_eq] at hv hk
  obtain ⟨⟨h35, hr⟩, hf⟩ := hv
  unfold validB
  simp only [Bool.and_eq_true, decide_eq_true_eq]
  refine ⟨⟨h35, ?_⟩, ?_⟩
  · clear hf
    rcases op_cases h35 with rfl | rfl | rfl | rfl | rfl | rfl | rfl | rfl | rfl | rfl | rfl | rfl | rfl | rfl | rfl | rfl | rfl | rfl | rfl | rfl | rfl | rfl | rfl | rfl | rfl | rfl | rfl | rfl | rfl | rfl | rfl | rfl | rfl | rfl | rfl <;> first
      | (simp [tgtK] at hk; done)
      | (simp [restB, opsN, retA, retB, tgtK] at hr ⊢; exact hr)
      | (simp [restB, opsN, retA, retB, tgtK] at hr ⊢; done)
  · clear hr
    rcases op_cases h35 with rfl | rfl | rfl | rfl | rfl | rfl | rfl | rfl | rfl | rfl | rfl | rfl | rfl | rfl | rfl | rfl | rfl | rfl | rfl | rfl | rfl | rfl | rfl | rfl | rfl | rfl | rfl | rfl | rfl | rfl | rfl | rfl | rfl | rfl | rfl <;> first
      | (simp [tgtK] at hk; done)
      | (simp [formB, idxB, regB, retA, retB, tgtK] at hf ⊢; omega)

theorem tI_st {x : Ins} (h : x.op = 32) : tI x = x.a := by unfold tI tgt; rw [h]; rfl
theorem ptn_paired {l : List Ins} {i t : Int} (h : ptn l i = some t) : pairedB (atI l i).op = true := by
  obtain ⟨_, _, _, _, _, _, _, _, h9⟩ := ptn_spec.1 h
  unfold pairB at h9
  unfold pairedB
  by_cases j : jmpB (atI l i).op = true
  · simp [j]
  · rw [if_neg j] at h9
    by_cases k : lndB (atI l i).op = true
    · simp [k]
    · rw [if_neg k] at h9
      split at h9 <;> simp at h9 <;> simp [h9.1]
theorem paired_invN (op : Nat) : pairedB (invN op) = pairedB op := by
  unfold pairedB
  rw [jmp_invN, lnd_invN]
  by_cases h35 : op < 35
  · rcases op_cases h35 with rfl | rfl | rfl | rfl | rfl | rfl | rfl | rfl | rfl | rfl | rfl | rfl | rfl | rfl | rfl | rfl | rfl | rfl | rfl | rfl | rfl | rfl | rfl | rfl | rfl | rfl | rfl | rfl | rfl | rfl | rfl | rfl | rfl | rfl | rfl <;> rfl
  · rw [invN_hi h35, Bool.or_comm (lndB op)]
theorem invN_32 {op : Nat} : invN op = 32 ↔ op = 33 := by
  constructor
  · intro h; have := congrArg invN h; rw [invN_invN] at this; exact this
  · intro h; rw [h]; rfl
theorem invN_33 {op : Nat} : invN op = 33 ↔ op = 32 := by
  constructor
  · intro h; have := congrArg invN h; rw [invN_invN] at this; exact this
  · intro h; rw [h]; rfl
theorem pairB_inv {i t n : Int} {a b : Nat} (hne : i ≠ t) : pairB (n - 1 - i) (n - 1 - t) (invN a) (invN b) = pairB i t a b := by
  unfold pairB
  rw [jmp_invN, lnd_invN, jmp_invN, lnd_invN]
  have e32 : ∀ op, (invN op == 32) = (op == 33) := fun op => by rw [Bool.eq_iff_iff]; simp [invN_32]
  have e33 : ∀ op, (invN op == 33) = (op == 32) := fun op => by rw [Bool.eq_iff_iff]; simp [invN_33]
  rw [e32, e33, e32, e33]
  by_cases j : jmpB a = true
  · rw [if_neg (by rw [jl_not j]; decide), if_pos j, if_pos j]
  · by_cases k : lndB a = true
    · simp only [k, if_true]
      rw [if_neg j]
    · have j' : jmpB a = false := by simpa using j
      have k' : lndB a = false := by simpa using k
      rw [j', k']
      simp only [Bool.false_eq_true, if_false]
      by_cases h : i < t
      · rw [if_pos h, if_neg (by omega)]
      · rw [if_neg h, if_pos (by omega)]

theorem newT_paired {l : List Ins} {i t : Int} (hp : ptn l i = some t) : newT l (atI l i) = t := by
  unfold newT
  rw [if_neg (fun e => paired_not_call (ptn_paired hp) ((invN_call _).1 e))]
  exact ((ptn_spec.1 hp).2.2.1).symm

section
variable {l : List Ins} (h : Struct l) (hn : l.length ≤ 65536)
include h hn

omit hn in
theorem newT_range {i : Nat} (hi : i < l.length) (hk : kI (atI l i) = true) : 0 ≤ newT l (atI l i) ∧ newT l (atI l i) < l.length := by
  unfold newT
  by_cases hc : invN (atI l i).op = 30 ∨ invN (atI l i).op = 31
  · rw [if_pos hc]
    have hc' := (invN_call _).1 hc
    obtain ⟨e, he⟩ := h.call i hi hc'
    rw [tI_call hc']
    have ht := (ptn_spec.1 he.2).2.2.1
    rw [tI_st he.1] at ht
    rw [← ht]
    exact (ptn_range he.2).2
  · rw [if_neg hc]
    have hp : pairedB (atI l i).op = true := paired_of_kI hk (fun e => hc ((invN_call _).2 e))
    obtain ⟨t, ht⟩ := h.pr i hi hp
    have := (ptn_spec.1 ht).2.2.1
    rw [← this]
    exact (ptn_range ht).2
theorem vI_new {i : Nat} (hi : i < l.length) : vI (newX l i) = true := by
  have hv := h.v i hi
  by_cases hk : kI (atI l i) = true
  · have hr := newT_range h hi hk
    unfold newX
    rw [if_pos hk]
    show validB _ _ _ _ _ = true
    have := valid_ret (x := ⟨invN (atI l i).op, (atI l i).a, (atI l i).b, (atI l i).c, (atI l i).d⟩) (by show validB _ _ _ _ _ = true; rw [valid_invN]; exact hv) (by unfold kI; rw [tgtK_invN]; exact hk) ((l.length : Int) - 1 - newT l (atI l i)) (by omega) (by omega)
    exact this
  · unfold newX
    rw [if_neg hk]
    show validB _ _ _ _ _ = true
    rw [valid_invN]; exact hv

theorem ptn_inv {i t : Int} (hp : ptn l i = some t) : ptn (invL l) ((l.length : Int) - 1 - i) = some ((l.length : Int) - 1 - t) := by
  have hsym := ptn_symm hp
  have hr := ptn_range hp
  obtain ⟨a, rfl⟩ := Int.eq_ofNat_of_zero_le hr.1.1
  obtain ⟨b, rfl⟩ := Int.eq_ofNat_of_zero_le hr.2.1
  have ha : a < l.length := by omega
  have hb : b < l.length := by omega
  obtain ⟨_, h2, h3, _, _, _, h7, h8, h9⟩ := ptn_spec.1 hp
  refine ptn_spec.2 ⟨by simp [inR, invL_length]; omega, ?_, ?_, by simp [inR, invL_length]; omega, ?_, ?_, ?_, ?_, ?_⟩
  · rw [atI_inv ha, kI_new]; exact h2
  · rw [atI_inv ha, tI_new h2, newT_paired hp]
  · rw [atI_inv ha]; exact vI_new h hn ha
  · rw [atI_inv hb]; exact vI_new h hn hb
  · rw [atI_inv hb, kI_new]; exact h7
  · rw [atI_inv hb, tI_new h7, newT_paired hsym.1]
  · rw [atI_inv ha, atI_inv hb, op_new, op_new, pairB_inv hsym.2]; exact h9

theorem ptn_inv' {j u : Int} (hp : ptn (invL l) j = some u) : ptn l ((l.length : Int) - 1 - j) = some ((l.length : Int) - 1 - u) := by
  have hr := (ptn_range hp).1
  rw [invL_length] at hr
  obtain ⟨a, rfl⟩ := Int.eq_ofNat_of_zero_le hr.1
  have ha : a < l.length := by omega
  have hpp := ptn_paired hp
  rw [atI_inv' ha, op_new, paired_invN] at hpp
  obtain ⟨t, ht⟩ := h.pr (l.length - 1 - a) (by omega) hpp
  have e1 : ((l.length - 1 - a : Nat) : Int) = (l.length : Int) - 1 - a := by omega
  rw [e1] at ht
  have := ptn_inv h hn ht
  rw [show (l.length : Int) - 1 - ((l.length : Int) - 1 - a) = a by omega, hp] at this
  have := Option.some.inj this
  rw [ht, this]; congr 1; omega

theorem proc_inv {s e : Int} (hp : proc l s e) : proc (invL l) ((l.length : Int) - 1 - e) ((l.length : Int) - 1 - s) := by
  have hsym := ptn_symm hp.2
  have hr := ptn_range hp.2
  obtain ⟨b, hb⟩ := Int.eq_ofNat_of_zero_le hr.2.1
  refine ⟨?_, ptn_inv h hn hsym.1⟩
  rw [hb, atI_inv (by omega), op_new, invN_32, ← hb]
  exact (proc_lt hp).2
theorem proc_inv' {s e : Int} (hp : proc (invL l) s e) : proc l ((l.length : Int) - 1 - e) ((l.length : Int) - 1 - s) := by
  have h1 := ptn_inv' h hn hp.2
  have hsym := ptn_symm h1
  have hr := ptn_range hp.2
  rw [invL_length] at hr
  obtain ⟨b, hb⟩ := Int.eq_ofNat_of_zero_le hr.2.1
  refine ⟨?_, hsym.1⟩
  have h33 := (proc_lt hp).2
  rw [hb, atI_inv' (by omega), op_new, invN_33] at h33
  rw [hb]
  rw [show (l.length : Int) - 1 - b = ((l.length - 1 - b : Nat) : Int) by omega]
  exact h33

/-- The inverse of a valid image is valid. -/
theorem struct_inv : Struct (invL l) := by
  refine ⟨fun j hj => ?_, fun j hj hp => ?_, fun j hj hc => ?_, fun s e s' e' h1 h2 hlt => ?_, fun i p hip hj s e hse => ?_⟩
  · rw [invL_length] at hj
    rw [atI_inv' hj]; exact vI_new h hn (by omega)
  · rw [invL_length] at hj
    rw [atI_inv' hj, op_new, paired_invN] at hp
    obtain ⟨t, ht⟩ := h.pr (l.length - 1 - j) (by omega) hp
    have := ptn_inv h hn ht
    rw [show (l.length : Int) - 1 - ((l.length - 1 - j : Nat) : Int) = j by omega] at this
    exact ⟨_, this⟩
  · rw [invL_length] at hj
    rw [atI_inv' hj, op_new] at hc
    have hc' := (invN_call _).1 hc
    obtain ⟨e, he⟩ := h.call (l.length - 1 - j) (by omega) hc'
    refine ⟨(l.length : Int) - 1 - (atI l ((l.length - 1 - j : Nat) : Int)).a, ?_⟩
    have hk : kI (atI l ((l.length - 1 - j : Nat) : Int)) = true := by rw [kI_iff]; rcases hc' with e | e <;> rw [e] <;> rfl
    have htI : tI (newX l (l.length - 1 - j)) = (newX l (l.length - 1 - j)).a := tI_call (by rw [op_new]; exact hc)
    have hnt : newT l (atI l ((l.length - 1 - j : Nat) : Int)) = e := by
      unfold newT
      rw [if_pos hc, tI_call hc']
      have ht := (ptn_spec.1 he.2).2.2.1
      rw [tI_st he.1] at ht
      exact ht.symm
    rw [atI_inv' hj, ← htI, tI_new hk, hnt]
    exact proc_inv h hn he
  · have a1 := proc_inv' h hn h1
    have a2 := proc_inv' h hn h2
    obtain ⟨x, y, hx, hy, _⟩ := proc_nat a1
    obtain ⟨x', y', hx', hy', _⟩ := proc_nat a2
    by_cases hc : (l.length : Int) - 1 - e' < (l.length : Int) - 1 - e
    · have := h.nest _ _ _ _ a2 a1 hc; omega
    · by_cases hc2 : (l.length : Int) - 1 - e < (l.length : Int) - 1 - e'
      · have := h.nest _ _ _ _ a1 a2 hc2; omega
      · have : e = e' := by omega
        subst this
        have := proc_unique a1 a2; omega
  · have a1 := ptn_inv' h hn hip
    have a2 := proc_inv' h hn hse
    have hr := ptn_range hip
    rw [invL_length] at hr
    obtain ⟨b, hb⟩ := Int.eq_ofNat_of_zero_le hr.1.1
    have hjl : (jmpB (atI l ((l.length : Int) - 1 - i)).op || lndB (atI l ((l.length : Int) - 1 - i)).op) = true := by
      rw [hb, atI_inv' (by omega), op_new, jmp_invN, lnd_invN] at hj
      rw [hb, show (l.length : Int) - 1 - b = ((l.length - 1 - b : Nat) : Int) by omega, Bool.or_comm]
      exact hj
    have := h.jump _ _ a1 hjl _ _ a2
    constructor
    · rintro ⟨h1, h2⟩
      have := this.1 ⟨by omega, by omega⟩; omega
    · rintro ⟨h1, h2⟩
      have := this.2 ⟨by omega, by omega⟩; omega

/-- Inverting twice gives the instruction back. -/
theorem newX_twice {i : Nat} (hi : i < l.length) : newX (invL l) (l.length - 1 - i) = atI l i := by
  have hat : atI (invL l) ((l.length - 1 - i : Nat) : Int) = newX l i := by
    rw [atI_inv' (by omega)]; congr 1; omega
  by_cases hk : kI (atI l i) = true
  · have hkn : kI (newX l i) = true := by rw [kI_new]; exact hk
    have hT : newT (invL l) (newX l i) = (l.length : Int) - 1 - tI (atI l i) := by
      unfold newT
      by_cases hc : (atI l i).op = 30 ∨ (atI l i).op = 31
      · rw [if_pos (by rw [op_new, invN_invN]; exact hc), tI_new hk]
        obtain ⟨e, he⟩ := h.call i hi hc
        have hnt : newT l (atI l i) = e := by
          unfold newT
          rw [if_pos ((invN_call _).2 hc), tI_call hc]
          have ht := (ptn_spec.1 he.2).2.2.1
          rw [tI_st he.1] at ht
          exact ht.symm
        rw [hnt, tI_call hc]
        have hsym := ptn_symm he.2
        have hpi := proc_inv h hn he
        have := (ptn_spec.1 hpi.2).2.2.1
        rw [tI_st hpi.1] at this
        exact this.symm
      · rw [if_neg (by rw [op_new, invN_invN]; exact hc), tI_new hk]
        unfold newT
        rw [if_neg (fun e => hc ((invN_call _).1 e))]
    unfold newX
    rw [hat, if_pos hkn, invL_length, hT, op_new, invN_invN]
    rw [show (l.length : Int) - 1 - ((l.length : Int) - 1 - tI (atI l i)) = tI (atI l i) by omega]
    unfold newX
    rw [if_pos hk]
    simp only
    generalize atI l i = x at *
    obtain ⟨op, a, b, c, d⟩ := x
    simp only
    have hne := kI_ne hk
    simp only at hne
    unfold tI tgt retA retB
    simp only [tgtK_invN]
    rcases tgtK_012 op with e | e | e
    · exact absurd e hne
    · simp [e]
    · simp [e]
  · have hkn : ¬ kI (newX l i) = true := by rw [kI_new]; exact hk
    unfold newX
    rw [hat, if_neg hkn, op_new, invN_invN]
    unfold newX
    rw [if_neg hk]
theorem inv_inv : invL (invL l) = l := by
  apply List.ext_getElem?
  intro j
  by_cases hj : j < l.length
  · have h1 : (invL (invL l))[j]? = some (newX (invL l) (l.length - 1 - j)) := by
      simp [invL, hj]
    rw [h1, newX_twice h hn hj, List.getElem?_eq_getElem hj]
    simp [atI, hj]
  · rw [List.getElem?_eq_none (by rw [invL_length, invL_length]; omega), List.getElem?_eq_none (by omega)]
end

end Go.Proofs.YthakiaicnhkfjaaDoor
