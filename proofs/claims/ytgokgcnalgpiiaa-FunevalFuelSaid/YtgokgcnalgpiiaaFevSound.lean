/-
  Types are kept by the evaluator (plain).
-/
import Derived.Test.YtgokgcnalgpiiaaFevType
namespace Go.Proofs.Ytgokgcnalgpiiaa

theorem chkTL_ok {lib : List Fn1} {te : ByteArray → Option Bool} {kind : Nat} {name : ByteArray} (hk : kind ≠ 84) : ∀ (l : List Nd) (i : Nat) (ts : List Bool), (chkTL lib l te kind name i ts).2 = 0 → (chkTL lib l te kind name i ts).1 = ts ++ l.map (fun y => (chkT lib y te).1) ∧ ∀ y ∈ l, (chkT lib y te).2 = 0
  | [], i, ts, _ => by rw [chkTL]; exact ⟨by simp, by simp⟩
  | y :: r, i, ts, h => by
    have he : envAt kind name te i ts = te := by unfold envAt; rw [if_neg (fun h => hk h.1)]
    rw [chkTL, he] at h ⊢
    by_cases h1 : (chkT lib y te).2 = 0
    · rw [if_neg (fun e => e h1)] at h ⊢
      obtain ⟨h2, h3⟩ := chkTL_ok hk r (i + 1) _ h
      refine ⟨by rw [h2]; simp, fun z hz => ?_⟩
      rcases List.mem_cons.1 hz with rfl | hz
      · exact h1
      · exact h3 z hz
    · rw [if_pos h1] at h; exact absurd h h1
/-- What a well typed node is made of. -/
theorem chkT_ok {lib : List Fn1} {te : ByteArray → Option Bool} {x : Nd} {ty : Bool} (h : chkT lib x te = (ty, 0)) : reachE lib te x = 0 ∧ (chkTL lib x.kids te x.kind x.name 0 []).2 = 0 ∧ (x.kind = 81 → ty = (te x.name).getD false) ∧ (x.kind ≠ 81 → (chkTL lib x.kids te x.kind x.name 0 []).1 = (wantR lib x (chkTL lib x.kids te x.kind x.name 0 []).1).1 ∧ ty = (wantR lib x (chkTL lib x.kids te x.kind x.name 0 []).1).2) := by
  rw [chkT_eq] at h
  by_cases h1 : reachE lib te x = 0
  rotate_left
  · rw [if_pos h1] at h; exact absurd (Prod.ext_iff.1 h).2 h1
  rw [if_neg (fun e => e h1)] at h
  by_cases h2 : (chkTL lib x.kids te x.kind x.name 0 []).2 = 0
  rotate_left
  · rw [if_pos h2] at h; exact absurd (Prod.ext_iff.1 h).2 h2
  rw [if_neg (fun e => e h2)] at h
  refine ⟨h1, h2, fun h81 => ?_, fun h81 => ?_⟩
  · rw [if_pos h81] at h; exact (Prod.ext_iff.1 h).1.symm
  · rw [if_neg h81] at h
    unfold resR resQ at h
    by_cases h3 : (chkTL lib x.kids te x.kind x.name 0 []).1 = (wantR lib x (chkTL lib x.kids te x.kind x.name 0 []).1).1
    · rw [if_pos h3] at h; exact ⟨h3, (Prod.ext_iff.1 h).1.symm⟩
    · rw [if_neg h3] at h; exact absurd (Prod.ext_iff.1 h).2 (show ¬ ((7 : Int) = 0) by decide)

theorem formT_kid : ∀ {l : List Nd}, formTL l = true → ∀ y ∈ l, formT y = true
  | [], _, y, hy => by cases hy
  | x :: r, h, y, hy => by
    rw [formTL] at h
    obtain ⟨h1, h2⟩ := Bool.and_eq_true_iff.1 h
    rcases List.mem_cons.1 hy with rfl | hy
    · exact h1
    · exact formT_kid h2 y hy
theorem form_len {x : Nd} (h : formB x.kind x.num x.name x.kids.length = true) : (x.kind = 82 → x.kids.length = 2) ∧ (x.kind = 83 → x.kids.length = 3) ∧ (x.kind = 84 → x.kids.length = 2) ∧ (80 ≤ x.kind ∧ x.kind ≤ 90) := by
  unfold formB at h
  refine ⟨fun e => ?_, fun e => ?_, fun e => ?_, ?_⟩
  · rw [e] at h; simp at h; omega
  · rw [e] at h; simp at h; omega
  · rw [e] at h; simp at h; omega
  · apply Classical.byContradiction
    intro hn
    rw [if_neg (by omega), if_neg (by omega), if_neg (by omega), if_neg (by omega), if_neg (by omega), if_neg (show ¬ x.kind = 86 by omega), if_neg (show ¬ (x.kind = 88 ∨ x.kind = 89 ∨ x.kind = 90) by omega), if_neg (show ¬ x.kind = 87 by omega), if_neg (show ¬ x.kind = 83 by omega)] at h
    simp at h

theorem VRs.two {t u : Bool} {us vs : List Vl} (h : VRs [t, u] us vs) : ∃ a a' b b', us = [a, b] ∧ vs = [a', b'] ∧ VR t a a' ∧ VR u b b' := by
  cases h with
  | cons h r => cases r with
    | cons h2 r => cases r; exact ⟨_, _, _, _, rfl, rfl, h, h2⟩
theorem VRs.one {t : Bool} {us vs : List Vl} (h : VRs [t] us vs) : ∃ a a', us = [a] ∧ vs = [a'] ∧ VR t a a' := by
  cases h with
  | cons h r => cases r; exact ⟨_, _, rfl, rfl, h⟩
theorem Out.vr_ok {ty : Bool} {a b : Vl} (h : VR ty a b) (f : Nat) (c : List Tr) : Out.vr ty (.ok a f c) (.ok b f c) := .inr ⟨a, b, f, c, rfl, rfl, h⟩
theorem Out.vr_err (ty : Bool) (e : Int) : Out.vr ty (.err e) (.err e) := .inl ⟨e, rfl, rfl⟩

/-- Operations keep types. -/
theorem opO_vr (ap : Int → Int → Int → Int × Int) {lib : List Fn1} {x : Nd} {ts : List Bool} {us vs : List Vl} (hk : 80 ≤ x.kind ∧ x.kind ≤ 90) (h80 : x.kind ≠ 80) (h81 : x.kind ≠ 81) (h83 : x.kind ≠ 83) (h84 : x.kind ≠ 84) (h85 : x.kind ≠ 85) (hw : ts = (wantR lib x ts).1) (hv : VRs ts us vs) (f : Nat) : Out.vr (wantR lib x ts).2 (opO ap x us f) (opO ap x vs f) := by
  by_cases h82 : x.kind = 82
  · have e : wantR lib x ts = ([false, false], false) := by unfold wantR; rw [if_pos h82]
    rw [e] at hw ⊢; subst hw
    obtain ⟨a, a', b, b', rfl, rfl, ha, hb⟩ := hv.two
    unfold opO opR
    rw [if_pos h82, if_pos h82]
    simp only [List.getElem?_cons_zero, List.getElem?_cons_succ, Option.getD_some]
    rw [ha.n rfl, hb.n rfl]
    split
    · exact Out.vr_ok (VR.num _ _ _) _ _
    · exact Out.vr_err _ _
  by_cases h86 : x.kind = 86
  · have e : wantR lib x ts = ([], true) := by unfold wantR; rw [if_neg h82, if_neg h83, if_neg h84, if_neg h85, if_pos h86]
    rw [e] at hw ⊢; subst hw
    cases hv
    unfold opO
    split
    · have : (opR ap x.kind x.num []).1 = ⟨true, 0, []⟩ := by unfold opR; rw [if_neg h82, if_neg (by omega), if_neg (by omega), if_neg (by omega), if_neg (by omega)]
      rw [this]; exact Out.vr_ok (VR.lst _ _ (by simp)) _ _
    · exact Out.vr_err _ _
  by_cases h87 : x.kind = 87
  · have e : wantR lib x ts = ([false, true], true) := by unfold wantR; rw [if_neg h82, if_neg h83, if_neg h84, if_neg h85, if_neg h86, if_pos h87]
    rw [e] at hw ⊢; subst hw
    obtain ⟨a, a', b, b', rfl, rfl, ha, hb⟩ := hv.two
    unfold opO opR
    rw [if_neg h82, if_pos h87, if_neg h82, if_pos h87]
    simp only [List.getElem?_cons_zero, List.getElem?_cons_succ, Option.getD_some]
    rw [ha.n rfl, (hb.l rfl).1]
    by_cases hl : 1000 ≤ b'.l.length
    · rw [if_pos hl]; exact Out.vr_err _ _
    · rw [if_neg hl]; exact Out.vr_ok (VR.lst _ _ (by simp; omega)) _ _
  have hone : (wantR lib x ts).1 = [true] := by
    unfold wantR
    rw [if_neg h82, if_neg h83, if_neg h84, if_neg h85, if_neg h86, if_neg h87]
    by_cases h : x.kind = 88 ∨ x.kind = 90
    · rw [if_pos h]
    · rw [if_neg h, if_pos (by omega)]
  rw [hone] at hw; subst hw
  obtain ⟨a, a', rfl, rfl, ha⟩ := hv.one
  have hl := ha.l rfl
  unfold opO opR wantR
  rw [if_neg h82, if_neg h82, if_neg h82, if_neg h83, if_neg h84, if_neg h85, if_neg h86, if_neg h87, if_neg h87, if_neg h87]
  simp only [List.getElem?_cons_zero, Option.getD_some]
  rw [hl.1]
  have h1000 : a'.l.length ≤ 1000 := by rw [← hl.1]; exact hl.2
  by_cases h88 : x.kind = 88
  · rw [if_pos h88, if_pos (.inl h88)]
    cases hA : a'.l with
    | nil => exact Out.vr_err _ _
    | cons y r => exact Out.vr_ok (VR.num _ _ _) _ _
  rw [if_neg h88]
  by_cases h89 : x.kind = 89
  · rw [if_pos h89, if_neg (by omega), if_pos h89]
    cases hA : a'.l with
    | nil => exact Out.vr_err _ _
    | cons y r =>
      rw [hA] at h1000
      exact Out.vr_ok (VR.lst _ _ (by simp at h1000; omega)) _ _
  rw [if_neg h89, if_pos (show x.kind = 90 by omega), if_pos (.inr (by omega)), if_neg h89]
  cases hA : a'.l with
  | nil => exact Out.vr_ok (VR.num _ _ _) _ _
  | cons y r => exact Out.vr_ok (VR.num _ _ _) _ _

end Go.Proofs.Ytgokgcnalgpiiaa
