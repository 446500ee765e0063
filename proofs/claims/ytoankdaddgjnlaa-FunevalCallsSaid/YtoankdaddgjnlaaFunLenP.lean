/-
  The example of the chapter: a library with one function.
  The example library of the chapter is valid (plain).
-/
import Derived.Test.YtoankdaddgjnlaaFunVT
import Derived.Test.YtoankdaddgjnlaaFunEq
namespace Go.Proofs.Ytoankdaddgjnlaa
open Go.ChangeShapes Go.WideShapes Go.ChangeAt Go.RowKit Go.Sort

def sXs : ByteArray := ⟨#[120, 115]⟩
def sLen : ByteArray := ⟨#[108, 101, 110]⟩
def s0 : ByteArray := ⟨#[]⟩
def xsN : Nd := .mk 81 0 ⟨#[120, 115]⟩ []
def tailN : Nd := .mk 89 0 ⟨#[]⟩ [xsN]
def recN : Nd := .mk 85 0 ⟨#[108, 101, 110]⟩ [tailN]
def oneN : Nd := .mk 80 1 ⟨#[]⟩ []
def addN : Nd := .mk 82 8 ⟨#[]⟩ [oneN, recN]
def nullN : Nd := .mk 90 0 ⟨#[]⟩ [xsN]
def zeroN : Nd := .mk 80 0 ⟨#[]⟩ []
def lenBody : Nd := .mk 83 0 ⟨#[]⟩ [nullN, zeroN, addN]
def lenFn : Fn1 := ⟨⟨#[108, 101, 110]⟩, [⟨⟨#[120, 115]⟩, true⟩], false, lenBody⟩
def lenLib : List Fn1 := [lenFn]

theorem kids_one {w : World} {b : Nat} {y0 : Nd} (h0 : NdO w b 0 y0) : ∀ (k : Nat) (y : Nd), [y0][k]? = some y → NdO w b (0 + k * 4) y
  | 0, y, h => by simp at h; subst h; simpa using h0
  | k + 1, y, h => by simp at h
theorem kids_two {w : World} {b : Nat} {y0 y1 : Nd} (h0 : NdO w b 0 y0) (h1 : NdO w b 4 y1) : ∀ (k : Nat) (y : Nd), [y0, y1][k]? = some y → NdO w b (0 + k * 4) y
  | 0, y, h => by simp at h; subst h; simpa using h0
  | 1, y, h => by simp at h; subst h; simpa using h1
  | k + 2, y, h => by simp at h
theorem kids_three {w : World} {b : Nat} {y0 y1 y2 : Nd} (h0 : NdO w b 0 y0) (h1 : NdO w b 4 y1) (h2 : NdO w b 8 y2) : ∀ (k : Nat) (y : Nd), [y0, y1, y2][k]? = some y → NdO w b (0 + k * 4) y
  | 0, y, h => by simp at h; subst h; simpa using h0
  | 1, y, h => by simp at h; subst h; simpa using h1
  | 2, y, h => by simp at h; subst h; simpa using h2
  | k + 3, y, h => by simp at h
theorem kids_none {w : World} {b : Nat} : ∀ (k : Nat) (y : Nd), ([] : List Nd)[k]? = some y → NdO w b (0 + k * 4) y
  | k, y, h => by simp at h

end Go.Proofs.Ytoankdaddgjnlaa

namespace Go.Proofs.Ytoankdaddgjnlaa
open Go.ChangeShapes Go.WideShapes Go.ChangeAt Go.RowKit Go.Sort

def fitB : Nd → Bool
  | .mk k n s l => decide (k < 256) && decide (-9223372036854775808 ≤ n) && decide (n ≤ 9223372036854775807) && decide (s.size ≤ 9223372036854775807) && decide (l.length ≤ 9223372036854775807)
theorem fit_mk {x : Nd} (h : fitB x = true) (hk : ∀ (k : Nat) (y : Nd), x.kids[k]? = some y → NdFit y) : NdFit x := by
  obtain ⟨k, n, s, l⟩ := x
  simp [fitB] at h
  exact .mk h.1.1.1.1 ⟨h.1.1.1.2, h.1.1.2⟩ h.1.2 h.2 hk
theorem fit_none {x : Nd} (h : fitB x = true) (e : x.kids = []) : NdFit x := fit_mk h (fun k y hy => by rw [e] at hy; simp at hy)
theorem fit_one {x y0 : Nd} (h : fitB x = true) (e : x.kids = [y0]) (h0 : NdFit y0) : NdFit x := fit_mk h (fun k y hy => by
  rw [e] at hy
  match k, hy with
  | 0, hy => simp at hy; subst hy; exact h0
  | k + 1, hy => simp at hy)
theorem fit_two {x y0 y1 : Nd} (h : fitB x = true) (e : x.kids = [y0, y1]) (h0 : NdFit y0) (h1 : NdFit y1) : NdFit x := fit_mk h (fun k y hy => by
  rw [e] at hy
  match k, hy with
  | 0, hy => simp at hy; subst hy; exact h0
  | 1, hy => simp at hy; subst hy; exact h1
  | k + 2, hy => simp at hy)
theorem fit_three {x y0 y1 y2 : Nd} (h : fitB x = true) (e : x.kids = [y0, y1, y2]) (h0 : NdFit y0) (h1 : NdFit y1) (h2 : NdFit y2) : NdFit x := fit_mk h (fun k y hy => by
  rw [e] at hy
  match k, hy with
  | 0, hy => simp at hy; subst hy; exact h0
  | 1, hy => simp at hy; subst hy; exact h1
  | 2, hy => simp at hy; subst hy; exact h2
  | k + 3, hy => simp at hy)
theorem fit_xs : NdFit xsN := fit_none (by decide) rfl
theorem fit_body : NdFit lenBody := fit_three (by decide) rfl (fit_one (by decide) rfl fit_xs) (fit_none (by decide) rfl) (fit_two (by decide) rfl (fit_none (by decide) rfl) (fit_one (by decide) rfl (fit_one (by decide) rfl fit_xs)))
theorem len_get {k : Nat} {f : Fn1} (h : lenLib[k]? = some f) : k = 0 ∧ f = lenFn := by
  match k, h with
  | 0, h => simp [lenLib] at h; exact ⟨rfl, h.symm⟩
  | k + 1, h => simp [lenLib] at h
theorem len_fit : LibFit lenLib := ⟨by decide, fun k f h => by
  obtain ⟨_, rfl⟩ := len_get h
  exact ⟨by decide, ⟨by decide, fun k p hp => by
    match k, hp with
    | 0, hp => simp [lenFn] at hp; subst hp; decide
    | k + 1, hp => simp [lenFn] at hp⟩, fit_body⟩⟩
theorem len_few : FewParams lenLib := fun k f h => by obtain ⟨_, rfl⟩ := len_get h; decide
theorem len_size : sizeT lenBody = 9 := by decide
theorem len_nodes : FewNodes lenLib := fun k f h => by obtain ⟨_, rfl⟩ := len_get h; show sizeT lenBody ≤ _; rw [len_size]; omega
theorem len_find : findF lenLib ⟨#[108, 101, 110]⟩ 0 = 0 := by decide +kernel
theorem len_find' : findF lenLib ⟨#[110, 101, 108]⟩ 0 = -1 := by decide +kernel
theorem len_name : nameB ⟨#[108, 101, 110]⟩ = true := by decide +kernel
theorem xs_name : nameB ⟨#[120, 115]⟩ = true := by decide +kernel
theorem len_form : formT lenBody = true := by decide +kernel
theorem len_dep : depT lenBody = 5 := by decide
theorem len_chk : chkT lenLib lenBody (envF lenFn.params) = (false, 0) := by decide +kernel
theorem len_param : paramE lenFn.params = 0 := by
  unfold paramE
  rw [if_neg (by decide), if_neg, if_pos (by decide)]
  rintro ⟨p, hp, h⟩
  simp [lenFn] at hp; subst hp
  rw [xs_name] at h; cases h
theorem len_one : oneE lenLib 0 lenFn = 0 := by
  unfold oneE
  rw [if_neg (by decide), if_neg (by show ¬ nameB ⟨#[108, 101, 110]⟩ = false; rw [len_name]; simp), if_neg (by show ¬ findF lenLib ⟨#[108, 101, 110]⟩ 0 < _; rw [len_find]; omega), if_neg (fun h => h len_param), if_neg (by show ¬ formT lenBody = false; rw [len_form]; simp), if_neg (by show ¬ 80 < depT lenBody; rw [len_dep]; omega), if_neg (by show ¬ 2000 < sizeT lenBody; rw [len_size]; omega)]
  unfold chkE
  show (if (chkT lenLib lenBody (envF lenFn.params)).2 ≠ 0 then _ else if (chkT lenLib lenBody (envF lenFn.params)).1 ≠ false then _ else _) = _
  rw [len_chk]; rfl
theorem len_valid : validR lenLib = (-1, 0) := by
  unfold validR
  show vldL (oneK lenLib) 1 0 = _
  unfold vldL
  have : oneK lenLib 0 = 0 := len_one
  rw [this]; rfl

end Go.Proofs.Ytoankdaddgjnlaa
