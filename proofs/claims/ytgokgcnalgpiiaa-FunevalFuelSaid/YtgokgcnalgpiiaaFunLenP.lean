/-
  The example of the chapter: a library with one function.
-/
import Derived.Test.YtgokgcnalgpiiaaFunVT
import Derived.Test.YtgokgcnalgpiiaaFunEq
namespace Go.Proofs.Ytgokgcnalgpiiaa
open Go.ChangeShapes Go.WideShapes Go.ChangeAt Go.RowKit Go.Sort

def sXs : ByteArray := ⟨#[120, 115]⟩
def sLen : ByteArray := ⟨#[108, 101, 110]⟩
def s0 : ByteArray := ⟨#[]⟩
def xsN : Nd := .mk 81 0 ⟨#[120, 115]⟩ []
def tailN : Nd := .mk 89 0 ⟨#[]⟩ [xsN]
def recN : Nd := .mk 85 0 ⟨#[108, 101, 110]⟩ [tailN]
def oneN : Nd := .mk 80 1 ⟨#[]⟩ []
def addN : Nd := .mk 82 8 ⟨#[]⟩ [oneN, recN]
def nullN : Nd := .mk 90 0 ⟨#[]⟩ [xsN]
def zeroN : Nd := .mk 80 0 ⟨#[]⟩ []
def lenBody : Nd := .mk 83 0 ⟨#[]⟩ [nullN, zeroN, addN]
def lenFn : Fn1 := ⟨⟨#[108, 101, 110]⟩, [⟨⟨#[120, 115]⟩, true⟩], false, lenBody⟩
def lenLib : List Fn1 := [lenFn]

theorem kids_one {w : World} {b : Nat} {y0 : Nd} (h0 : NdO w b 0 y0) : ∀ (k : Nat) (y : Nd), [y0][k]? = some y → NdO w b (0 + k * 4) y
  | 0, y, h => by simp at h; subst h; simpa using h0
  | k + 1, y, h => by simp at h
theorem kids_two {w : World} {b : Nat} {y0 y1 : Nd} (h0 : NdO w b 0 y0) (h1 : NdO w b 4 y1) : ∀ (k : Nat) (y : Nd), [y0, y1][k]? = some y → NdO w b (0 + k * 4) y
  | 0, y, h => by simp at h; subst h; simpa using h0
  | 1, y, h => by simp at h; subst h; simpa using h1
  | k + 2, y, h => by simp at h
theorem kids_three {w : World} {b : Nat} {y0 y1 y2 : Nd} (h0 : NdO w b 0 y0) (h1 : NdO w b 4 y1) (h2 : NdO w b 8 y2) : ∀ (k : Nat) (y : Nd), [y0, y1, y2][k]? = some y → NdO w b (0 + k * 4) y
  | 0, y, h => by simp at h; subst h; simpa using h0
  | 1, y, h => by simp at h; subst h; simpa using h1
  | 2, y, h => by simp at h; subst h; simpa using h2
  | k + 3, y, h => by simp at h
theorem kids_none {w : World} {b : Nat} : ∀ (k : Nat) (y : Nd), ([] : List Nd)[k]? = some y → NdO w b (0 + k * 4) y
  | k, y, h => by simp at h

end Go.Proofs.Ytgokgcnalgpiiaa
