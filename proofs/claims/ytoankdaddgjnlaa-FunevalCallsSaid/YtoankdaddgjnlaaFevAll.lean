/-
  The contracts of the evaluator's expr and call.
-/
import Derived.Test.YtoankdaddgjnlaaFevExpr5
namespace Go.Proofs.Ytoankdaddgjnlaa
open Go.ChangeShapes Go.WideShapes Go.ChangeAt Go.RowKit Go.Sort Go.Maps

theorem expr_all (W0 : World) (A : Option Addr) (cap : Nat) (lib : List Fn1) (hL : LibX W0 A lib) (bv : Nat) (tr : Bool) : ∀ d, ExprC W0 A cap lib bv tr d
  | 0 => by
    intro x Ak ck F act n bm bc env S v ts w h1 h2 h3 h4 h5 h6 h7 h8 h9 h10 h11 h12 h13 h14 h15 h16 h17 h18
    exact expr_zero (d := 0) ⟨h1, h2, h3, h4, h5, h6, h7, h8, h9, h10, h11, h12, h13, h14, h15, h16, h17, h18⟩ ck (by omega)
  | d + 1 => by
    intro x Ak ck F act n bm bc env S v ts w h1 h2 h3 h4 h5 h6 h7 h8 h9 h10 h11 h12 h13 h14 h15 h16 h17 h18
    have ih := expr_all W0 A cap lib hL bv tr d
    have h : EPre W0 A cap lib bv tr (d + 1) x Ak F act n bm bc env S v ts w := ⟨h1, h2, h3, h4, h5, h6, h7, h8, h9, h10, h11, h12, h13, h14, h15, h16, h17, h18⟩
    by_cases hF : F ≤ 0
    · have e : ev apR lib (d + 1) act env x F.toNat = .err 18 := by rw [ev, if_pos (by omega)]
      rw [e]
      exact expr_zero h ck hF
    have hF : 0 < F := by omega
    by_cases h80 : x.kind = 80
    · exact expr_80 h ck hF h80
    by_cases h81 : x.kind = 81
    · exact expr_81 h ck hF h81
    by_cases h83 : x.kind = 83
    · exact expr_83 h ck hF ih h83
    by_cases h84 : x.kind = 84
    · exact expr_84 h ck hF ih h84
    exact expr_op h ck hF ih hL h80 h81 h83 h84

end Go.Proofs.Ytoankdaddgjnlaa
