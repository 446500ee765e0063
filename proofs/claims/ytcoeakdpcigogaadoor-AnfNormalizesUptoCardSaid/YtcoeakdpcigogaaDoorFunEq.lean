/-
  Slices of integers.
  The contracts of slices.Equal at ints, of fun.Equal and the reference's Equal.
-/
import Derived.Test.YtcoeakdpcigogaaDoorFunReach
import Derived.Maps.AppendAt
import Derived.OneCell
import Derived.Lib.QuietBelow
namespace Go.Proofs.YtcoeakdpcigogaaDoor
open Go.ChangeShapes Go.WideShapes Go.ChangeAt Go.RowKit Go.Sort

theorem info_int : (Tryd.prog.info? 3).map (fun i => (i.zero, i.size, i.bytes)) = some (some (.int .i64 0), 1, 8) := by kernel_rfl
theorem one_i64 (v : Int) : ∀ u : Value, u ∈ [Value.int .i64 v] → u.oneCell' = true := by
  intro u hu; simp at hu; subst hu; rfl
/-- A slice of integers. -/
def IntsAt (w : World) (A : Option Addr) (l : List Int) : Prop :=
  ∀ k x, l[k]? = some x → ∃ b o, A = some ⟨b, o, none⟩ ∧ w.cell? ⟨b, o + k, none⟩ = some (.int .i64 x)
theorem IntsAt.mono {w w' : World} {A : Option Addr} {l : List Int} (h : IntsAt w A l) (hb : Below w.heap.size w w') : IntsAt w' A l := fun k x hk => by
  obtain ⟨b, o, e, h1⟩ := h k x hk
  exact ⟨b, o, e, below_cell hb h1⟩
theorem IntsAt.at_ {w : World} {A : Option Addr} {l : List Int} (h : IntsAt w A l) {k : Nat} (hk : k < l.length) : ∃ b o, A = some ⟨b, o, none⟩ ∧ w.cell? ⟨b, o + k, none⟩ = some (.int .i64 l[k]) :=
  h k l[k] (List.getElem?_eq_getElem hk)
theorem ints_of_own {w : World} {base : Nat} {e : TypeId} {v : Value} {l : List Int} (h : w.ownsRow base e 1 v l.length (l.map (Value.int .i64))) : ∃ A c, v = .slice A l.length c ∧ IntsAt w A l := by
  obtain ⟨h1, h2⟩ := id h
  rcases h2 with ⟨rfl, h0⟩ | ⟨g, cap, cur, rfl, hg, hh, hc1, hc2, hc3, hc4⟩
  · refine ⟨none, 0, by rw [h0], fun k x hk => ?_⟩
    have : l = [] := List.length_eq_zero_iff.1 h0
    subst this; simp at hk
  · refine ⟨some ⟨g, 0, none⟩, cap, rfl, fun k x hk => ⟨g, 0, rfl, ?_⟩⟩
    have := h.cells (g := g) rfl k (.int .i64 x) (by simp [hk])
    rw [add0] at this; simpa using this
def RetInts (l : List Int) (w : World) (e : Ending) (w' : World) : Prop := ∃ A c, e = .returned (.slice A l.length c) ∧ IntsAt w' A l ∧ Below w.heap.size w w'

end Go.Proofs.YtcoeakdpcigogaaDoor

namespace Go.Proofs.YtcoeakdpcigogaaDoor
open Go.ChangeShapes Go.WideShapes Go.ChangeAt Go.RowKit Go.Sort

/-- A value. -/
structure Vl where
  list : Bool
  n : Int
  l : List Int
def eqV (a b : Vl) : Bool := if a.list = b.list then (if a.list = true then decide (a.l = b.l) else (a.n == b.n)) else false
/-- A value in a box of its own. -/
structure VlB (w : World) (b : Nat) (x : Vl) (A : Option Addr) (cap : Nat) : Prop where
  b0 : w.cell? ⟨b, 0, none⟩ = some (.bool x.list)
  b1 : w.cell? ⟨b, 1, none⟩ = some (.int .i64 x.n)
  b2 : w.cell? ⟨b, 2, none⟩ = some (.slice A x.l.length cap)
  l : IntsAt w A x.l
theorem VlB.mono {w w' : World} {b : Nat} {x : Vl} {A : Option Addr} {cap : Nat} (h : VlB w b x A cap) (hb : Below w.heap.size w w') : VlB w' b x A cap :=
  ⟨below_cell hb h.b0, below_cell hb h.b1, below_cell hb h.b2, h.l.mono hb⟩
theorem vlB_box (w : World) (T : TypeId) (x : Vl) (A : Option Addr) (cap : Nat) (h : IntsAt w A x.l) : VlB (w.alloc (Obj.cells #[.bool x.list, .int .i64 x.n, .slice A x.l.length cap] T)) w.heap.size x A cap := by
  refine ⟨?_, ?_, ?_, h.mono (below_box _ _)⟩ <;> simp [go_sem]

end Go.Proofs.YtcoeakdpcigogaaDoor
