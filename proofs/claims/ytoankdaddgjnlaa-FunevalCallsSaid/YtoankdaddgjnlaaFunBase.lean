/-
  Data of layer 35 in memory: expressions, parameters, functions.
-/
import Derived.Test.YtoankdaddgjnlaaChecked
import Derived.WalkKit
import Derived.ProofKit
import Derived.OpenShut
import Derived.Deep.QuietTactic
import Derived.BigQuiet
import Derived.Outline
import Derived.Lib.Hide
import Derived.Lib.QuietBelow
import Derived.Below
namespace Go.Proofs.Ytoankdaddgjnlaa
open Go.RowKit

theorem below_cell {w w' : World} (hb : Below w.heap.size w w') {a : Addr} {v : Value} (h : w.cell? a = some v) : w'.cell? a = some v := by
  rw [hb.cell (block_lt_of_cell h)]; exact h

/-- An expression. -/
inductive Nd where
  | mk (kind : Nat) (num : Int) (name : ByteArray) (kids : List Nd)
def Nd.kind : Nd → Nat | .mk k _ _ _ => k
def Nd.num : Nd → Int | .mk _ n _ _ => n
def Nd.name : Nd → ByteArray | .mk _ _ s _ => s
def Nd.kids : Nd → List Nd | .mk _ _ _ l => l
theorem Nd.kid_lt {x : Nd} {k : Nat} {y : Nd} (h : x.kids[k]? = some y) : SizeOf.sizeOf y < SizeOf.sizeOf x := by
  obtain ⟨a, b, c, l⟩ := x
  have hm : y ∈ l := List.mem_of_getElem? h
  have := List.sizeOf_lt_of_mem hm
  simp; omega

/-- The four cells of an expression, and of all below it. -/
inductive NdO (w : World) : Nat → Nat → Nd → Prop
  | mk {b o : Nat} {x : Nd} {A : Option Addr} {cap b' o' : Nat}
      (c0 : w.cell? ⟨b, o, none⟩ = some (.int .u8 x.kind)) (c1 : w.cell? ⟨b, o + 1, none⟩ = some (.int .i64 x.num)) (c2 : w.cell? ⟨b, o + 2, none⟩ = some (.string x.name)) (c3 : w.cell? ⟨b, o + 3, none⟩ = some (.slice A x.kids.length cap))
      (hA : 0 < x.kids.length → A = some ⟨b', o', none⟩) (hk : ∀ k y, x.kids[k]? = some y → NdO w b' (o' + k * 4) y) : NdO w b o x
theorem NdO.lt {w : World} {b o : Nat} {x : Nd} (h : NdO w b o x) : b < w.heap.size := by
  cases h with
  | mk c0 => exact block_lt_of_cell c0
theorem NdO.mono {w w' : World} (hb : Below w.heap.size w w') {b o : Nat} {x : Nd} (h : NdO w b o x) : NdO w' b o x := by
  induction h with
  | mk c0 c1 c2 c3 hA _ ih =>
    exact .mk (below_cell hb c0) (below_cell hb c1) (below_cell hb c2) (below_cell hb c3) hA ih

/-- A slice of expressions. -/
def NdsAt (w : World) (A : Option Addr) (l : List Nd) : Prop :=
  ∀ k x, l[k]? = some x → ∃ b o, A = some ⟨b, o, none⟩ ∧ NdO w b (o + k * 4) x
theorem NdsAt.mono {w w' : World} {A : Option Addr} {l : List Nd} (h : NdsAt w A l) (hb : Below w.heap.size w w') : NdsAt w' A l := fun k x hk => by
  obtain ⟨b, o, e, hi⟩ := h k x hk
  exact ⟨b, o, e, hi.mono hb⟩
theorem NdsAt.at_ {w : World} {A : Option Addr} {l : List Nd} (h : NdsAt w A l) {k : Nat} (hk : k < l.length) : ∃ b o, A = some ⟨b, o, none⟩ ∧ NdO w b (o + k * 4) l[k] :=
  h k l[k] (List.getElem?_eq_getElem hk)
/-- An expression's cells opened. -/
theorem NdO.open_ {w : World} {b o : Nat} {x : Nd} (h : NdO w b o x) : ∃ A cap, w.cell? ⟨b, o, none⟩ = some (.int .u8 x.kind) ∧ w.cell? ⟨b, o + 1, none⟩ = some (.int .i64 x.num) ∧ w.cell? ⟨b, o + 2, none⟩ = some (.string x.name) ∧ w.cell? ⟨b, o + 3, none⟩ = some (.slice A x.kids.length cap) ∧ NdsAt w A x.kids := by
  cases h with
  | mk c0 c1 c2 c3 hA hk =>
    exact ⟨_, _, c0, c1, c2, c3, fun k y hy => ⟨_, _, hA (by have := (List.getElem?_eq_some_iff.1 hy).1; omega), hk k y hy⟩⟩

/-- An expression as a value: its kids in memory. -/
structure NdV (w : World) (x : Nd) (A : Option Addr) : Prop where
  kids : NdsAt w A x.kids
def Nd.val (x : Nd) (A : Option Addr) (cap : Nat) : Value := .agg #[.int .u8 x.kind, .int .i64 x.num, .string x.name, .slice A x.kids.length cap]

/-- Bounds that hold of every expression that came in: kinds are bytes, numbers fit, names and slices have lengths. -/
inductive NdFit : Nd → Prop
  | mk {x : Nd} (hk : x.kind < 256) (hn : -9223372036854775808 ≤ x.num ∧ x.num ≤ 9223372036854775807) (hs : x.name.size ≤ 9223372036854775807) (hl : x.kids.length ≤ 9223372036854775807) (h : ∀ (k : Nat) (y : Nd), x.kids[k]? = some y → NdFit y) : NdFit x
theorem NdFit.kid {x : Nd} (h : NdFit x) {k : Nat} {y : Nd} (hy : x.kids[k]? = some y) : NdFit y := by
  cases h with
  | mk _ _ _ _ h => exact h k y hy
theorem NdFit.facts {x : Nd} (h : NdFit x) : x.kind < 256 ∧ (-9223372036854775808 ≤ x.num ∧ x.num ≤ 9223372036854775807) ∧ x.name.size ≤ 9223372036854775807 ∧ x.kids.length ≤ 9223372036854775807 := by
  cases h with
  | mk a b c d _ => exact ⟨a, b, c, d⟩

/-! ### Parameters and functions -/

structure Pm where
  name : ByteArray
  list : Bool
def PmsAt (w : World) (A : Option Addr) (l : List Pm) : Prop :=
  ∀ k x, l[k]? = some x → ∃ b o, A = some ⟨b, o, none⟩ ∧ w.cell? ⟨b, o + k * 2, none⟩ = some (.string x.name) ∧ w.cell? ⟨b, o + k * 2 + 1, none⟩ = some (.bool x.list)
theorem PmsAt.mono {w w' : World} {A : Option Addr} {l : List Pm} (h : PmsAt w A l) (hb : Below w.heap.size w w') : PmsAt w' A l := fun k x hk => by
  obtain ⟨b, o, e, h1, h2⟩ := h k x hk
  exact ⟨b, o, e, below_cell hb h1, below_cell hb h2⟩
theorem PmsAt.at_ {w : World} {A : Option Addr} {l : List Pm} (h : PmsAt w A l) {k : Nat} (hk : k < l.length) : ∃ b o, A = some ⟨b, o, none⟩ ∧ w.cell? ⟨b, o + k * 2, none⟩ = some (.string l[k].name) ∧ w.cell? ⟨b, o + k * 2 + 1, none⟩ = some (.bool l[k].list) :=
  h k l[k] (List.getElem?_eq_getElem hk)

structure Fn1 where
  name : ByteArray
  params : List Pm
  list : Bool
  body : Nd
/-- The seven cells of a function. -/
structure FnO (w : World) (b o : Nat) (f : Fn1) : Prop where
  c0 : w.cell? ⟨b, o, none⟩ = some (.string f.name)
  ps : ∃ A cap, w.cell? ⟨b, o + 1, none⟩ = some (.slice A f.params.length cap) ∧ PmsAt w A f.params
  c2 : w.cell? ⟨b, o + 2, none⟩ = some (.bool f.list)
  body : NdO w b (o + 3) f.body
theorem FnO.lt {w : World} {b o : Nat} {f : Fn1} (h : FnO w b o f) : b < w.heap.size := block_lt_of_cell h.c0
theorem FnO.mono {w w' : World} {b o : Nat} {f : Fn1} (h : FnO w b o f) (hb : Below w.heap.size w w') : FnO w' b o f := by
  obtain ⟨A, cap, h1, h2⟩ := h.ps
  exact ⟨below_cell hb h.c0, ⟨A, cap, below_cell hb h1, h2.mono hb⟩, below_cell hb h.c2, h.body.mono hb⟩
def LibAt (w : World) (A : Option Addr) (l : List Fn1) : Prop :=
  ∀ k x, l[k]? = some x → ∃ b o, A = some ⟨b, o, none⟩ ∧ FnO w b (o + k * 7) x
theorem LibAt.mono {w w' : World} {A : Option Addr} {l : List Fn1} (h : LibAt w A l) (hb : Below w.heap.size w w') : LibAt w' A l := fun k x hk => by
  obtain ⟨b, o, e, hi⟩ := h k x hk
  exact ⟨b, o, e, hi.mono hb⟩
theorem LibAt.at_ {w : World} {A : Option Addr} {l : List Fn1} (h : LibAt w A l) {k : Nat} (hk : k < l.length) : ∃ b o, A = some ⟨b, o, none⟩ ∧ FnO w b (o + k * 7) l[k] :=
  h k l[k] (List.getElem?_eq_getElem hk)

theorem below_box (w : World) (o : Obj) : Below w.heap.size w (w.alloc o) := (Below.refl _ _).alloc (Nat.le_refl _) _
theorem below_step {B : Nat} {w w1 w2 : World} (h : Below B w w1) (hB : B ≤ w1.heap.size) (h2 : Below w1.heap.size w1 w2) : Below B w w2 := h.trans (h2.mono hB)
theorem ret_bool {a b : Bool} (h : a = b) : Ending.returned (.bool a) = .returned (.bool b) := by rw [h]
theorem ret_i64 {a b : Int} (h : a = b) : Ending.returned (.int .i64 a) = .returned (.int .i64 b) := by rw [h]

end Go.Proofs.Ytoankdaddgjnlaa
