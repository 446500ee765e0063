/-
  Code of layer 23 in memory: a slice of instructions reads as a list.
-/
import Derived.Test.YthakiaicnhkfjaaDoorIsaMath
import Derived.Test.YthakiaicnhkfjaaDoorIsaRefI
namespace Go.Proofs.YthakiaicnhkfjaaDoor
open Go.ChangeShapes Go.WideShapes Go.ChangeAt Go.RowKit Go.Sort

structure Ins where
  op : Nat
  a : Int
  b : Int
  c : Int
  d : Int
  deriving DecidableEq

def Ins.val (x : Ins) : Value := .agg #[.int .u8 x.op, .int .i64 x.a, .int .i64 x.b, .int .i64 x.c, .int .i64 x.d]

/-- The five cells of an instruction, from an offset on. -/
structure InsO (w : World) (b o : Nat) (x : Ins) : Prop where
  c0 : w.cell? ⟨b, o, none⟩ = some (.int .u8 x.op)
  c1 : w.cell? ⟨b, o + 1, none⟩ = some (.int .i64 x.a)
  c2 : w.cell? ⟨b, o + 2, none⟩ = some (.int .i64 x.b)
  c3 : w.cell? ⟨b, o + 3, none⟩ = some (.int .i64 x.c)
  c4 : w.cell? ⟨b, o + 4, none⟩ = some (.int .i64 x.d)
theorem InsO.lt {w : World} {b o : Nat} {x : Ins} (h : InsO w b o x) : b < w.heap.size := block_lt_of_cell h.c0
theorem InsO.mono {w w' : World} {b o : Nat} {x : Ins} (h : InsO w b o x) (hb : Below w.heap.size w w') : InsO w' b o x := by
  have l := h.lt
  have e : ∀ o, w'.cell? ⟨b, o, none⟩ = w.cell? ⟨b, o, none⟩ := fun o => hb.cell (p := ⟨b, o, none⟩) l
  exact ⟨by rw [e]; exact h.c0, by rw [e]; exact h.c1, by rw [e]; exact h.c2, by rw [e]; exact h.c3, by rw [e]; exact h.c4⟩

/-- The slice at A holds these instructions. -/
def CodeAt (w : World) (A : Option Addr) (l : List Ins) : Prop :=
  ∀ k x, l[k]? = some x → ∃ b o, A = some ⟨b, o, none⟩ ∧ InsO w b (o + k * 5) x
theorem CodeAt.mono {w w' : World} {A : Option Addr} {l : List Ins} (h : CodeAt w A l) (hb : Below w.heap.size w w') : CodeAt w' A l := fun k x hk => by
  obtain ⟨b, o, e, hi⟩ := h k x hk
  exact ⟨b, o, e, hi.mono hb⟩
theorem CodeAt.at_ {w : World} {A : Option Addr} {l : List Ins} (h : CodeAt w A l) {k : Nat} (hk : k < l.length) : ∃ b o, A = some ⟨b, o, none⟩ ∧ InsO w b (o + k * 5) l[k] :=
  h k l[k] (List.getElem?_eq_getElem hk)

/-- Every opcode is a byte. -/
def Bytes (l : List Ins) : Prop := ∀ (k : Nat) (x : Ins), l[k]? = some x → x.op < 256
theorem Bytes.at_ {l : List Ins} (h : Bytes l) {k : Nat} (hk : k < l.length) : l[k].op < 256 := h k _ (List.getElem?_eq_getElem hk)

end Go.Proofs.YthakiaicnhkfjaaDoor
