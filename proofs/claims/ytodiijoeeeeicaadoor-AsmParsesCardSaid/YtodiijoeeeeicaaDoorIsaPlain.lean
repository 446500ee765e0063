/-
  Plain Lean functions that mirror package isa and its reference; no program in sight.
-/
import Derived.WalkKit
namespace Go.Proofs.YtodiijoeeeeicaaDoor
open Go.RowKit

def regB (x : Int) : Bool := decide (0 ≤ x) && decide (x < 16)
def numB (x : Int) : Bool := decide (0 ≤ x) && decide (x ≤ 16384)
def idxB (x : Int) : Bool := decide (0 ≤ x) && decide (x < 65536)
def oprB (x : Int) : Bool := decide (8 ≤ x) && decide (x ≤ 23)

/-- The four operands as a list. -/
def opd (A B C D : Int) (k : Nat) : Int := [A, B, C, D].getD k 0

/-- How many operands an opcode uses (0 for an unknown one). -/
def opsN (op : Nat) : Nat := [0, 2, 2, 2, 2, 2, 2, 2, 1, 4, 2, 4, 2, 2, 2, 2, 2, 1, 1, 1, 1, 2, 1, 2, 2, 1, 2, 2, 2, 2, 1, 1, 1, 1, 0].getD op 0

/-- The mnemonic of an opcode. -/
def mnem (op : Nat) : List UInt8 :=
  ([[110, 111, 112], [97, 100, 100], [115, 117, 98], [120, 111, 114], [97, 100, 100, 105], [115, 117, 98, 105], [120, 111, 114, 105], [115, 119, 97, 112], [110, 101, 103], [99, 97, 108, 99], [109, 101, 109], [105, 100, 120], [112, 117, 115, 104], [112, 111, 112], [116, 111, 112], [115, 105, 122, 101], [115, 119, 97, 112, 115], [114, 101, 97, 100], [117, 110, 114, 101, 97, 100], [119, 114, 105, 116, 101], [117, 110, 119, 114, 105, 116, 101], [122, 101, 114, 111], [106, 109, 112], [106, 109, 112, 122], [106, 109, 112, 110], [108, 97, 110, 100], [108, 97, 110, 100, 122], [108, 97, 110, 100, 110], [102, 114, 97, 109, 101], [117, 110, 102, 114, 97, 109, 101], [99, 97, 108, 108], [117, 110, 99, 97, 108, 108], [115, 116, 97, 114, 116], [101, 110, 100], [104, 97, 108, 116]] : List (List UInt8)).getD op []

/-- The opcode of the inverse instruction. -/
def invN (op : Nat) : Nat :=
  if op = 1 then 2 else if op = 2 then 1 else if op = 4 then 5 else if op = 5 then 4 else if op = 12 then 13 else if op = 13 then 12
  else if op = 17 then 18 else if op = 18 then 17 else if op = 19 then 20 else if op = 20 then 19
  else if op = 22 then 25 else if op = 23 then 26 else if op = 24 then 27 else if op = 25 then 22 else if op = 26 then 23 else if op = 27 then 24
  else if op = 28 then 29 else if op = 29 then 28 else if op = 32 then 33 else if op = 33 then 32 else op

/-- 1: the target is operand A; 2: it is operand B; 0: there is none. -/
def tgtK (op : Nat) : Nat :=
  if op = 22 ∨ op = 25 ∨ op = 30 ∨ op = 31 ∨ op = 32 ∨ op = 33 then 1
  else if op = 23 ∨ op = 24 ∨ op = 26 ∨ op = 27 then 2 else 0

def jmpB (op : Nat) : Bool := decide (22 ≤ op) && decide (op ≤ 24)
def lndB (op : Nat) : Bool := decide (25 ≤ op) && decide (op ≤ 27)

/-- Operands beyond the number that the opcode uses are 0. -/
def restB (op : Nat) (A B C D : Int) : Bool :=
  (decide (1 ≤ opsN op) || A == 0) && (decide (2 ≤ opsN op) || B == 0) && (decide (3 ≤ opsN op) || C == 0) && (decide (4 ≤ opsN op) || D == 0)

/-- The operands that are used are as the table says. -/
def formB (op : Nat) (A B C D : Int) : Bool :=
  if op = 1 ∨ op = 2 ∨ op = 3 then regB A && regB B && A != B
  else if op = 7 then regB A && regB B
  else if op = 4 ∨ op = 5 ∨ op = 6 ∨ op = 8 ∨ op = 17 ∨ op = 18 ∨ op = 19 ∨ op = 20 then regB A
  else if op = 9 then regB A && regB B && regB C && A != B && A != C && oprB D
  else if op = 10 ∨ op = 12 ∨ op = 13 ∨ op = 14 ∨ op = 15 then regB A && numB B
  else if op = 11 then regB A && regB B && A != B && numB C && numB D
  else if op = 16 ∨ op = 28 ∨ op = 29 then numB A && numB B
  else if op = 21 then regB A && decide (1 ≤ B) && decide (B ≤ 23)
  else if op = 22 ∨ op = 25 ∨ op = 30 ∨ op = 31 ∨ op = 32 ∨ op = 33 then idxB A
  else if op = 23 ∨ op = 24 ∨ op = 26 ∨ op = 27 then regB A && idxB B
  else true

def validB (op : Nat) (A B C D : Int) : Bool := decide (op < 35) && restB op A B C D && formB op A B C D

end Go.Proofs.YtodiijoeeeeicaaDoor
