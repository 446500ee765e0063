/-
  Scripts, plainly: their text form, and what reads it.
-/
import Derived.Test.YtodiijoeeeeicaaDoorNumP
import Derived.Lib.Join
import Derived.Lib.Strings
import Derived.Lib.IndexMore
namespace Go.Proofs.YtodiijoeeeeicaaDoor
open Go.Lib

/-! ### Commands -/
structure Cm where
  kind : Nat
  name : List UInt8
  text : List UInt8
  nums : List Int
structure Shp where
  word : List UInt8
  kind : Nat
  name : Bool
  nums : Int
  text : Bool
def shpL : List Shp := [
  ⟨[108, 111, 97, 100], 1, false, 0, true⟩,
  ⟨[105, 110, 112, 117, 116], 2, false, -1, false⟩,
  ⟨[114, 117, 110], 3, false, 1, false⟩,
  ⟨[98, 97, 99, 107], 4, false, 1, false⟩,
  ⟨[99, 104, 101, 99, 107], 5, false, 0, false⟩,
  ⟨[105, 110, 118, 101, 114, 116], 6, false, 0, false⟩,
  ⟨[99, 111, 109, 112, 105, 108, 101], 7, false, 0, false⟩,
  ⟨[115, 116, 101, 112], 8, false, 1, false⟩,
  ⟨[115, 104, 111, 119], 9, false, 0, false⟩,
  ⟨[102, 117, 110, 99, 116, 105, 111, 110, 115], 10, false, 0, true⟩,
  ⟨[101, 118, 97, 108, 117, 97, 116, 101], 11, true, -1, false⟩,
  ⟨[115, 117, 98, 109, 105, 116], 12, true, 4, true⟩,
  ⟨[117, 110, 100, 111], 13, false, 0, false⟩,
  ⟨[112, 111, 105, 110, 116, 115], 14, true, 0, false⟩]
def findK (k : Nat) : Option Shp := shpL.find? fun s => decide (s.kind = k)
def lookW (w : List UInt8) : Option Shp := shpL.find? fun s => decide (s.word = w)
theorem findK_some {k : Nat} {s : Shp} (h : findK k = some s) : s ∈ shpL ∧ s.kind = k := ⟨List.mem_of_find?_eq_some h, by have := List.find?_some h; simpa using this⟩
theorem lookW_some {w : List UInt8} {s : Shp} (h : lookW w = some s) : s ∈ shpL ∧ s.word = w := ⟨List.mem_of_find?_eq_some h, by have := List.find?_some h; simpa using this⟩
theorem shp_all : ∀ s ∈ shpL, findK s.kind = some s ∧ lookW s.word = some s ∧ (∀ b ∈ s.word, b ≠ 32 ∧ b ≠ 10) ∧ s.word ≠ [] ∧ -1 ≤ s.nums ∧ s.kind < 256 := by
  intro s hs
  simp only [shpL, List.mem_cons, List.not_mem_nil, or_false] at hs
  rcases hs with h | h | h | h | h | h | h | h | h | h | h | h | h | h <;> (subst h; refine ⟨rfl, rfl, ?_, by simp, by decide, by decide⟩; decide)

/-! ### Names -/
def letB (b : UInt8) : Bool := decide (97 ≤ b.toNat) && decide (b.toNat ≤ 122)
def kwW : List (List UInt8) := [[105, 110, 116], [97, 114, 114, 97, 121], [115, 116, 97, 99, 107], [112, 114, 111, 99], [109, 97, 105, 110], [112, 117, 115, 104], [112, 111, 112], [114, 101, 97, 100], [117, 110, 114, 101, 97, 100], [119, 114, 105, 116, 101], [117, 110, 119, 114, 105, 116, 101], [99, 97, 108, 108], [117, 110, 99, 97, 108, 108], [105, 102], [101, 108, 115, 101], [102, 105], [102, 114, 111, 109], [108, 111, 111, 112], [117, 110, 116, 105, 108], [108, 111, 99, 97, 108], [100, 101, 108, 111, 99, 97, 108], [116, 111, 112], [115, 105, 122, 101]]
/-- A name. -/
def nmB (l : List UInt8) : Bool :=
  match l with
  | [] => false
  | b :: _ => letB b && l.all (fun b => letB b || digB b) && decide (l.length ≤ 16) && !kwW.contains l
theorem nm_byte {l : List UInt8} (h : nmB l = true) : ∀ b ∈ l, b ≠ 32 ∧ b ≠ 10 := by
  intro b hb
  cases l with
  | nil => simp at hb
  | cons a r =>
    unfold nmB at h
    simp only [Bool.and_eq_true] at h
    have h2 := List.all_eq_true.1 h.1.1.2 b hb
    constructor <;> (rintro rfl; simp [letB, digB] at h2)
theorem nm_ne {l : List UInt8} (h : nmB l = true) : l ≠ [] := by
  rintro rfl; simp [nmB] at h

/-! ### Valid commands -/
def okC (c : Cm) : Bool :=
  match findK c.kind with
  | none => false
  | some s =>
    if (s.name && !nmB c.name || !s.name && !c.name.isEmpty) = true then false
    else if (decide (s.nums ≠ -1 ∧ (c.nums.length : Int) ≠ s.nums) || decide (4096 < c.nums.length)) = true then false
    else if s.text = false then c.text.isEmpty
    else decide (c.text.length ≤ 65536) && (c.text.isEmpty || hasSuffix c.text [10])
def okL (l : List Cm) : Bool := decide (l.length ≤ 1000) && l.all okC
def wordsC (s : Shp) (c : Cm) : List (List UInt8) :=
  s.word :: ((if s.name = true then [c.name] else []) ++ c.nums.map itoa ++ (if s.text = true then [itoa (c.text.count 10 : Nat)] else []))
def fmtC (c : Cm) : List UInt8 :=
  match findK c.kind with
  | none => []
  | some s => join (wordsC s c) [32] ++ 10 :: c.text
def fmtL (l : List Cm) : List UInt8 := (l.map fmtC).flatten

/-! ### Reading -/
/-- Behind the first line feed. -/
def cutL : List UInt8 → Option (List UInt8 × List UInt8)
  | [] => none
  | b :: r => if b = 10 then some ([], r) else (cutL r).map fun p => (b :: p.1, p.2)
def consH (b : UInt8) : List (List UInt8) → List (List UInt8)
  | [] => [[b]]
  | a :: r => (b :: a) :: r
/-- Cut at spaces. -/
def splitL : List UInt8 → List (List UInt8)
  | [] => [[]]
  | b :: r => if b = 32 then [] :: splitL r else consH b (splitL r)
def numsL : List (List UInt8) → Option (List Int)
  | [] => some []
  | w :: r => match numO w, numsL r with
    | some n, some ns => some (n :: ns)
    | _, _ => none
def takeL : Nat → List UInt8 → Option (List UInt8 × List UInt8)
  | 0, s => some ([], s)
  | n + 1, s => match cutL s with
    | none => none
    | some (a, r) => match takeL n r with
      | none => none
      | some (t, q) => some (a ++ 10 :: t, q)
/-- The name, and what follows it. -/
def nameW (s : Shp) (ws : List (List UInt8)) : Option (List UInt8 × List (List UInt8)) :=
  if s.name = true then (match ws with | [] => none | n :: r => if nmB n = true then some (n, r) else none) else some ([], ws)
/-- How many lines of text, and the numbers. -/
def linesN (s : Shp) (ns : List Int) : Option (Nat × List Int) :=
  if s.text = true then (match ns.getLast? with | none => none | some n => if n < 0 then none else some (n.toNat, ns.dropLast)) else some (0, ns)
def headL (line : List UInt8) : Option (Cm × Nat) :=
  match splitL line with
  | [] => none
  | w :: ws => match lookW w with
    | none => none
    | some s => match nameW s ws with
      | none => none
      | some (nm, ws2) => match numsL ws2 with
        | none => none
        | some ns => match linesN s ns with
          | none => none
          | some (k, ns2) => if s.nums ≠ -1 ∧ (ns2.length : Int) ≠ s.nums then none else some (⟨s.kind, nm, [], ns2⟩, k)
inductive R1 where
  | err (e : Int)
  | ok (c : Cm) (rest : List UInt8)
def read1 (s : List UInt8) : R1 :=
  match cutL s with
  | none => .err 4
  | some (first, rest) => match headL first with
    | none => .err 3
    | some (c, k) => match takeL k rest with
      | none => .err 4
      | some (t, q) => if okC { c with text := t } = true then .ok { c with text := t } q else .err 3
inductive RP where
  | err (line : Nat) (e : Int)
  | ok (l : List Cm)
def lnC (c : Cm) : Nat := 1 + c.text.count 10
def prs : Nat → List UInt8 → List Cm → Nat → RP
  | 0, _, acc, _ => .ok acc
  | f + 1, s, acc, line =>
    if s = [] then .ok acc
    else if acc.length = 1000 then .err line 5
    else match read1 s with
      | .err e => .err line e
      | .ok c rest => prs f rest (acc ++ [c]) (line + lnC c)
def parseL (s : List UInt8) : RP := prs (s.length + 1) s [] 1

/-! ### Lines and words -/
theorem cutL_app : ∀ {a r : List UInt8}, (∀ b ∈ a, b ≠ 10) → cutL (a ++ 10 :: r) = some (a, r)
  | [], r, _ => by rw [List.nil_append, cutL, if_pos rfl]
  | b :: a, r, h => by
    rw [List.cons_append, cutL, if_neg (h b (by simp)), cutL_app (fun x hx => h x (by simp [hx]))]; rfl
theorem cutL_some : ∀ {s a r : List UInt8}, cutL s = some (a, r) → s = a ++ 10 :: r ∧ ∀ b ∈ a, b ≠ 10
  | [], a, r, h => by simp [cutL] at h
  | b :: q, a, r, h => by
    rw [cutL] at h
    split at h
    · rename_i hb
      cases h; exact ⟨by rw [hb]; rfl, fun _ h => by simp at h⟩
    · rename_i hb
      cases hq : cutL q with
      | none => rw [hq] at h; cases h
      | some p =>
        rw [hq] at h
        cases h
        obtain ⟨h1, h2⟩ := cutL_some (a := p.1) (r := p.2) hq
        refine ⟨by rw [h1]; rfl, fun x hx => ?_⟩
        rcases List.mem_cons.1 hx with e | e
        · rw [e]; exact hb
        · exact h2 x e
theorem cutL_none : ∀ {s : List UInt8}, cutL s = none ↔ ∀ b ∈ s, b ≠ 10
  | [] => by simp [cutL]
  | b :: q => by
    rw [cutL]
    by_cases hb : b = 10
    · rw [if_pos hb]; simp [hb]
    · rw [if_neg hb]
      have := cutL_none (s := q)
      cases hq : cutL q with
      | none => rw [hq] at this; simp at this; simp [hb]; exact this
      | some p =>
        obtain ⟨h1, _⟩ := cutL_some (a := p.1) (r := p.2) hq
        simp [hb]
        rw [h1]; simp
theorem splitL_one : ∀ {w : List UInt8}, (∀ b ∈ w, b ≠ 32) → splitL w = [w]
  | [], _ => rfl
  | b :: r, h => by
    rw [splitL, if_neg (h b (by simp)), splitL_one (fun x hx => h x (by simp [hx]))]; rfl
theorem splitL_app : ∀ {w r : List UInt8}, (∀ b ∈ w, b ≠ 32) → splitL (w ++ 32 :: r) = w :: splitL r
  | [], r, _ => by rw [List.nil_append, splitL, if_pos rfl]
  | b :: w, r, h => by
    rw [List.cons_append, splitL, if_neg (h b (by simp)), splitL_app (fun x hx => h x (by simp [hx]))]; rfl
theorem join_cons (w v : List UInt8) (r : List (List UInt8)) : join (w :: v :: r) [32] = w ++ 32 :: join (v :: r) [32] := by
  unfold join; simp [List.intercalate]
theorem join_one (w : List UInt8) : join [w] [32] = w := by unfold join; simp [List.intercalate]
theorem splitL_join : ∀ (ws : List (List UInt8)), ws ≠ [] → (∀ w ∈ ws, ∀ b ∈ w, b ≠ 32) → splitL (join ws [32]) = ws
  | [], h, _ => absurd rfl h
  | [w], _, h => by rw [join_one, splitL_one (h w (by simp))]
  | w :: v :: r, _, h => by
    rw [join_cons, splitL_app (h w (by simp)), splitL_join (v :: r) (by simp) (fun x hx => h x (by simp [hx]))]
theorem splitL_ne : ∀ (s : List UInt8), splitL s ≠ []
  | [] => by simp [splitL]
  | b :: r => by
    rw [splitL]
    split
    · simp
    · cases h : splitL r with
      | nil => simp [consH]
      | cons a q => simp [consH]
theorem join_splitL : ∀ (s : List UInt8), join (splitL s) [32] = s
  | [] => by rw [splitL, join_one]
  | b :: r => by
    have ih := join_splitL r
    rw [splitL]
    cases h : splitL r with
    | nil => exact absurd h (splitL_ne r)
    | cons a q =>
      rw [h] at ih
      by_cases hb : b = 32
      · rw [if_pos hb, join_cons, ih, hb]; rfl
      · rw [if_neg hb, consH]
        cases q with
        | nil => rw [join_one] at ih ⊢; rw [ih]
        | cons v q => rw [join_cons] at ih ⊢; rw [← ih]; rfl
theorem join_mem {b : UInt8} : ∀ {ws : List (List UInt8)}, b ∈ join ws [32] → b = 32 ∨ ∃ w ∈ ws, b ∈ w
  | [], h => by simp [join, List.intercalate] at h
  | [w], h => by rw [join_one] at h; exact .inr ⟨w, by simp, h⟩
  | w :: v :: r, h => by
    rw [join_cons] at h
    rcases List.mem_append.1 h with h | h
    · exact .inr ⟨w, by simp, h⟩
    · rcases List.mem_cons.1 h with h | h
      · exact .inl h
      · rcases join_mem (ws := v :: r) h with h | ⟨x, h1, h2⟩
        · exact .inl h
        · exact .inr ⟨x, by simp [h1], h2⟩

end Go.Proofs.YtodiijoeeeeicaaDoor
