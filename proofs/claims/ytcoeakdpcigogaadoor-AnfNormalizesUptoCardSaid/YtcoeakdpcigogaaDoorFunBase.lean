/-
  Data of layer 35 in memory: expressions, parameters, functions.
  A map from strings to bools that the call itself has made: what it answers.
  Contracts of fun.Find and the reference's Find.
-/
import Derived.Test.YtcoeakdpcigogaaDoorChecked
import Derived.WalkKit
import Derived.ProofKit
import Derived.OpenShut
import Derived.Deep.QuietTactic
import Derived.BigQuiet
import Derived.Outline
import Derived.Lib.Hide
import Derived.Lib.QuietBelow
import Derived.Below
import Derived.Maps.Own
import Derived.Maps.OwnOps
import Derived.Maps.OwnSet
import Derived.StringKeys
namespace Go.Proofs.YtcoeakdpcigogaaDoor
open Go.RowKit

theorem below_cell {w w' : World} (hb : Below w.heap.size w w') {a : Addr} {v : Value} (h : w.cell? a = some v) : w'.cell? a = some v := by
  rw [hb.cell (block_lt_of_cell h)]; exact h

/-- An expression. -/
inductive Nd where
  | mk (kind : Nat) (num : Int) (name : ByteArray) (kids : List Nd)
def Nd.kind : Nd → Nat | .mk k _ _ _ => k
def Nd.num : Nd → Int | .mk _ n _ _ => n
def Nd.name : Nd → ByteArray | .mk _ _ s _ => s
def Nd.kids : Nd → List Nd | .mk _ _ _ l => l
theorem Nd.kid_lt {x : Nd} {k : Nat} {y : Nd} (h : x.kids[k]? = some y) : SizeOf.sizeOf y < SizeOf.sizeOf x := by
  obtain ⟨a, b, c, l⟩ := x
  have hm : y ∈ l := List.mem_of_getElem? h
  have := List.sizeOf_lt_of_mem hm
  simp; omega

/-- The four cells of an expression, and of all below it. -/
inductive NdO (w : World) : Nat → Nat → Nd → Prop
  | mk {b o : Nat} {x : Nd} {A : Option Addr} {cap b' o' : Nat}
      (c0 : w.cell? ⟨b, o, none⟩ = some (.int .u8 x.kind)) (c1 : w.cell? ⟨b, o + 1, none⟩ = some (.int .i64 x.num)) (c2 : w.cell? ⟨b, o + 2, none⟩ = some (.string x.name)) (c3 : w.cell? ⟨b, o + 3, none⟩ = some (.slice A x.kids.length cap))
      (hA : 0 < x.kids.length → A = some ⟨b', o', none⟩) (hk : ∀ k y, x.kids[k]? = some y → NdO w b' (o' + k * 4) y) : NdO w b o x
theorem NdO.lt {w : World} {b o : Nat} {x : Nd} (h : NdO w b o x) : b < w.heap.size := by
  cases h with
  | mk c0 => exact block_lt_of_cell c0
theorem NdO.mono {w w' : World} (hb : Below w.heap.size w w') {b o : Nat} {x : Nd} (h : NdO w b o x) : NdO w' b o x := by
  induction h with
  | mk c0 c1 c2 c3 hA _ ih =>
    exact .mk (below_cell hb c0) (below_cell hb c1) (below_cell hb c2) (below_cell hb c3) hA ih

/-- A slice of expressions. -/
def NdsAt (w : World) (A : Option Addr) (l : List Nd) : Prop :=
  ∀ k x, l[k]? = some x → ∃ b o, A = some ⟨b, o, none⟩ ∧ NdO w b (o + k * 4) x
theorem NdsAt.mono {w w' : World} {A : Option Addr} {l : List Nd} (h : NdsAt w A l) (hb : Below w.heap.size w w') : NdsAt w' A l := fun k x hk => by
  obtain ⟨b, o, e, hi⟩ := h k x hk
  exact ⟨b, o, e, hi.mono hb⟩
theorem NdsAt.at_ {w : World} {A : Option Addr} {l : List Nd} (h : NdsAt w A l) {k : Nat} (hk : k < l.length) : ∃ b o, A = some ⟨b, o, none⟩ ∧ NdO w b (o + k * 4) l[k] :=
  h k l[k] (List.getElem?_eq_getElem hk)
/-- An expression's cells opened. -/
theorem NdO.open_ {w : World} {b o : Nat} {x : Nd} (h : NdO w b o x) : ∃ A cap, w.cell? ⟨b, o, none⟩ = some (.int .u8 x.kind) ∧ w.cell? ⟨b, o + 1, none⟩ = some (.int .i64 x.num) ∧ w.cell? ⟨b, o + 2, none⟩ = some (.string x.name) ∧ w.cell? ⟨b, o + 3, none⟩ = some (.slice A x.kids.length cap) ∧ NdsAt w A x.kids := by
  cases h with
  | mk c0 c1 c2 c3 hA hk =>
    exact ⟨_, _, c0, c1, c2, c3, fun k y hy => ⟨_, _, hA (by have := (List.getElem?_eq_some_iff.1 hy).1; omega), hk k y hy⟩⟩

/-- An expression as a value: its kids in memory. -/
structure NdV (w : World) (x : Nd) (A : Option Addr) : Prop where
  kids : NdsAt w A x.kids
def Nd.val (x : Nd) (A : Option Addr) (cap : Nat) : Value := .agg #[.int .u8 x.kind, .int .i64 x.num, .string x.name, .slice A x.kids.length cap]

/-- Bounds that hold of every expression that came in: kinds are bytes, numbers fit, names and slices have lengths. -/
inductive NdFit : Nd → Prop
  | mk {x : Nd} (hk : x.kind < 256) (hn : -9223372036854775808 ≤ x.num ∧ x.num ≤ 9223372036854775807) (hs : x.name.size ≤ 9223372036854775807) (hl : x.kids.length ≤ 9223372036854775807) (h : ∀ (k : Nat) (y : Nd), x.kids[k]? = some y → NdFit y) : NdFit x
theorem NdFit.kid {x : Nd} (h : NdFit x) {k : Nat} {y : Nd} (hy : x.kids[k]? = some y) : NdFit y := by
  cases h with
  | mk _ _ _ _ h => exact h k y hy
theorem NdFit.facts {x : Nd} (h : NdFit x) : x.kind < 256 ∧ (-9223372036854775808 ≤ x.num ∧ x.num ≤ 9223372036854775807) ∧ x.name.size ≤ 9223372036854775807 ∧ x.kids.length ≤ 9223372036854775807 := by
  cases h with
  | mk a b c d _ => exact ⟨a, b, c, d⟩

/-! ### Parameters and functions -/

structure Pm where
  name : ByteArray
  list : Bool
def PmsAt (w : World) (A : Option Addr) (l : List Pm) : Prop :=
  ∀ k x, l[k]? = some x → ∃ b o, A = some ⟨b, o, none⟩ ∧ w.cell? ⟨b, o + k * 2, none⟩ = some (.string x.name) ∧ w.cell? ⟨b, o + k * 2 + 1, none⟩ = some (.bool x.list)
theorem PmsAt.mono {w w' : World} {A : Option Addr} {l : List Pm} (h : PmsAt w A l) (hb : Below w.heap.size w w') : PmsAt w' A l := fun k x hk => by
  obtain ⟨b, o, e, h1, h2⟩ := h k x hk
  exact ⟨b, o, e, below_cell hb h1, below_cell hb h2⟩
theorem PmsAt.at_ {w : World} {A : Option Addr} {l : List Pm} (h : PmsAt w A l) {k : Nat} (hk : k < l.length) : ∃ b o, A = some ⟨b, o, none⟩ ∧ w.cell? ⟨b, o + k * 2, none⟩ = some (.string l[k].name) ∧ w.cell? ⟨b, o + k * 2 + 1, none⟩ = some (.bool l[k].list) :=
  h k l[k] (List.getElem?_eq_getElem hk)

structure Fn1 where
  name : ByteArray
  params : List Pm
  list : Bool
  body : Nd
/-- The seven cells of a function. -/
structure FnO (w : World) (b o : Nat) (f : Fn1) : Prop where
  c0 : w.cell? ⟨b, o, none⟩ = some (.string f.name)
  ps : ∃ A cap, w.cell? ⟨b, o + 1, none⟩ = some (.slice A f.params.length cap) ∧ PmsAt w A f.params
  c2 : w.cell? ⟨b, o + 2, none⟩ = some (.bool f.list)
  body : NdO w b (o + 3) f.body
theorem FnO.lt {w : World} {b o : Nat} {f : Fn1} (h : FnO w b o f) : b < w.heap.size := block_lt_of_cell h.c0
theorem FnO.mono {w w' : World} {b o : Nat} {f : Fn1} (h : FnO w b o f) (hb : Below w.heap.size w w') : FnO w' b o f := by
  obtain ⟨A, cap, h1, h2⟩ := h.ps
  exact ⟨below_cell hb h.c0, ⟨A, cap, below_cell hb h1, h2.mono hb⟩, below_cell hb h.c2, h.body.mono hb⟩
def LibAt (w : World) (A : Option Addr) (l : List Fn1) : Prop :=
  ∀ k x, l[k]? = some x → ∃ b o, A = some ⟨b, o, none⟩ ∧ FnO w b (o + k * 7) x
theorem LibAt.mono {w w' : World} {A : Option Addr} {l : List Fn1} (h : LibAt w A l) (hb : Below w.heap.size w w') : LibAt w' A l := fun k x hk => by
  obtain ⟨b, o, e, hi⟩ := h k x hk
  exact ⟨b, o, e, hi.mono hb⟩
theorem LibAt.at_ {w : World} {A : Option Addr} {l : List Fn1} (h : LibAt w A l) {k : Nat} (hk : k < l.length) : ∃ b o, A = some ⟨b, o, none⟩ ∧ FnO w b (o + k * 7) l[k] :=
  h k l[k] (List.getElem?_eq_getElem hk)

theorem below_box (w : World) (o : Obj) : Below w.heap.size w (w.alloc o) := (Below.refl _ _).alloc (Nat.le_refl _) _
theorem below_step {B : Nat} {w w1 w2 : World} (h : Below B w w1) (hB : B ≤ w1.heap.size) (h2 : Below w1.heap.size w1 w2) : Below B w w2 := h.trans (h2.mono hB)
theorem ret_bool {a b : Bool} (h : a = b) : Ending.returned (.bool a) = .returned (.bool b) := by rw [h]
theorem ret_i64 {a b : Int} (h : a = b) : Ending.returned (.int .i64 a) = .returned (.int .i64 b) := by rw [h]

end Go.Proofs.YtcoeakdpcigogaaDoor

namespace Go.Proofs.YtcoeakdpcigogaaDoor
open Go.ChangeShapes Go.WideShapes Go.ChangeAt Go.RowKit Go.Sort Go.Maps

theorem strKeyed : Keyed Tryd.prog 9 := string_keyed Tryd.underlying9
theorem zeroBool (w : World) : (zeroValue 4).run Tryd.prog w = .ok (.bool false) w := by kernel_rfl
def klit (s : ByteArray) : Lit := .string s.data.toList
theorem klit_ne {s t : ByteArray} (h : t ≠ s) : klit t ≠ klit s := fun e => h (by
  unfold klit at e; injection e with e; exact WideShapes.bytes_inj e)
theorem klit_key (s : ByteArray) : WideAt.IsKeyLit (klit s) := by unfold klit; first | exact trivial | constructor | simp [WideAt.IsKeyLit]

/-- Block b is such a map: it has sz entries, and answers as env says. -/
def MapB (w : World) (b n sz : Nat) (env : ByteArray → Option Bool) : Prop :=
  ∃ D : DataW Unit, w.ownsMap Tryd.prog 9 (plainElem Tryd.prog 4) b n D ∧ Maps.size D = sz ∧ ∀ s : ByteArray, Maps.has D (klit s) = (env s).isSome ∧ D.atKey (klit s) (.lit (.bool false)) = .lit (.bool ((env s).getD false))

theorem plainElem_bool_inv {e : TypeId} (he : Tryd.prog.underlying e = some .bool) {v : Value} {z : DataW Unit × List MemPlace} (h : plainElem Tryd.prog e v = some z) : ∃ x, v = .bool x ∧ z = (.lit (.bool x), []) := by
  unfold plainElem at h
  rw [he] at h
  cases v <;> simp at h
  exact ⟨_, rfl, h.symm⟩

def setE (env : ByteArray → Option Bool) (s : ByteArray) (v : Option Bool) : ByteArray → Option Bool := fun t => if t = s then v else env t

theorem MapB.lt {w : World} {b n sz : Nat} {env : ByteArray → Option Bool} (h : MapB w b n sz env) : b < w.heap.size := by
  obtain ⟨D, h1, _⟩ := h; exact h1.lt
theorem MapB.below {w w' : World} {b n sz : Nat} {env : ByteArray → Option Bool} (h : MapB w b n sz env) (hb : Below w.heap.size w w') : MapB w' b n sz env := by
  have hl := h.lt
  obtain ⟨D, ⟨es, c, h1, h2⟩, h3⟩ := h
  exact ⟨D, ⟨es, c, by rw [hb.block b hl]; exact h1, h2⟩, h3⟩
theorem MapB.grown {w w' : World} {b n sz : Nat} {env : ByteArray → Option Bool} (h : MapB w b n sz env) {row : Option Nat} (hg : w.grownBy w' row) (hne : some b ≠ row) : MapB w' b n sz env := by
  obtain ⟨D, h1, h2⟩ := h
  exact ⟨D, h1.kept hg hne, h2⟩
theorem MapB.setCell {w : World} {b n sz : Nat} {env : ByteArray → Option Bool} (h : MapB w b n sz env) {a : Addr} (ha : b ≠ a.block) (u : Value) : MapB (w.setCell a u) b n sz env := by
  obtain ⟨D, h1, h2⟩ := h
  exact ⟨D, h1.setCell ha u, h2⟩
theorem MapB.congr {w : World} {b n sz : Nat} {env env' : ByteArray → Option Bool} (h : MapB w b n sz env) (he : ∀ s, env s = env' s) : MapB w b n sz env' := by
  have : env = env' := funext he
  rw [← this]; exact h
theorem mapB_made (w : World) : MapB (w.alloc (.map #[] 0)) w.heap.size 0 0 (fun _ => none) :=
  ⟨.map [], World.ownsMap_made w _ _ _, rfl, fun _ => ⟨rfl, rfl⟩⟩

section
variable (w : World) {ops : Array Oper} {rest : List Oper} {o : Oper} {a : Act} {Q : Exit → Act → World → Prop}

theorem mapB_put {w : World} {b n sz : Nat} {env : ByteArray → Option Bool} {t : TypeId} (ht : Tryd.prog.underlying t = some (.map 9 4)) (h : MapB w b n sz env) (hn : n < maxLen) (s : ByteArray) (hs : s.size ≤ maxLen) (v : Bool) :
    ∃ w', (Instr.mapUpdate t (.map (some b)) (.string s) (.bool v)).run Tryd.prog w = .ok () w' ∧ MapB w' b (n + 1) (if (env s).isSome = true then sz else sz + 1) (setE env s (some v)) ∧ w.mapTurned w' b := by
  obtain ⟨D, h1, h2, h3⟩ := h
  obtain ⟨w', hrun, r1, r2⟩ := h1.store strKeyed ht hn (WideMaps.keyOf_string_mk Tryd.underlying9 hs) (plainElem_bool Tryd.underlying4 v)
  refine ⟨w', hrun, ⟨_, r1, ?_, fun u => ?_⟩, r2⟩
  · rw [Maps.size_put (h1.tidy strKeyed), h2]
    have := (h3 s).1
    unfold klit at this
    rw [this]
  · unfold setE
    by_cases e : u = s
    · subst e
      rw [if_pos rfl]
      exact ⟨Maps.has_put_same h1.isMap (klit_key u) _, Maps.atKey_put_same h1.isMap (klit_key u) _ _⟩
    · rw [if_neg e]
      exact ⟨by rw [← (h3 u).1]; exact Maps.has_put_other (klit_ne e) _, by rw [← (h3 u).2]; exact Maps.atKey_put_other (klit_ne e) _ _⟩

/-- m[k] = v, in a statement or in the literal that makes the map. -/
theorem wpList_put_B (hg : o.guard = none) (m x v : Operand) (t : TypeId) (hop : o.op = Op.mapUpdate t m x v ∨ o.op = Op.insert t m x v) (ht : Tryd.prog.underlying t = some (.map 9 4)) (b n sz : Nat) (env : ByteArray → Option Bool)
    (hm : a.eval m = .map (some b)) (h : MapB w b n sz env) (hn : n < maxLen) (s : ByteArray) (y : Bool) (hx : a.eval x = .string s) (hv : a.eval v = .bool y) (hs : s.size ≤ maxLen)
    (hK : ∀ w', MapB w' b (n + 1) (if (env s).isSome = true then sz else sz + 1) (setE env s (some y)) → w.mapTurned w' b → wpList Tryd.prog ops Q rest (a.put o.dst undef) w') :
    wpList Tryd.prog ops Q (o :: rest) a w := by
  refine wpList_plain hg fun K' hK' => ?_
  obtain ⟨w', hrun, r1, r2⟩ := mapB_put ht h hn s hs y
  unfold Oper.wp
  rcases hop with hop | hop
  all_goals
    simp [execOp, hop, hm, hx, hv, hrun, Result.andThen]
    exact hK' _ _ (hK w' r1 r2)

theorem wpList_look_B (hg : o.guard = none) (m x : Operand) (t : TypeId) (hop : o.op = Op.lookup t m x false) (ht : Tryd.prog.underlying t = some (.map 9 4)) (b n sz : Nat) (env : ByteArray → Option Bool)
    (hm : a.eval m = .map (some b)) (h : MapB w b n sz env) (s : ByteArray) (hx : a.eval x = .string s) (hs : s.size ≤ maxLen)
    (hK : wpList Tryd.prog ops Q rest (a.put o.dst (.bool ((env s).getD false))) w) :
    wpList Tryd.prog ops Q (o :: rest) a w := by
  refine wpList_plain hg fun K' hK' => ?_
  obtain ⟨D, h1, _, h3⟩ := h
  obtain ⟨v, ps, hrun, hv⟩ := h1.lookup strKeyed ht (zeroBool w) (plainElem_bool Tryd.underlying4 false) (WideMaps.keyOf_string_mk Tryd.underlying9 hs)
  obtain ⟨y, rfl, hy⟩ := plainElem_bool_inv Tryd.underlying4 hv
  have he := (h3 s).2
  unfold klit at he
  rw [he] at hy
  have : y = (env s).getD false := by simpa using (congrArg Prod.fst hy).symm
  subst this
  unfold Oper.wp
  simp [execOp, hop, hm, hx, hrun, Result.andThen]
  exact hK' _ _ hK

theorem wpList_look_ok_B (hg : o.guard = none) (m x : Operand) (t : TypeId) (hop : o.op = Op.lookup t m x true) (ht : Tryd.prog.underlying t = some (.map 9 4)) (b n sz : Nat) (env : ByteArray → Option Bool)
    (hm : a.eval m = .map (some b)) (h : MapB w b n sz env) (s : ByteArray) (hx : a.eval x = .string s) (hs : s.size ≤ maxLen)
    (hK : wpList Tryd.prog ops Q rest (a.put o.dst (.tuple #[.bool ((env s).getD false), .bool (env s).isSome])) w) :
    wpList Tryd.prog ops Q (o :: rest) a w := by
  refine wpList_plain hg fun K' hK' => ?_
  obtain ⟨D, h1, _, h3⟩ := h
  obtain ⟨v, ps, hrun, hv⟩ := h1.look_ok strKeyed ht (zeroBool w) (plainElem_bool Tryd.underlying4 false) (WideMaps.keyOf_string_mk Tryd.underlying9 hs)
  obtain ⟨y, rfl, hy⟩ := plainElem_bool_inv Tryd.underlying4 hv
  have he := (h3 s).2
  have hh := (h3 s).1
  unfold klit at he hh
  rw [he] at hy
  rw [hh] at hrun
  have : y = (env s).getD false := by simpa using (congrArg Prod.fst hy).symm
  subst this
  unfold Oper.wp
  simp [execOp, hop, hm, hx, hrun, Result.andThen]
  exact hK' _ _ hK

theorem wpList_del_B (hg : o.guard = none) (m x : Operand) (t : TypeId) (hop : o.op = Op.call { callee := Callee.builtin Builtin.delete, args := #[m, x], argTypes := #[t, 9] }) (ht : Tryd.prog.underlying t = some (.map 9 4)) (b n sz : Nat) (env : ByteArray → Option Bool)
    (hm : a.eval m = .map (some b)) (h : MapB w b n sz env) (s : ByteArray) (hx : a.eval x = .string s) (hs : s.size ≤ maxLen)
    (hK : ∀ w' sz', MapB w' b n sz' (setE env s none) → w.mapTurned w' b → wpList Tryd.prog ops Q rest (a.put o.dst (.tuple #[])) w') :
    wpList Tryd.prog ops Q (o :: rest) a w := by
  refine wpList_plain hg fun K' hK' => ?_
  obtain ⟨D, h1, h2, h3⟩ := h
  obtain ⟨w', hrun, r1, r2⟩ := h1.drop strKeyed ht (WideMaps.keyOf_string_mk Tryd.underlying9 hs) o.type
  have hM : MapB w' b n (Maps.size (D.del (.string s.data.toList))) (setE env s none) := by
    refine ⟨_, r1, rfl, fun u => ?_⟩
    unfold setE
    by_cases e : u = s
    · subst e
      rw [if_pos rfl]
      exact ⟨Maps.has_del_same, Maps.atKey_del_same _⟩
    · rw [if_neg e]
      exact ⟨by rw [← (h3 u).1]; exact Maps.has_del_other (klit_ne e), by rw [← (h3 u).2]; exact Maps.atKey_del_other (klit_ne e) _⟩
  unfold Oper.wp
  simp [execOp, hop, resolve, invoke, builtin, hm, hx, hrun, Result.andThen]
  exact hK' _ _ (hK w' _ hM r2)

theorem wpList_len_B (hg : o.guard = none) (m : Operand) (t : TypeId) (hop : o.op = Op.call { callee := Callee.builtin Builtin.len, args := #[m], argTypes := #[t] }) (ht : Tryd.prog.underlying t = some (.map 9 4)) (b n sz : Nat) (env : ByteArray → Option Bool)
    (hm : a.eval m = .map (some b)) (h : MapB w b n sz env)
    (hK : wpList Tryd.prog ops Q rest (a.put o.dst (.int .i64 sz)) w) :
    wpList Tryd.prog ops Q (o :: rest) a w := by
  obtain ⟨D, h1, h2, _⟩ := h
  refine wpList_len_own w hg m t hop _ _ ht _ b n D hm h1 ?_
  rw [h2]; exact hK
end

end Go.Proofs.YtcoeakdpcigogaaDoor

namespace Go.Proofs.YtcoeakdpcigogaaDoor
open Go.ChangeShapes Go.WideShapes Go.ChangeAt Go.RowKit Go.Sort

/-- The first function with that name, from k on. -/
def findF : List Fn1 → ByteArray → Nat → Int
  | [], _, _ => -1
  | f :: r, s, k => if (f.name.toList == s.toList) = true then k else findF r s (k + 1)
theorem findF_step {l : List Fn1} {s : ByteArray} {k : Nat} (h : k < l.length) : findF (l.drop k) s k = if (l[k].name.toList == s.toList) = true then (k : Int) else findF (l.drop (k + 1)) s (k + 1) := by
  rw [List.drop_eq_getElem_cons h]; rfl

set_option maxRecDepth 100000 in
set_option maxHeartbeats 400000 in
theorem find_any (l : List Fn1) (A : Option Addr) (cap : Nat) (s : ByteArray) (w : World) (hL : LibAt w A l) (hl : l.length ≤ 9223372036854775807) :
    Calls Tryd.prog 38 #[.slice A l.length cap, .string s] w fun e w' => e = .returned (.int .i64 (findF l s 0)) ∧ Below w.heap.size w w' := by
  have HL := Lib.hid hL
  clear hL
  go_enter Tryd.func38, Tryd.ntmps38
  go_wp2
  go_loopw [9] (fun i wr => ∃ k : Nat, k ≤ l.length ∧ i = .int .i64 k ∧ Hid (findF l s 0 = findF (l.drop k) s k) ∧ Below w.heap.size w wr) (fun i _ => l.length - (intOf i).toNat)
  case atStart => exact ⟨0, by omega, rfl, rfl, Below.refl _ _⟩
  case round =>
    obtain ⟨k, hk, rfl, hz, hb⟩ := hrel
    by_cases hin : k < l.length
    · have hz' := Lib.hid (hz.out.trans (findF_step hin))
      obtain ⟨b, o, rfl, hi⟩ := (HL.out.mono hb).at_ hin
      have hlt := hi.lt
      obtain ⟨c0, ⟨A1, cp1, c1, _⟩, c2, hbody⟩ := id hi
      obtain ⟨A3, cp3, d0, d1, d2, d3, _⟩ := hbody.open_
      clear hz hbody
      by_cases he : (l[k].name.toList == s.toList) = true
      · have hf := Lib.hid (hz'.out.trans (if_pos he))
        go_wp2
        go_ret
        exact ⟨ret_i64 hf.out.symm, hb.alloc hb.size _⟩
      · have hf := Lib.hid (hz'.out.trans (if_neg he))
        have he' : (l[k].name.toList == s.toList) = false := by simpa using he
        go_wp2
        exact ⟨⟨k + 1, by omega, by go_num, hf, hb.alloc hb.size _⟩, by simp [intOf]; omega⟩
    · have hz' := Lib.hid (show findF l s 0 = -1 by rw [hz.out, List.drop_of_length_le (by omega)]; rfl)
      clear hz
      go_wp2
      go_ret
      exact ⟨ret_i64 hz'.out.symm, hb⟩

set_option maxRecDepth 100000 in
set_option maxHeartbeats 400000 in
theorem rfind_any (l : List Fn1) (A : Option Addr) (cap : Nat) (s : ByteArray) (w : World) (hL : LibAt w A l) (hl : l.length ≤ 9223372036854775807) :
    Calls Tryd.prog 54 #[.slice A l.length cap, .string s] w fun e w' => e = .returned (.int .i64 (findF l s 0)) ∧ w' = w := by
  have HL := Lib.hid hL
  clear hL
  go_enter Tryd.func54, Tryd.ntmps54
  go_wp2
  go_loop [5] (fun i => ∃ k : Nat, k ≤ l.length ∧ i = .int .i64 k ∧ Hid (findF l s 0 = findF (l.drop k) s k)) (fun i => l.length - (intOf i).toNat)
  case atStart => exact ⟨0, by omega, rfl, rfl⟩
  case round =>
    obtain ⟨k, hk, rfl, hz⟩ := hrel
    by_cases hin : k < l.length
    · have hz' := Lib.hid (hz.out.trans (findF_step hin))
      obtain ⟨b, o, rfl, hi⟩ := HL.out.at_ hin
      have hlt := hi.lt
      obtain ⟨c0, ⟨A1, cp1, c1, _⟩, c2, hbody⟩ := id hi
      clear hz hbody
      by_cases he : (l[k].name.toList == s.toList) = true
      · have hf := Lib.hid (hz'.out.trans (if_pos he))
        go_wp2
        go_ret
        exact ⟨ret_i64 hf.out.symm, rfl⟩
      · have hf := Lib.hid (hz'.out.trans (if_neg he))
        have he' : (l[k].name.toList == s.toList) = false := by simpa using he
        go_wp2
        exact ⟨⟨k + 1, by omega, by go_num, hf⟩, by simp [intOf]; omega⟩
    · have hz' := Lib.hid (show findF l s 0 = -1 by rw [hz.out, List.drop_of_length_le (by omega)]; rfl)
      clear hz
      go_wp2
      go_ret
      exact ⟨ret_i64 hz'.out.symm, rfl⟩

end Go.Proofs.YtcoeakdpcigogaaDoor
