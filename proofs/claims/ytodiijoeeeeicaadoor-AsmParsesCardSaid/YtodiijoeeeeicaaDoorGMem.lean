/-
  Memory: what a call leaves as it was; blocks known whole; rows of the call's own; slices of integers and of strings.
-/
import Derived.Test.YtodiijoeeeeicaaDoorChecked
import Derived.WalkKit
import Derived.ProofKit
import Derived.OpenShut
import Derived.Deep.QuietTactic
import Derived.BigQuiet
import Derived.Outline
import Derived.Lib.Hide
import Derived.Lib.QuietBelow
import Derived.Below
import Derived.Maps.AppendAt
import Derived.Maps.Own
import Derived.Deep.AppendLies
import Derived.Maps.OwnOps
import Derived.Maps.OwnSet
import Derived.StringKeys
import Derived.OneCell
import Derived.RegionTactic
import Derived.OwnWalk
import Derived.Deep.RegionHeld3
import Derived.IntWalk
import Derived.WalkLawsBesides
import Derived.Laws.IdiomStrings
namespace Go.Proofs.YtodiijoeeeeicaaDoor
open Go.ChangeShapes Go.WideShapes Go.ChangeAt Go.RowKit Go.Sort

theorem below_cell {w w' : World} (hb : Below w.heap.size w w') {a : Addr} {v : Value} (h : w.cell? a = some v) : w'.cell? a = some v := by
  rw [hb.cell (block_lt_of_cell h)]; exact h
theorem below_box (w : World) (o : Obj) : Below w.heap.size w (w.alloc o) := (Below.refl _ _).alloc (Nat.le_refl _) _
theorem below_step {B : Nat} {w w1 w2 : World} (h : Below B w w1) (hB : B ≤ w1.heap.size) (h2 : Below w1.heap.size w1 w2) : Below B w w2 := h.trans (h2.mono hB)
theorem ret_bool {a b : Bool} (h : a = b) : Ending.returned (.bool a) = .returned (.bool b) := by rw [h]
theorem ret_i64 {a b : Int} (h : a = b) : Ending.returned (.int .i64 a) = .returned (.int .i64 b) := by rw [h]
theorem add0 (g j : Nat) : (⟨g, 0, none⟩ : Addr).add j = ⟨g, j, none⟩ := by
  unfold Addr.add; by_cases h : j = 0 <;> simp [h]
theorem one_newB {w : World} {B : Nat} (hB : B = w.heap.size) (v : Value) (T : TypeId) : ∀ (j : Nat) (u : Value), [v][j]? = some u → (w.alloc (Obj.cells #[v] T)).cell? ((⟨B, 0, none⟩ : Addr).add j) = some u := by
  subst hB
  intro j u hj
  cases j with
  | zero => simp at hj; subst hj; rw [add0]; simp [go_sem]
  | succ j => simp at hj
theorem own_block_geB {w : World} {base : Nat} {e : TypeId} {size n : Nat} {v : Value} {xs : List Value} (h : w.ownsRow base e size v n xs) : ∀ g, v.ownBlock = some g → base ≤ g := by
  rcases h.2 with ⟨rfl, _⟩ | ⟨g, cap, cur, rfl, hg, _⟩
  · intro g hg; cases hg
  · intro g' hg'; obtain rfl := Option.some.inj hg'; exact hg
theorem info_int : (Tryd.prog.info? 3).map (fun i => (i.zero, i.size, i.bytes)) = some (some (.int .i64 0), 1, 8) := by kernel_rfl
theorem one_i64 (v : Int) : ∀ u : Value, u ∈ [Value.int .i64 v] → u.oneCell' = true := by
  intro u hu; simp at hu; subst hu; rfl
/-- A slice of integers. -/
def IntsAt (w : World) (A : Option Addr) (l : List Int) : Prop :=
  ∀ k x, l[k]? = some x → ∃ b o, A = some ⟨b, o, none⟩ ∧ w.cell? ⟨b, o + k, none⟩ = some (.int .i64 x)
theorem IntsAt.mono {w w' : World} {A : Option Addr} {l : List Int} (h : IntsAt w A l) (hb : Below w.heap.size w w') : IntsAt w' A l := fun k x hk => by
  obtain ⟨b, o, e, h1⟩ := h k x hk
  exact ⟨b, o, e, below_cell hb h1⟩
theorem IntsAt.at_ {w : World} {A : Option Addr} {l : List Int} (h : IntsAt w A l) {k : Nat} (hk : k < l.length) : ∃ b o, A = some ⟨b, o, none⟩ ∧ w.cell? ⟨b, o + k, none⟩ = some (.int .i64 l[k]) :=
  h k l[k] (List.getElem?_eq_getElem hk)
theorem ints_of_own {w : World} {base : Nat} {e : TypeId} {v : Value} {l : List Int} (h : w.ownsRow base e 1 v l.length (l.map (Value.int .i64))) : ∃ A c, v = .slice A l.length c ∧ IntsAt w A l := by
  obtain ⟨h1, h2⟩ := id h
  rcases h2 with ⟨rfl, h0⟩ | ⟨g, cap, cur, rfl, hg, hh, hc1, hc2, hc3, hc4⟩
  · refine ⟨none, 0, by rw [h0], fun k x hk => ?_⟩
    have : l = [] := List.length_eq_zero_iff.1 h0
    subst this; simp at hk
  · refine ⟨some ⟨g, 0, none⟩, cap, rfl, fun k x hk => ⟨g, 0, rfl, ?_⟩⟩
    have := h.cells (g := g) rfl k (.int .i64 x) (by simp [hk])
    rw [add0] at this; simpa using this
theorem grown_of_below {w w' : World} (h : Below w.heap.size w w') (r : Option Nat) : w.grownBy w' r :=
  ⟨h.os, h.tape, h.output, h.size, fun k hk _ => h.block k hk⟩
theorem grown_trans {w w1 w2 : World} {r : Option Nat} (h : w.grownBy w1 r) (h2 : w1.grownBy w2 r) : w.grownBy w2 r :=
  ⟨h2.os.trans h.os, h2.tape.trans h.tape, h2.output.trans h.output, Nat.le_trans h.size h2.size, fun k hk hne => (h2.block k (Nat.lt_of_lt_of_le hk h.size) hne).trans (h.block k hk hne)⟩
theorem grown_cell {w w' : World} {r : Option Nat} (h : w.grownBy w' r) {a : Addr} {v : Value} (hc : w.cell? a = some v) (hne : some a.block ≠ r) : w'.cell? a = some v := by
  rw [h.cell_far a (block_lt_of_cell hc) hne]; exact hc
theorem own_formB {w : World} {base : Nat} {e : TypeId} {size n : Nat} {v : Value} {xs : List Value} (h : w.ownsRow base e size v n xs) : ∃ A c, v = .slice A n c ∧ n ≤ c ∧ (0 < n → ∃ g, A = some ⟨g, 0, none⟩ ∧ base ≤ g) := by
  rcases h.2 with ⟨rfl, rfl⟩ | ⟨g, cap, cur, rfl, hg, _, hc, _⟩
  · exact ⟨none, 0, rfl, Nat.le_refl _, fun h => absurd h (by omega)⟩
  · exact ⟨_, cap, rfl, hc, fun _ => ⟨g, rfl, hg⟩⟩
theorem own_keep {w w' : World} {base : Nat} {e : TypeId} {size n : Nat} {v : Value} {xs : List Value} {bm : Nat} (h : w.ownsRow base e size v n xs) (hg : w.grownBy w' (some bm)) (hlt : bm < base) : w'.ownsRow base e size v n xs := by
  by_cases hn : v.ownBlock = none
  · exact h.kept hg (.inl hn)
  · refine h.kept hg (.inr fun e => ?_)
    have := own_block_geB h bm e; omega
/-- The cells of a slice, nil let in. -/
def CellsAt (w : World) (A : Option Addr) (xs : List Value) : Prop := ∀ (j : Nat) (u : Value), xs[j]? = some u → ∃ b o, A = some ⟨b, o, none⟩ ∧ w.cell? ⟨b, o + j, none⟩ = some u
theorem CellsAt.mono {w w' : World} {A : Option Addr} {xs : List Value} (h : CellsAt w A xs) (hb : Below w.heap.size w w') : CellsAt w' A xs := fun j u hu => by
  obtain ⟨b, o, e, h1⟩ := h j u hu
  exact ⟨b, o, e, below_cell hb h1⟩
theorem IntsAt.cells {w : World} {A : Option Addr} {l : List Int} (h : IntsAt w A l) : CellsAt w A (l.map (Value.int .i64)) := fun j u hu => by
  rw [List.getElem?_map] at hu
  obtain ⟨x, hx, rfl⟩ := Option.map_eq_some_iff.1 hu
  exact h j x hx

section
variable {P : Program} (w : World)

/-- append(v, s...) where v is a row of the call's own. -/
theorem run_app (base : Nat) (t ty e : TypeId) (i : TypeInfo) (z : Value) (size bytes : Nat) (ht : P.underlying t = some (.slice e)) (hi : P.info? e = some i) (hz : i.zero = some z)
    (hsize : i.size = size) (hby : i.bytes = bytes) (hzs : z.cells.size = size) (hsz : 0 < size) (v : Value) (n : Nat) (xs : List Value) (hown : w.ownsRow base e size v n xs)
    (A : Option Addr) (m c : Nat) (news : List Value) (hl : news.length = m * size) (hr : CellsAt w A news) (h1 : ∀ u ∈ news, u.oneCell' = true)
    (h63 : n + m ≤ maxLen) (hbytes : (n + m) * bytes ≤ 140737488355328) (hbase : base ≤ w.heap.size) :
    ∃ v' w', (Builtin.append_ #[t, t] ty #[v, .slice A m c]).run P w = .ok v' w' ∧ w'.ownsRow base e size v' (n + m) (xs ++ news) ∧ w.grownBy w' v.ownBlock ∧ (v'.ownBlock = v.ownBlock ∨ v'.ownBlock = some w.heap.size) := by
  cases A with
  | none =>
    have hn : news = [] := by
      cases news with
      | nil => rfl
      | cons u r => obtain ⟨b, o, e, _⟩ := hr 0 u rfl; cases e
    subst hn
    have hm : m = 0 := by
      rcases Nat.eq_zero_or_pos m with h0 | h0
      · exact h0
      · have := Nat.mul_pos h0 hsz; simp at hl; omega
    subst hm
    refine ⟨v, w, ?_, by simpa using hown, ⟨rfl, rfl, rfl, Nat.le_refl _, fun _ _ _ => rfl⟩, .inl rfl⟩
    rcases hown.2 with ⟨rfl, rfl⟩ | ⟨g, cap, cur, rfl, _, _, hnc, _⟩
    · simp [Builtin.append_, run_underlying ht, sizeOf, typeInfo, hi, Builtin.lenOf, Builtin.firstCells]
    · simp [Builtin.append_, run_underlying ht, sizeOf, typeInfo, hi, Builtin.lenOf, Builtin.firstCells, hnc, storeCells]
  | some ad =>
    obtain ⟨v', w', r1, r2, r3, _, r5⟩ := run_append_own_at (P := P) w base t ty e i z size bytes ht hi hz hsize hby hzs hsz v n xs hown ad m c news hl (fun j u hu => by
      obtain ⟨b, o, e, hc⟩ := hr j u hu
      have := Option.some.inj e
      subst this
      have e2 : (⟨b, o, none⟩ : Addr).add j = ⟨b, o + j, none⟩ := by unfold Addr.add; by_cases h : j = 0 <;> simp [h]
      rw [e2]; exact hc) h1 h63 hbytes hbase
    exact ⟨v', w', r1, r2, r3, r5⟩

theorem wp_app {o : Oper} {a : Act} {K : Act → World → Prop} {Q : Exit → Act → World → Prop} (s x : Operand) (t : TypeId)
    (ho : o.op = .call { callee := .builtin .append, args := #[s, x], argTypes := #[t, t] })
    (base : Nat) (e : TypeId) (i : TypeInfo) (z : Value) (size bytes : Nat) (ht : P.underlying t = some (.slice e)) (hi : P.info? e = some i) (hz : i.zero = some z)
    (hsize : i.size = size) (hby : i.bytes = bytes) (hzs : z.cells.size = size) (hsz : 0 < size) (v : Value) (n : Nat) (xs : List Value) (hs : a.eval s = v) (hown : w.ownsRow base e size v n xs)
    (A : Option Addr) (m c : Nat) (news : List Value) (hx : a.eval x = .slice A m c) (hl : news.length = m * size) (hr : CellsAt w A news) (h1 : ∀ u ∈ news, u.oneCell' = true)
    (h63 : n + m ≤ maxLen) (hbytes : (n + m) * bytes ≤ 140737488355328) (hbase : base ≤ w.heap.size)
    (h : ∀ v' w', w'.ownsRow base e size v' (n + m) (xs ++ news) → w.grownBy w' v.ownBlock → (v'.ownBlock = v.ownBlock ∨ v'.ownBlock = some w.heap.size) → K (a.put o.dst v') w') : o.wp P a w K Q := by
  obtain ⟨v', w', hrun, h2, h3, h4⟩ := run_app (P := P) w base t o.type e i z size bytes ht hi hz hsize hby hzs hsz v n xs hown A m c news hl hr h1 h63 hbytes hbase
  unfold Oper.wp execOp
  simp only [ho, resolve, invoke, builtin, Sem.run_bind, Sem.run_pure, Result.andThen_ok, List.map_toArray, List.map_cons, List.map_nil, hs, hx, hrun]
  exact h v' w' h2 h3 h4

theorem wpList_app {ops : Array Oper} {rest : List Oper} {o : Oper} {a : Act} {Q : Exit → Act → World → Prop} (hgd : o.guard = none) (s x : Operand) (t : TypeId)
    (ho : o.op = .call { callee := .builtin .append, args := #[s, x], argTypes := #[t, t] })
    (base : Nat) (e : TypeId) (i : TypeInfo) (z : Value) (size bytes : Nat) (ht : P.underlying t = some (.slice e)) (hi : P.info? e = some i) (hz : i.zero = some z)
    (hsize : i.size = size) (hby : i.bytes = bytes) (hzs : z.cells.size = size) (hsz : 0 < size) (v : Value) (n : Nat) (xs : List Value) (hs : a.eval s = v) (hown : w.ownsRow base e size v n xs)
    (A : Option Addr) (m c : Nat) (news : List Value) (hx : a.eval x = .slice A m c) (hl : news.length = m * size) (hr : CellsAt w A news) (h1 : ∀ u ∈ news, u.oneCell' = true)
    (h63 : n + m ≤ maxLen) (hbytes : (n + m) * bytes ≤ 140737488355328) (hbase : base ≤ w.heap.size)
    (h : ∀ v' w', w'.ownsRow base e size v' (n + m) (xs ++ news) → w.grownBy w' v.ownBlock → (v'.ownBlock = v.ownBlock ∨ v'.ownBlock = some w.heap.size) → wpList P ops Q rest (a.put o.dst v') w') : wpList P ops Q (o :: rest) a w :=
  wpList_plain hgd fun _ hK => wp_app w s x t ho base e i z size bytes ht hi hz hsize hby hzs hsz v n xs hs hown A m c news hx hl hr h1 h63 hbytes hbase fun v' w' h2 h3 h4 => hK _ _ (h v' w' h2 h3 h4)

theorem step_app {ops : Array Oper} {o : Oper} {a : Act} {K : Act → World → Prop} {Q : Exit → Act → World → Prop} {E : Prop} (hgd : o.guard = none) (s x : Operand) (t : TypeId)
    (ho : o.op = .call { callee := .builtin .append, args := #[s, x], argTypes := #[t, t] })
    (base : Nat) (e : TypeId) (i : TypeInfo) (z : Value) (size bytes : Nat) (ht : P.underlying t = some (.slice e)) (hi : P.info? e = some i) (hz : i.zero = some z)
    (hsize : i.size = size) (hby : i.bytes = bytes) (hzs : z.cells.size = size) (hsz : 0 < size) (v : Value) (n : Nat) (xs : List Value) (hs : a.eval s = v) (hown : w.ownsRow base e size v n xs)
    (A : Option Addr) (m c : Nat) (news : List Value) (hx : a.eval x = .slice A m c) (hl : news.length = m * size) (hr : CellsAt w A news) (h1 : ∀ u ∈ news, u.oneCell' = true)
    (h63 : n + m ≤ maxLen) (hbytes : (n + m) * bytes ≤ 140737488355328) (hbase : base ≤ w.heap.size)
    (h : ∀ v' w', w'.ownsRow base e size v' (n + m) (xs ++ news) → w.grownBy w' v.ownBlock → (v'.ownBlock = v.ownBlock ∨ v'.ownBlock = some w.heap.size) → K (a.put o.dst v') w') :
    if Region.wanted o (yielded ops a.tmps) = true then Oper.wp P o a w K Q else E := by
  have hw : Region.wanted o (yielded ops a.tmps) = true := by simp [Region.wanted, hgd]
  rw [if_pos hw]
  exact wp_app w s x t ho base e i z size bytes ht hi hz hsize hby hzs hsz v n xs hs hown A m c news hx hl hr h1 h63 hbytes hbase h
end

theorem ints_one (l : List Int) : ∀ u : Value, u ∈ l.map (Value.int .i64) → u.oneCell' = true := by
  intro u hu
  obtain ⟨x, _, rfl⟩ := List.mem_map.1 hu
  rfl
theorem own_below {w w' : World} {base : Nat} {e : TypeId} {size n : Nat} {v : Value} {xs : List Value} (h : w.ownsRow base e size v n xs) (hb : Below w.heap.size w w') : w'.ownsRow base e size v n xs :=
  h.kept (row := none) (grown_of_below hb none) (by cases v.ownBlock <;> simp)
theorem own_empty (w : World) {e : TypeId} {size : Nat} : (w.alloc (Obj.cells #[] e)).ownsRow w.heap.size e size (.slice (some ⟨w.heap.size, 0, none⟩) 0 0) 0 [] :=
  ⟨by simp, .inr ⟨w.heap.size, 0, #[], rfl, Nat.le_refl _, heap_alloc_new w _, Nat.le_refl _, by simp [maxLen], by simp, by simp⟩⟩
theorem two_box (w : World) (o1 o2 : Obj) : Below w.heap.size w ((w.alloc o1).alloc o2) := ((Below.refl _ _).alloc (Nat.le_refl _) _).alloc (by simp) _
theorem below_drewN {B : Nat} {a w : World} (h : Below B a w) (n : Nat) : Below B a (w.drewN n) := ⟨h.os, h.tape, h.output, h.size, h.block⟩
theorem belowDrawn {B : Nat} {a w : World} (h : Below B a w) : Below B a w.drew := h.drew
theorem below_set3 {B : Nat} {a w : World} (h : Below B a w) {b : Nat} (hb : B ≤ b) (v0 v1 v2 : Value) : Below B a (((w.setCell ⟨b, 0, none⟩ v0).setCell ⟨b, 1, none⟩ v1).setCell ⟨b, 2, none⟩ v2) := ((h.setCell (p := ⟨b, 0, none⟩) hb v0).setCell (p := ⟨b, 1, none⟩) hb v1).setCell (p := ⟨b, 2, none⟩) hb v2
theorem lone {α : Type} {l : List α} (h : l.length = 1) : ∃ a, l = [a] := by
  match l, h with
  | [a], _ => exact ⟨a, rfl⟩
theorem ltwo {α : Type} {l : List α} (h : l.length = 2) : ∃ a b, l = [a, b] := by
  match l, h with
  | [a, b], _ => exact ⟨a, b, rfl⟩
/-- Only blocks of m have turned, and new ones have come. -/
structure Fr (w w' : World) (m : Nat → Prop) : Prop where
  os : w'.os = w.os
  tape : w'.tape = w.tape
  output : w'.output = w.output
  size : w.heap.size ≤ w'.heap.size
  block : ∀ k, k < w.heap.size → ¬ m k → w'.heap[k]? = w.heap[k]?
theorem Fr.refl (w : World) (m : Nat → Prop) : Fr w w m := ⟨rfl, rfl, rfl, Nat.le_refl _, fun _ _ _ => rfl⟩
theorem Fr.of_below {w w' : World} (h : Below w.heap.size w w') (m : Nat → Prop) : Fr w w' m := ⟨h.os, h.tape, h.output, h.size, fun k hk _ => h.block k hk⟩
theorem Fr.mono {w w' : World} {m m' : Nat → Prop} (h : Fr w w' m) (hm : ∀ k, k < w.heap.size → m k → m' k) : Fr w w' m' :=
  ⟨h.os, h.tape, h.output, h.size, fun k hk hn => h.block k hk fun e => hn (hm k hk e)⟩
theorem Fr.trans {w w1 w2 : World} {m m2 : Nat → Prop} (h : Fr w w1 m) (h2 : Fr w1 w2 m2) (hm : ∀ k, k < w.heap.size → m2 k → m k) : Fr w w2 m :=
  ⟨h2.os.trans h.os, h2.tape.trans h.tape, h2.output.trans h.output, Nat.le_trans h.size h2.size, fun k hk hn => (h2.block k (Nat.lt_of_lt_of_le hk h.size) fun e => hn (hm k hk e)).trans (h.block k hk hn)⟩
theorem Fr.below {W0 w w' : World} {m : Nat → Prop} (h : Fr w w' m) (hb : Below W0.heap.size W0 w) (hm : ∀ k, m k → W0.heap.size ≤ k) : Below W0.heap.size W0 w' :=
  ⟨h.os.trans hb.os, h.tape.trans hb.tape, h.output.trans hb.output, Nat.le_trans hb.size h.size, fun k hk => (h.block k (Nat.lt_of_lt_of_le hk hb.size) fun e => by have := hm k e; omega).trans (hb.block k hk)⟩
theorem Fr.cell {w w' : World} {m : Nat → Prop} (h : Fr w w' m) {a : Addr} {v : Value} (hc : w.cell? a = some v) (hn : ¬ m a.block) : w'.cell? a = some v := by
  rw [World.cell?_of_block (h.block a.block (block_lt_of_cell hc) hn)]; exact hc
theorem Fr.of_grown {w w' : World} {r : Option Nat} (h : w.grownBy w' r) : Fr w w' (fun k => some k = r) := ⟨h.os, h.tape, h.output, h.size, fun k hk hn => h.block k hk hn⟩
theorem Fr.of_set (w : World) (a : Addr) (u : Value) : Fr w (w.setCell a u) (fun k => k = a.block) :=
  ⟨rfl, rfl, rfl, by simp, fun k _ hn => Below.heap_setCell _ _ _ _ hn⟩
theorem Fr.of_turned {w w' : World} {b : Nat} (h : w.mapTurned w' b) : Fr w w' (fun k => k = b) := (Fr.of_grown h.grown).mono fun _ _ e => Option.some.inj e
theorem Fr.own {w w' : World} {m : Nat → Prop} (h : Fr w w' m) {base : Nat} {e : TypeId} {size n : Nat} {v : Value} {xs : List Value} (ho : w.ownsRow base e size v n xs) (hn : ∀ g, v.ownBlock = some g → ¬ m g) : w'.ownsRow base e size v n xs := by
  obtain ⟨h1, h2⟩ := ho
  refine ⟨h1, ?_⟩
  rcases h2 with h2 | ⟨g, cap, cur, rfl, hg, hc, hr⟩
  · exact .inl h2
  · exact .inr ⟨g, cap, cur, rfl, hg, (h.block g (Array.getElem?_eq_some_iff.1 hc).1 (hn g rfl)).trans hc, hr⟩

/-! ### Blocks known whole -/
/-- Block b holds just these cells and may be written. -/
def Bx (w : World) (b : Nat) (cs : Array Value) : Prop := ∃ T, w.heap[b]? = some (.cells cs T (0, 0))
theorem Bx.lt {w : World} {b : Nat} {cs : Array Value} (h : Bx w b cs) : b < w.heap.size := by
  obtain ⟨T, h⟩ := h; exact lt_of_block h
theorem Bx.cell {w : World} {b : Nat} {cs : Array Value} (h : Bx w b cs) {j : Nat} {v : Value} (hj : cs[j]? = some v) : w.cell? ⟨b, j, none⟩ = some v := by
  obtain ⟨T, h⟩ := h; simp [World.cell?, h, hj]
theorem Bx.free {w : World} {b : Nat} {cs : Array Value} (h : Bx w b cs) (j : Nat) : w.frozen? ⟨b, j, none⟩ = false := by
  obtain ⟨T, h⟩ := h; simp [World.frozen?, h]
theorem Bx.fr {w w' : World} {b : Nat} {cs : Array Value} (h : Bx w b cs) {m : Nat → Prop} (hf : Fr w w' m) (hn : ¬ m b) : Bx w' b cs := by
  have hl := h.lt
  obtain ⟨T, h⟩ := h; exact ⟨T, (hf.block b hl hn).trans h⟩
theorem Bx.below {w w' : World} {b : Nat} {cs : Array Value} (h : Bx w b cs) (hb : Below w.heap.size w w') : Bx w' b cs := h.fr (Fr.of_below hb fun _ => False) id
theorem Bx.set {w : World} {b : Nat} {cs : Array Value} (h : Bx w b cs) (j : Nat) (u : Value) : Bx (w.setCell ⟨b, j, none⟩ u) b (cs.setIfInBounds j u) := by
  have hlt := h.lt
  obtain ⟨T, h⟩ := h
  have h' : w.heap[b] = .cells cs T (0, 0) := by simpa [Array.getElem?_eq_getElem hlt] using h
  refine ⟨T, ?_⟩
  show (w.heap.modify b _)[b]? = _
  rw [Array.getElem?_eq_getElem (by simpa using hlt), Array.getElem_modify_self, h']
  rfl
theorem bx_new (w : World) (cs : Array Value) (T : TypeId) : Bx (w.alloc (Obj.cells cs T)) w.heap.size cs := ⟨T, heap_alloc_new w _⟩
theorem Bx.three {w : World} {b : Nat} {u0 u1 u2 : Value} (h : Bx w b #[u0, u1, u2]) : w.cell? ⟨b, 0, none⟩ = some u0 ∧ w.cell? ⟨b, 1, none⟩ = some u1 ∧ w.cell? ⟨b, 2, none⟩ = some u2 ∧ w.frozen? ⟨b, 0, none⟩ = false ∧ w.frozen? ⟨b, 1, none⟩ = false ∧ w.frozen? ⟨b, 2, none⟩ = false :=
  ⟨h.cell rfl, h.cell rfl, h.cell rfl, h.free 0, h.free 1, h.free 2⟩
theorem Bx.four {w : World} {b : Nat} {u0 u1 u2 u3 : Value} (h : Bx w b #[u0, u1, u2, u3]) : w.cell? ⟨b, 0, none⟩ = some u0 ∧ w.cell? ⟨b, 1, none⟩ = some u1 ∧ w.cell? ⟨b, 2, none⟩ = some u2 ∧ w.cell? ⟨b, 3, none⟩ = some u3 ∧ w.frozen? ⟨b, 0, none⟩ = false ∧ w.frozen? ⟨b, 1, none⟩ = false ∧ w.frozen? ⟨b, 2, none⟩ = false ∧ w.frozen? ⟨b, 3, none⟩ = false :=
  ⟨h.cell rfl, h.cell rfl, h.cell rfl, h.cell rfl, h.free 0, h.free 1, h.free 2, h.free 3⟩
theorem Bx.six {w : World} {b : Nat} {u0 u1 u2 u3 u4 u5 : Value} (h : Bx w b #[u0, u1, u2, u3, u4, u5]) : (w.cell? ⟨b, 0, none⟩ = some u0 ∧ w.cell? ⟨b, 1, none⟩ = some u1 ∧ w.cell? ⟨b, 2, none⟩ = some u2 ∧ w.cell? ⟨b, 3, none⟩ = some u3 ∧ w.cell? ⟨b, 4, none⟩ = some u4 ∧ w.cell? ⟨b, 5, none⟩ = some u5) ∧ w.frozen? ⟨b, 0, none⟩ = false ∧ w.frozen? ⟨b, 1, none⟩ = false ∧ w.frozen? ⟨b, 2, none⟩ = false ∧ w.frozen? ⟨b, 3, none⟩ = false ∧ w.frozen? ⟨b, 4, none⟩ = false ∧ w.frozen? ⟨b, 5, none⟩ = false :=
  ⟨⟨h.cell rfl, h.cell rfl, h.cell rfl, h.cell rfl, h.cell rfl, h.cell rfl⟩, h.free 0, h.free 1, h.free 2, h.free 3, h.free 4, h.free 5⟩
theorem Bx.set3 {w : World} {b : Nat} {u0 u1 u2 : Value} (h : Bx w b #[u0, u1, u2]) (v0 v1 v2 : Value) : Bx (((w.setCell ⟨b, 0, none⟩ v0).setCell ⟨b, 1, none⟩ v1).setCell ⟨b, 2, none⟩ v2) b #[v0, v1, v2] :=
  ((h.set 0 v0).set 1 v1).set 2 v2
theorem Bx.set6 {w : World} {b : Nat} {u0 u1 u2 u3 u4 u5 : Value} (h : Bx w b #[u0, u1, u2, u3, u4, u5]) (v0 v1 v2 v3 v4 v5 : Value) : Bx ((((((w.setCell ⟨b, 0, none⟩ v0).setCell ⟨b, 1, none⟩ v1).setCell ⟨b, 2, none⟩ v2).setCell ⟨b, 3, none⟩ v3).setCell ⟨b, 4, none⟩ v4).setCell ⟨b, 5, none⟩ v5) b #[v0, v1, v2, v3, v4, v5] :=
  (((((h.set 0 v0).set 1 v1).set 2 v2).set 3 v3).set 4 v4).set 5 v5
theorem Fr.set3 (w : World) (b : Nat) (v0 v1 v2 : Value) : Fr w (((w.setCell ⟨b, 0, none⟩ v0).setCell ⟨b, 1, none⟩ v1).setCell ⟨b, 2, none⟩ v2) (fun k => k = b) :=
  ((Fr.of_set w ⟨b, 0, none⟩ v0).trans (Fr.of_set _ ⟨b, 1, none⟩ v1) fun _ _ e => e).trans (Fr.of_set _ ⟨b, 2, none⟩ v2) fun _ _ e => e
theorem Fr.set6 (w : World) (b : Nat) (v0 v1 v2 v3 v4 v5 : Value) : Fr w ((((((w.setCell ⟨b, 0, none⟩ v0).setCell ⟨b, 1, none⟩ v1).setCell ⟨b, 2, none⟩ v2).setCell ⟨b, 3, none⟩ v3).setCell ⟨b, 4, none⟩ v4).setCell ⟨b, 5, none⟩ v5) (fun k => k = b) :=
  ((((((Fr.of_set w ⟨b, 0, none⟩ v0).trans (Fr.of_set _ ⟨b, 1, none⟩ v1) fun _ _ e => e).trans (Fr.of_set _ ⟨b, 2, none⟩ v2) fun _ _ e => e).trans (Fr.of_set _ ⟨b, 3, none⟩ v3) fun _ _ e => e).trans (Fr.of_set _ ⟨b, 4, none⟩ v4) fun _ _ e => e).trans (Fr.of_set _ ⟨b, 5, none⟩ v5) fun _ _ e => e)
theorem Fr.toBelow {w w' : World} {B : Nat} {W : World} {m : Nat → Prop} (h : Fr w w' m) (hb : Below B W w) (hB : B ≤ w.heap.size) (hm : ∀ k, m k → B ≤ k) : Below B W w' :=
  ⟨h.os.trans hb.os, h.tape.trans hb.tape, h.output.trans hb.output, Nat.le_trans hb.size h.size, fun k hk => (h.block k (Nat.lt_of_lt_of_le hk hB) fun e => by have := hm k e; omega).trans (hb.block k hk)⟩

theorem Bx.one {w : World} {b : Nat} {u0 : Value} (h : Bx w b #[u0]) : w.cell? ⟨b, 0, none⟩ = some u0 ∧ w.frozen? ⟨b, 0, none⟩ = false := ⟨h.cell rfl, h.free 0⟩

/-- Cells of elements, one after the other. -/
inductive RowG {α : Type} (C : List Value → α → Prop) : List Value → List α → Prop
  | nil : RowG C [] []
  | snoc {cs : List Value} {l : List α} {c : List Value} {x : α} (h : RowG C cs l) (hc : C c x) : RowG C (cs ++ c) (l ++ [x])
theorem RowG.map {α : Type} {C C' : List Value → α → Prop} (hC : ∀ c x, C c x → C' c x) {cs : List Value} {l : List α} (h : RowG C cs l) : RowG C' cs l := by
  induction h with
  | nil => exact .nil
  | snoc _ h7 ih => exact .snoc ih (hC _ _ h7)
theorem RowG.len {α : Type} {C : List Value → α → Prop} {s : Nat} (hC : ∀ c x, C c x → c.length = s) {cs : List Value} {l : List α} (h : RowG C cs l) : cs.length = l.length * s := by
  induction h with
  | nil => simp
  | snoc _ h7 ih => rw [List.length_append, ih, hC _ _ h7, List.length_append, List.length_singleton, Nat.add_mul, Nat.one_mul]
theorem RowG.one {α : Type} {C : List Value → α → Prop} (hC : ∀ c x, C c x → ∀ u ∈ c, u.oneCell' = true) {cs : List Value} {l : List α} (h : RowG C cs l) : ∀ u ∈ cs, u.oneCell' = true := by
  induction h with
  | nil => intro u hu; simp at hu
  | snoc _ h7 ih =>
    intro u hu
    rcases List.mem_append.1 hu with h | h
    · exact ih u h
    · exact hC _ _ h7 u h
theorem RowG.get {α : Type} {C : List Value → α → Prop} {s : Nat} (hC : ∀ c x, C c x → c.length = s) {cs : List Value} {l : List α} (h : RowG C cs l) : ∀ (k : Nat) (f : α), l[k]? = some f → ∃ c7, C c7 f ∧ ∀ j, j < s → cs[k * s + j]? = c7[j]? := by
  induction h with
  | nil => intro k f hk; simp at hk
  | @snoc cs l c7 f hr h7 ih =>
    intro k g hk
    have hl := hr.len hC
    by_cases hlt : k < l.length
    · rw [List.getElem?_append_left hlt] at hk
      obtain ⟨c, h1, h2⟩ := ih k g hk
      refine ⟨c, h1, fun j hj => ?_⟩
      have : k * s + j < l.length * s := by
        have : (k + 1) * s ≤ l.length * s := Nat.mul_le_mul_right s hlt
        rw [Nat.add_mul, Nat.one_mul] at this; omega
      rw [List.getElem?_append_left (by omega)]
      exact h2 j hj
    · have hkl : k = l.length := by
        have := (List.getElem?_eq_some_iff.1 hk).1
        simp at this; omega
      subst hkl
      rw [List.getElem?_append_right (Nat.le_refl _)] at hk
      simp at hk
      subst hk
      refine ⟨c7, h7, fun j hj => ?_⟩
      rw [List.getElem?_append_right (by omega), hl]
      congr 1; omega


theorem cells_newU (w : World) {C : Nat} (hC : w.heap.size = C) (cs : List Value) (T : TypeId) : CellsAt (w.alloc (Obj.cells cs.toArray T)) (some ⟨C, 0, none⟩) cs := fun j u hu => ⟨C, 0, rfl, by
  subst hC
  rw [Nat.zero_add]
  exact (show Bx (w.alloc (Obj.cells cs.toArray T)) w.heap.size cs.toArray from bx_new w _ T).cell (by simpa using hu)⟩
theorem cellsAt_drew {w : World} {A : Option Addr} {cs : List Value} (h : CellsAt w A cs) : CellsAt w.drew A cs := h
theorem cellsAt_grown {w w' : World} {C : Nat} {cs : List Value} {r : Option Nat} (h : CellsAt w (some ⟨C, 0, none⟩) cs) (hg : w.grownBy w' r) (hn : ∀ g, r = some g → g ≠ C) : CellsAt w' (some ⟨C, 0, none⟩) cs := fun j u hu => by
  obtain ⟨b, o, e, h1⟩ := h j u hu
  cases e
  exact ⟨C, 0, rfl, (Fr.of_grown hg).cell h1 (fun e => hn _ e.symm rfl)⟩
theorem own_emptyU {W : World} {B C : Nat} (hB : W.heap.size = C) (hC : B ≤ C) (e : TypeId) {size : Nat} : (W.alloc (Obj.cells #[] e)).ownsRow B e size (.slice (some ⟨C, 0, none⟩) 0 0) 0 [] := by
  subst hB
  exact ⟨by simp, .inr ⟨W.heap.size, 0, #[], rfl, hC, heap_alloc_new W _, Nat.le_refl _, by simp [maxLen], by simp, by simp⟩⟩
/-- A slice of strings. -/
def StrsAt (w : World) (A : Option Addr) (l : List ByteArray) : Prop :=
  ∀ k x, l[k]? = some x → ∃ b o, A = some ⟨b, o, none⟩ ∧ w.cell? ⟨b, o + k, none⟩ = some (.string x)
theorem StrsAt.mono {w w' : World} {A : Option Addr} {l : List ByteArray} (h : StrsAt w A l) (hb : Below w.heap.size w w') : StrsAt w' A l := fun k x hk => by
  obtain ⟨b, o, e, h1⟩ := h k x hk
  exact ⟨b, o, e, below_cell hb h1⟩
theorem StrsAt.at_ {w : World} {A : Option Addr} {l : List ByteArray} (h : StrsAt w A l) {k : Nat} (hk : k < l.length) : ∃ b o, A = some ⟨b, o, none⟩ ∧ w.cell? ⟨b, o + k, none⟩ = some (.string l[k]) :=
  h k l[k] (List.getElem?_eq_getElem hk)
theorem strs_of_own {w : World} {base : Nat} {e : TypeId} {v : Value} {l : List ByteArray} (h : w.ownsRow base e 1 v l.length (l.map Value.string)) : ∃ A c, v = .slice A l.length c ∧ l.length ≤ c ∧ StrsAt w A l := by
  obtain ⟨h1, h2⟩ := id h
  rcases h2 with ⟨rfl, h0⟩ | ⟨g, cap, cur, rfl, hg, hh, hc1, hc2, hc3, hc4⟩
  · refine ⟨none, 0, by rw [h0], by omega, fun k x hk => ?_⟩
    have : l = [] := List.length_eq_zero_iff.1 h0
    subst this; simp at hk
  · refine ⟨some ⟨g, 0, none⟩, cap, rfl, hc1, fun k x hk => ⟨g, 0, rfl, ?_⟩⟩
    have := h.cells (g := g) rfl k (.string x) (by simp [hk])
    rw [add0] at this; simpa using this
theorem strs_one (l : List ByteArray) : ∀ u : Value, u ∈ l.map Value.string → u.oneCell' = true := by
  intro u hu
  obtain ⟨x, _, rfl⟩ := List.mem_map.1 hu
  rfl
theorem StrsAt.cells {w : World} {A : Option Addr} {l : List ByteArray} (h : StrsAt w A l) : CellsAt w A (l.map Value.string) := fun j u hu => by
  rw [List.getElem?_map] at hu
  obtain ⟨x, hx, rfl⟩ := Option.map_eq_some_iff.1 hu
  exact h j x hx
theorem one_str (v : ByteArray) : ∀ u : Value, u ∈ [Value.string v] → u.oneCell' = true := by
  intro u hu; simp at hu; subst hu; rfl
theorem info_str : (Tryd.prog.info? 9).map (fun i => (i.zero, i.size, i.bytes)) = some (some (.string ⟨#[]⟩), 1, 16) := by kernel_rfl

end Go.Proofs.YtodiijoeeeeicaaDoor
