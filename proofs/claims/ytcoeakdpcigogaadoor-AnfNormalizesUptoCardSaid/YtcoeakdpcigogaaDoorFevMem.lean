/-
  Memory of an evaluation: what turns and what stays; values and call trees that lie outside of some blocks.
-/
import Derived.Test.YtcoeakdpcigogaaDoorFevPlain
import Derived.Test.YtcoeakdpcigogaaDoorFunAppG
namespace Go.Proofs.YtcoeakdpcigogaaDoor
open Go.ChangeShapes Go.WideShapes Go.ChangeAt Go.RowKit Go.Sort

/-- Only blocks of m have turned, and new ones have come. -/
structure Fr (w w' : World) (m : Nat → Prop) : Prop where
  os : w'.os = w.os
  tape : w'.tape = w.tape
  output : w'.output = w.output
  size : w.heap.size ≤ w'.heap.size
  block : ∀ k, k < w.heap.size → ¬ m k → w'.heap[k]? = w.heap[k]?
theorem Fr.refl (w : World) (m : Nat → Prop) : Fr w w m := ⟨rfl, rfl, rfl, Nat.le_refl _, fun _ _ _ => rfl⟩
theorem Fr.of_below {w w' : World} (h : Below w.heap.size w w') (m : Nat → Prop) : Fr w w' m := ⟨h.os, h.tape, h.output, h.size, fun k hk _ => h.block k hk⟩
theorem Fr.mono {w w' : World} {m m' : Nat → Prop} (h : Fr w w' m) (hm : ∀ k, k < w.heap.size → m k → m' k) : Fr w w' m' :=
  ⟨h.os, h.tape, h.output, h.size, fun k hk hn => h.block k hk fun e => hn (hm k hk e)⟩
theorem Fr.trans {w w1 w2 : World} {m m2 : Nat → Prop} (h : Fr w w1 m) (h2 : Fr w1 w2 m2) (hm : ∀ k, k < w.heap.size → m2 k → m k) : Fr w w2 m :=
  ⟨h2.os.trans h.os, h2.tape.trans h.tape, h2.output.trans h.output, Nat.le_trans h.size h2.size, fun k hk hn => (h2.block k (Nat.lt_of_lt_of_le hk h.size) fun e => hn (hm k hk e)).trans (h.block k hk hn)⟩
theorem Fr.below {W0 w w' : World} {m : Nat → Prop} (h : Fr w w' m) (hb : Below W0.heap.size W0 w) (hm : ∀ k, m k → W0.heap.size ≤ k) : Below W0.heap.size W0 w' :=
  ⟨h.os.trans hb.os, h.tape.trans hb.tape, h.output.trans hb.output, Nat.le_trans hb.size h.size, fun k hk => (h.block k (Nat.lt_of_lt_of_le hk hb.size) fun e => by have := hm k e; omega).trans (hb.block k hk)⟩
theorem Fr.cell {w w' : World} {m : Nat → Prop} (h : Fr w w' m) {a : Addr} {v : Value} (hc : w.cell? a = some v) (hn : ¬ m a.block) : w'.cell? a = some v := by
  rw [World.cell?_of_block (h.block a.block (block_lt_of_cell hc) hn)]; exact hc
theorem Fr.of_grown {w w' : World} {r : Option Nat} (h : w.grownBy w' r) : Fr w w' (fun k => some k = r) := ⟨h.os, h.tape, h.output, h.size, fun k hk hn => h.block k hk hn⟩
theorem Fr.of_set (w : World) (a : Addr) (u : Value) : Fr w (w.setCell a u) (fun k => k = a.block) :=
  ⟨rfl, rfl, rfl, by simp, fun k _ hn => Below.heap_setCell _ _ _ _ hn⟩
theorem Fr.of_turned {w w' : World} {b : Nat} (h : w.mapTurned w' b) : Fr w w' (fun k => k = b) := (Fr.of_grown h.grown).mono fun _ _ e => Option.some.inj e
theorem Fr.own {w w' : World} {m : Nat → Prop} (h : Fr w w' m) {base : Nat} {e : TypeId} {size n : Nat} {v : Value} {xs : List Value} (ho : w.ownsRow base e size v n xs) (hn : ∀ g, v.ownBlock = some g → ¬ m g) : w'.ownsRow base e size v n xs := by
  obtain ⟨h1, h2⟩ := ho
  refine ⟨h1, ?_⟩
  rcases h2 with h2 | ⟨g, cap, cur, rfl, hg, hc, hr⟩
  · exact .inl h2
  · exact .inr ⟨g, cap, cur, rfl, hg, (h.block g (Array.getElem?_eq_some_iff.1 hc).1 (hn g rfl)).trans hc, hr⟩

/-! ### Blocks known whole -/
/-- Block b holds just these cells and may be written. -/
def Bx (w : World) (b : Nat) (cs : Array Value) : Prop := ∃ T, w.heap[b]? = some (.cells cs T (0, 0))
theorem Bx.lt {w : World} {b : Nat} {cs : Array Value} (h : Bx w b cs) : b < w.heap.size := by
  obtain ⟨T, h⟩ := h; exact lt_of_block h
theorem Bx.cell {w : World} {b : Nat} {cs : Array Value} (h : Bx w b cs) {j : Nat} {v : Value} (hj : cs[j]? = some v) : w.cell? ⟨b, j, none⟩ = some v := by
  obtain ⟨T, h⟩ := h; simp [World.cell?, h, hj]
theorem Bx.free {w : World} {b : Nat} {cs : Array Value} (h : Bx w b cs) (j : Nat) : w.frozen? ⟨b, j, none⟩ = false := by
  obtain ⟨T, h⟩ := h; simp [World.frozen?, h]
theorem Bx.fr {w w' : World} {b : Nat} {cs : Array Value} (h : Bx w b cs) {m : Nat → Prop} (hf : Fr w w' m) (hn : ¬ m b) : Bx w' b cs := by
  have hl := h.lt
  obtain ⟨T, h⟩ := h; exact ⟨T, (hf.block b hl hn).trans h⟩
theorem Bx.below {w w' : World} {b : Nat} {cs : Array Value} (h : Bx w b cs) (hb : Below w.heap.size w w') : Bx w' b cs := h.fr (Fr.of_below hb fun _ => False) id
theorem Bx.set {w : World} {b : Nat} {cs : Array Value} (h : Bx w b cs) (j : Nat) (u : Value) : Bx (w.setCell ⟨b, j, none⟩ u) b (cs.setIfInBounds j u) := by
  have hlt := h.lt
  obtain ⟨T, h⟩ := h
  have h' : w.heap[b] = .cells cs T (0, 0) := by simpa [Array.getElem?_eq_getElem hlt] using h
  refine ⟨T, ?_⟩
  show (w.heap.modify b _)[b]? = _
  rw [Array.getElem?_eq_getElem (by simpa using hlt), Array.getElem_modify_self, h']
  rfl
theorem bx_new (w : World) (cs : Array Value) (T : TypeId) : Bx (w.alloc (Obj.cells cs T)) w.heap.size cs := ⟨T, heap_alloc_new w _⟩
theorem Bx.three {w : World} {b : Nat} {u0 u1 u2 : Value} (h : Bx w b #[u0, u1, u2]) : w.cell? ⟨b, 0, none⟩ = some u0 ∧ w.cell? ⟨b, 1, none⟩ = some u1 ∧ w.cell? ⟨b, 2, none⟩ = some u2 ∧ w.frozen? ⟨b, 0, none⟩ = false ∧ w.frozen? ⟨b, 1, none⟩ = false ∧ w.frozen? ⟨b, 2, none⟩ = false :=
  ⟨h.cell rfl, h.cell rfl, h.cell rfl, h.free 0, h.free 1, h.free 2⟩
theorem Bx.four {w : World} {b : Nat} {u0 u1 u2 u3 : Value} (h : Bx w b #[u0, u1, u2, u3]) : w.cell? ⟨b, 0, none⟩ = some u0 ∧ w.cell? ⟨b, 1, none⟩ = some u1 ∧ w.cell? ⟨b, 2, none⟩ = some u2 ∧ w.cell? ⟨b, 3, none⟩ = some u3 ∧ w.frozen? ⟨b, 0, none⟩ = false ∧ w.frozen? ⟨b, 1, none⟩ = false ∧ w.frozen? ⟨b, 2, none⟩ = false ∧ w.frozen? ⟨b, 3, none⟩ = false :=
  ⟨h.cell rfl, h.cell rfl, h.cell rfl, h.cell rfl, h.free 0, h.free 1, h.free 2, h.free 3⟩
theorem Bx.six {w : World} {b : Nat} {u0 u1 u2 u3 u4 u5 : Value} (h : Bx w b #[u0, u1, u2, u3, u4, u5]) : (w.cell? ⟨b, 0, none⟩ = some u0 ∧ w.cell? ⟨b, 1, none⟩ = some u1 ∧ w.cell? ⟨b, 2, none⟩ = some u2 ∧ w.cell? ⟨b, 3, none⟩ = some u3 ∧ w.cell? ⟨b, 4, none⟩ = some u4 ∧ w.cell? ⟨b, 5, none⟩ = some u5) ∧ w.frozen? ⟨b, 0, none⟩ = false ∧ w.frozen? ⟨b, 1, none⟩ = false ∧ w.frozen? ⟨b, 2, none⟩ = false ∧ w.frozen? ⟨b, 3, none⟩ = false ∧ w.frozen? ⟨b, 4, none⟩ = false ∧ w.frozen? ⟨b, 5, none⟩ = false :=
  ⟨⟨h.cell rfl, h.cell rfl, h.cell rfl, h.cell rfl, h.cell rfl, h.cell rfl⟩, h.free 0, h.free 1, h.free 2, h.free 3, h.free 4, h.free 5⟩
theorem Bx.set3 {w : World} {b : Nat} {u0 u1 u2 : Value} (h : Bx w b #[u0, u1, u2]) (v0 v1 v2 : Value) : Bx (((w.setCell ⟨b, 0, none⟩ v0).setCell ⟨b, 1, none⟩ v1).setCell ⟨b, 2, none⟩ v2) b #[v0, v1, v2] :=
  ((h.set 0 v0).set 1 v1).set 2 v2
theorem Bx.set6 {w : World} {b : Nat} {u0 u1 u2 u3 u4 u5 : Value} (h : Bx w b #[u0, u1, u2, u3, u4, u5]) (v0 v1 v2 v3 v4 v5 : Value) : Bx ((((((w.setCell ⟨b, 0, none⟩ v0).setCell ⟨b, 1, none⟩ v1).setCell ⟨b, 2, none⟩ v2).setCell ⟨b, 3, none⟩ v3).setCell ⟨b, 4, none⟩ v4).setCell ⟨b, 5, none⟩ v5) b #[v0, v1, v2, v3, v4, v5] :=
  (((((h.set 0 v0).set 1 v1).set 2 v2).set 3 v3).set 4 v4).set 5 v5
theorem Fr.set3 (w : World) (b : Nat) (v0 v1 v2 : Value) : Fr w (((w.setCell ⟨b, 0, none⟩ v0).setCell ⟨b, 1, none⟩ v1).setCell ⟨b, 2, none⟩ v2) (fun k => k = b) :=
  ((Fr.of_set w ⟨b, 0, none⟩ v0).trans (Fr.of_set _ ⟨b, 1, none⟩ v1) fun _ _ e => e).trans (Fr.of_set _ ⟨b, 2, none⟩ v2) fun _ _ e => e
theorem Fr.set6 (w : World) (b : Nat) (v0 v1 v2 v3 v4 v5 : Value) : Fr w ((((((w.setCell ⟨b, 0, none⟩ v0).setCell ⟨b, 1, none⟩ v1).setCell ⟨b, 2, none⟩ v2).setCell ⟨b, 3, none⟩ v3).setCell ⟨b, 4, none⟩ v4).setCell ⟨b, 5, none⟩ v5) (fun k => k = b) :=
  ((((((Fr.of_set w ⟨b, 0, none⟩ v0).trans (Fr.of_set _ ⟨b, 1, none⟩ v1) fun _ _ e => e).trans (Fr.of_set _ ⟨b, 2, none⟩ v2) fun _ _ e => e).trans (Fr.of_set _ ⟨b, 3, none⟩ v3) fun _ _ e => e).trans (Fr.of_set _ ⟨b, 4, none⟩ v4) fun _ _ e => e).trans (Fr.of_set _ ⟨b, 5, none⟩ v5) fun _ _ e => e)
theorem Fr.toBelow {w w' : World} {B : Nat} {W : World} {m : Nat → Prop} (h : Fr w w' m) (hb : Below B W w) (hB : B ≤ w.heap.size) (hm : ∀ k, m k → B ≤ k) : Below B W w' :=
  ⟨h.os.trans hb.os, h.tape.trans hb.tape, h.output.trans hb.output, Nat.le_trans hb.size h.size, fun k hk => (h.block k (Nat.lt_of_lt_of_le hk hB) fun e => by have := hm k e; omega).trans (hb.block k hk)⟩

/-- What is seen without the blocks of X is seen later without those of X'. -/
def Le (w : World) (X : Nat → Prop) (w' : World) (X' : Nat → Prop) : Prop := ∀ (a : Addr) (v : Value), w.cell? a = some v → ¬ X a.block → w'.cell? a = some v ∧ ¬ X' a.block
theorem Le.of_fr {w w' : World} {m X X' : Nat → Prop} (h : Fr w w' m) (hm : ∀ k, k < w.heap.size → m k → X k) (hX : ∀ k, k < w.heap.size → X' k → X k) : Le w X w' X' := fun _ _ hc hn =>
  ⟨h.cell hc fun e => hn (hm _ (block_lt_of_cell hc) e), fun e => hn (hX _ (block_lt_of_cell hc) e)⟩
theorem Le.less {w : World} {X X' : Nat → Prop} (hX : ∀ k, k < w.heap.size → X' k → X k) : Le w X w X' := Le.of_fr (Fr.refl w X) (fun _ _ e => e) hX
theorem Le.trans {w w1 w2 : World} {X X1 X2 : Nat → Prop} (h : Le w X w1 X1) (h2 : Le w1 X1 w2 X2) : Le w X w2 X2 := fun a v hc hn => by
  obtain ⟨h3, h4⟩ := h a v hc hn; exact h2 a v h3 h4

/-- Older than w, or not to be written. -/
def Nw (w w' : World) (k : Nat) : Prop := k < w.heap.size ∨ ∃ j, w'.frozen? ⟨k, j, none⟩ = true
theorem Le.of_nw {w w1 w2 : World} {m X : Nat → Prop} (h : Fr w1 w2 m) (hm : ∀ k, k < w1.heap.size → m k → X k) (hX : ∀ k, k < w1.heap.size → k < w.heap.size → X k) (hz : ∀ k, (∃ j, w1.frozen? ⟨k, j, none⟩ = true) → X k) : Le w1 X w2 (Nw w w2) := fun a v hc hn => by
  have hlt := block_lt_of_cell hc
  have hnm : ¬ m a.block := fun e => hn (hm _ hlt e)
  refine ⟨h.cell hc hnm, fun e => ?_⟩
  rcases e with e | ⟨j, e⟩
  · exact hn (hX _ hlt e)
  · exact hn (hz _ ⟨j, by rw [← e]; exact (World.frozen?_of_block (a := ⟨a.block, j, none⟩) (h.block a.block hlt hnm)).symm⟩)
theorem own_nw {w w' : World} {base : Nat} {e : TypeId} {size n : Nat} {v : Value} {xs : List Value} (h : w'.ownsRow base e size v n xs) (hb : w.heap.size ≤ base) : ∀ g, v.ownBlock = some g → ¬ Nw w w' g := by
  intro g hg hn
  have h1 := (h.lt g hg).1
  rcases hn with hn | ⟨j, hn⟩
  · omega
  · rcases h.2 with ⟨rfl, _⟩ | ⟨g', cap, cur, rfl, _, hc, _⟩
    · cases hg
    · cases hg
      simp [World.frozen?, hc] at hn

/-- A slice of integers outside of X. -/
def IntsX (w : World) (X : Nat → Prop) (A : Option Addr) (l : List Int) : Prop :=
  ∀ k x, l[k]? = some x → ∃ b o, A = some ⟨b, o, none⟩ ∧ ¬ X b ∧ w.cell? ⟨b, o + k, none⟩ = some (.int .i64 x)
theorem IntsX.le {w w' : World} {X X' : Nat → Prop} {A : Option Addr} {l : List Int} (h : IntsX w X A l) (hl : Le w X w' X') : IntsX w' X' A l := fun k x hk => by
  obtain ⟨b, o, e, h1, h2⟩ := h k x hk
  obtain ⟨h3, h4⟩ := hl _ _ h2 h1
  exact ⟨b, o, e, h4, h3⟩
theorem IntsX.at_ {w : World} {X : Nat → Prop} {A : Option Addr} {l : List Int} (h : IntsX w X A l) : IntsAt w A l := fun k x hk => by
  obtain ⟨b, o, e, _, h2⟩ := h k x hk; exact ⟨b, o, e, h2⟩
theorem IntsX.nil (w : World) (X : Nat → Prop) (A : Option Addr) : IntsX w X A [] := fun k x hk => by simp at hk
theorem IntsAt.toX {w : World} {X : Nat → Prop} {A : Option Addr} {l : List Int} (h : IntsAt w A l) (hX : ∀ k, k < w.heap.size → ¬ X k) : IntsX w X A l := fun k x hk => by
  obtain ⟨b, o, e, h2⟩ := h k x hk; exact ⟨b, o, e, hX b (block_lt_of_cell h2), h2⟩
theorem IntsX.tail {w : World} {X : Nat → Prop} {b o : Nat} {x : Int} {l : List Int} (h : IntsX w X (some ⟨b, o, none⟩) (x :: l)) : IntsX w X (some ⟨b, o + 1, none⟩) l := fun k y hk => by
  obtain ⟨b', o', e, h1, h2⟩ := h (k + 1) y (by simpa using hk)
  cases e
  exact ⟨b, o + 1, rfl, h1, by rw [show o + 1 + k = o + (k + 1) by omega]; exact h2⟩
theorem intsX_of_own {w : World} {X : Nat → Prop} {base : Nat} {e : TypeId} {v : Value} {l : List Int} (h : w.ownsRow base e 1 v l.length (l.map (Value.int .i64))) (hX : ∀ g, v.ownBlock = some g → ¬ X g) : ∃ A c, v = .slice A l.length c ∧ IntsX w X A l := by
  obtain ⟨A, c, rfl, h1⟩ := ints_of_own h
  refine ⟨A, c, rfl, fun k x hk => ?_⟩
  obtain ⟨b, o, e, h2⟩ := h1 k x hk
  subst e
  exact ⟨b, o, rfl, hX b rfl, h2⟩

/-- .. with its capacity. -/
def IntsC (w : World) (X : Nat → Prop) (A : Option Addr) (c : Nat) (l : List Int) : Prop := l.length ≤ c ∧ IntsX w X A l
theorem IntsC.le {w w' : World} {X X' : Nat → Prop} {A : Option Addr} {c : Nat} {l : List Int} (h : IntsC w X A c l) (hl : Le w X w' X') : IntsC w' X' A c l := ⟨h.1, h.2.le hl⟩
theorem IntsC.at_ {w : World} {X : Nat → Prop} {A : Option Addr} {c : Nat} {l : List Int} (h : IntsC w X A c l) : IntsAt w A l := h.2.at_
theorem IntsC.old {w w' : World} {A : Option Addr} {c : Nat} {l : List Int} (h : IntsC w' (Nw w w') A c l) : IntsC w' (fun k => k < w.heap.size) A c l := h.le (Le.less fun _ _ e => .inl e)
theorem IntsC.nil (w : World) (X : Nat → Prop) (A : Option Addr) (c : Nat) : IntsC w X A c [] := ⟨Nat.zero_le _, IntsX.nil w X A⟩
theorem intsC_of_own {w : World} {X : Nat → Prop} {base : Nat} {e : TypeId} {v : Value} {l : List Int} (h : w.ownsRow base e 1 v l.length (l.map (Value.int .i64))) (hX : ∀ g, v.ownBlock = some g → ¬ X g) : ∃ A c, v = .slice A l.length c ∧ IntsC w X A c l := by
  obtain ⟨A, c, rfl, h1⟩ := intsX_of_own h hX
  refine ⟨A, c, rfl, ?_, h1⟩
  rcases h.2 with ⟨e, h0⟩ | ⟨g, cap, cur, e, _, _, hn, _⟩
  · omega
  · cases e; exact hn

/-- Cells of elements, one after the other. -/
inductive RowG {α : Type} (C : List Value → α → Prop) : List Value → List α → Prop
  | nil : RowG C [] []
  | snoc {cs : List Value} {l : List α} {c : List Value} {x : α} (h : RowG C cs l) (hc : C c x) : RowG C (cs ++ c) (l ++ [x])
theorem RowG.map {α : Type} {C C' : List Value → α → Prop} (hC : ∀ c x, C c x → C' c x) {cs : List Value} {l : List α} (h : RowG C cs l) : RowG C' cs l := by
  induction h with
  | nil => exact .nil
  | snoc _ h7 ih => exact .snoc ih (hC _ _ h7)
theorem RowG.len {α : Type} {C : List Value → α → Prop} {s : Nat} (hC : ∀ c x, C c x → c.length = s) {cs : List Value} {l : List α} (h : RowG C cs l) : cs.length = l.length * s := by
  induction h with
  | nil => simp
  | snoc _ h7 ih => rw [List.length_append, ih, hC _ _ h7, List.length_append, List.length_singleton, Nat.add_mul, Nat.one_mul]
theorem RowG.one {α : Type} {C : List Value → α → Prop} (hC : ∀ c x, C c x → ∀ u ∈ c, u.oneCell' = true) {cs : List Value} {l : List α} (h : RowG C cs l) : ∀ u ∈ cs, u.oneCell' = true := by
  induction h with
  | nil => intro u hu; simp at hu
  | snoc _ h7 ih =>
    intro u hu
    rcases List.mem_append.1 hu with h | h
    · exact ih u h
    · exact hC _ _ h7 u h
theorem RowG.get {α : Type} {C : List Value → α → Prop} {s : Nat} (hC : ∀ c x, C c x → c.length = s) {cs : List Value} {l : List α} (h : RowG C cs l) : ∀ (k : Nat) (f : α), l[k]? = some f → ∃ c7, C c7 f ∧ ∀ j, j < s → cs[k * s + j]? = c7[j]? := by
  induction h with
  | nil => intro k f hk; simp at hk
  | @snoc cs l c7 f hr h7 ih =>
    intro k g hk
    have hl := hr.len hC
    by_cases hlt : k < l.length
    · rw [List.getElem?_append_left hlt] at hk
      obtain ⟨c, h1, h2⟩ := ih k g hk
      refine ⟨c, h1, fun j hj => ?_⟩
      have : k * s + j < l.length * s := by
        have : (k + 1) * s ≤ l.length * s := Nat.mul_le_mul_right s hlt
        rw [Nat.add_mul, Nat.one_mul] at this; omega
      rw [List.getElem?_append_left (by omega)]
      exact h2 j hj
    · have hkl : k = l.length := by
        have := (List.getElem?_eq_some_iff.1 hk).1
        simp at this; omega
      subst hkl
      rw [List.getElem?_append_right (Nat.le_refl _)] at hk
      simp at hk
      subst hk
      refine ⟨c7, h7, fun j hj => ?_⟩
      rw [List.getElem?_append_right (by omega), hl]
      congr 1; omega

/-- Three cells that are a value. -/
def VlC (w : World) (X : Nat → Prop) (cs : List Value) (v : Vl) : Prop := ∃ A c, cs = [.bool v.list, .int .i64 v.n, .slice A v.l.length c] ∧ IntsC w X A c v.l
theorem VlC.le {w w' : World} {X X' : Nat → Prop} (hl : Le w X w' X') (cs : List Value) (v : Vl) (h : VlC w X cs v) : VlC w' X' cs v := by
  obtain ⟨A, c, e, h1⟩ := h; exact ⟨A, c, e, h1.le hl⟩
theorem VlC.len {w : World} {X : Nat → Prop} (cs : List Value) (v : Vl) (h : VlC w X cs v) : cs.length = 3 := by
  obtain ⟨A, c, rfl, _⟩ := h; rfl
theorem VlC.one {w : World} {X : Nat → Prop} (cs : List Value) (v : Vl) (h : VlC w X cs v) : ∀ u ∈ cs, u.oneCell' = true := by
  obtain ⟨A, c, rfl, _⟩ := h
  intro u hu
  simp at hu
  rcases hu with h | h | h <;> subst h <;> rfl
/-- A slice of values outside of X. -/
def VlsX (w : World) (X : Nat → Prop) (A : Option Addr) (l : List Vl) : Prop :=
  ∀ k v, l[k]? = some v → ∃ b o A' c, A = some ⟨b, o, none⟩ ∧ ¬ X b ∧ w.cell? ⟨b, o + k * 3, none⟩ = some (.bool v.list) ∧ w.cell? ⟨b, o + k * 3 + 1, none⟩ = some (.int .i64 v.n) ∧ w.cell? ⟨b, o + k * 3 + 2, none⟩ = some (.slice A' v.l.length c) ∧ IntsC w X A' c v.l
theorem VlsX.le {w w' : World} {X X' : Nat → Prop} {A : Option Addr} {l : List Vl} (h : VlsX w X A l) (hl : Le w X w' X') : VlsX w' X' A l := fun k v hk => by
  obtain ⟨b, o, A', c, e, h1, c0, c1, c2, h2⟩ := h k v hk
  exact ⟨b, o, A', c, e, (hl _ _ c0 h1).2, (hl _ _ c0 h1).1, (hl _ _ c1 h1).1, (hl _ _ c2 h1).1, h2.le hl⟩
theorem VlsX.nil (w : World) (X : Nat → Prop) (A : Option Addr) : VlsX w X A [] := fun k x hk => by simp at hk
theorem vlsX_of_own {w : World} {X : Nat → Prop} {base : Nat} {e : TypeId} {v : Value} {cs : List Value} {l : List Vl} (h : w.ownsRow base e 3 v l.length cs) (hr : RowG (VlC w X) cs l) (hX : ∀ g, v.ownBlock = some g → ¬ X g) : ∃ A c, v = .slice A l.length c ∧ VlsX w X A l := by
  obtain ⟨h1, h2⟩ := id h
  rcases h2 with ⟨rfl, h0⟩ | ⟨g, cap, cur, rfl, hg, hh, hc1, hc2, hc3, hc4⟩
  · refine ⟨none, 0, by rw [h0], fun k x hk => ?_⟩
    have : l = [] := List.length_eq_zero_iff.1 h0
    subst this; simp at hk
  · refine ⟨some ⟨g, 0, none⟩, cap, rfl, fun k x hk => ?_⟩
    obtain ⟨c7, ⟨A', c, rfl, h3⟩, h4⟩ := hr.get VlC.len k x hk
    have get := fun j u (hu : cs[j]? = some u) => h.cells (g := g) rfl j u hu
    refine ⟨g, 0, A', c, rfl, hX g rfl, ?_, ?_, ?_, h3⟩
    · have := get _ _ (h4 0 (by omega)); rw [add0] at this; simpa using this
    · have := get _ _ (h4 1 (by omega)); rw [add0] at this; simpa using this
    · have := get _ _ (h4 2 (by omega)); rw [add0] at this; simpa using this

/-! ### Call trees -/
/-- The six cells of a call tree, and of all below it. -/
inductive TrO (w : World) (X : Nat → Prop) : Nat → Nat → Tr → Prop
  | mk {b o : Nat} {t : Tr} {Aa AL Ac : Option Addr} {ca cL cc b' o' : Nat} (hX : ¬ X b)
      (c0 : w.cell? ⟨b, o, none⟩ = some (.int .i64 t.func)) (c1 : w.cell? ⟨b, o + 1, none⟩ = some (.slice Aa t.args.length ca)) (ha : VlsX w X Aa t.args)
      (c2 : w.cell? ⟨b, o + 2, none⟩ = some (.bool t.res.list)) (c3 : w.cell? ⟨b, o + 3, none⟩ = some (.int .i64 t.res.n)) (c4 : w.cell? ⟨b, o + 4, none⟩ = some (.slice AL t.res.l.length cL)) (hl : IntsC w X AL cL t.res.l)
      (c5 : w.cell? ⟨b, o + 5, none⟩ = some (.slice Ac t.calls.length cc))
      (hA : 0 < t.calls.length → Ac = some ⟨b', o', none⟩) (hk : ∀ k y, t.calls[k]? = some y → TrO w X b' (o' + k * 6) y) : TrO w X b o t
theorem TrO.le {w w' : World} {X X' : Nat → Prop} (hl : Le w X w' X') {b o : Nat} {t : Tr} (h : TrO w X b o t) : TrO w' X' b o t := by
  induction h with
  | mk hX c0 c1 ha c2 c3 c4 hi c5 hA _ ih =>
    exact .mk (hl _ _ c0 hX).2 (hl _ _ c0 hX).1 (hl _ _ c1 hX).1 (ha.le hl) (hl _ _ c2 hX).1 (hl _ _ c3 hX).1 (hl _ _ c4 hX).1 (hi.le hl) (hl _ _ c5 hX).1 hA ih
/-- A slice of call trees outside of X. -/
def TrsX (w : World) (X : Nat → Prop) (A : Option Addr) (l : List Tr) : Prop :=
  ∀ k t, l[k]? = some t → ∃ b o, A = some ⟨b, o, none⟩ ∧ TrO w X b (o + k * 6) t
theorem TrsX.le {w w' : World} {X X' : Nat → Prop} {A : Option Addr} {l : List Tr} (h : TrsX w X A l) (hl : Le w X w' X') : TrsX w' X' A l := fun k x hk => by
  obtain ⟨b, o, e, hi⟩ := h k x hk
  exact ⟨b, o, e, hi.le hl⟩
theorem TrsX.nil (w : World) (X : Nat → Prop) (A : Option Addr) : TrsX w X A [] := fun k x hk => by simp at hk
/-- Six cells that are a call tree. -/
def TrC (w : World) (X : Nat → Prop) (cs : List Value) (t : Tr) : Prop := ∃ Aa ca AL cL Ac cc, cs = [.int .i64 t.func, .slice Aa t.args.length ca, .bool t.res.list, .int .i64 t.res.n, .slice AL t.res.l.length cL, .slice Ac t.calls.length cc] ∧ VlsX w X Aa t.args ∧ IntsC w X AL cL t.res.l ∧ TrsX w X Ac t.calls
theorem TrC.le {w w' : World} {X X' : Nat → Prop} (hl : Le w X w' X') (cs : List Value) (t : Tr) (h : TrC w X cs t) : TrC w' X' cs t := by
  obtain ⟨Aa, ca, AL, cL, Ac, cc, e, h1, h2, h3⟩ := h
  exact ⟨Aa, ca, AL, cL, Ac, cc, e, h1.le hl, h2.le hl, h3.le hl⟩
theorem TrC.len {w : World} {X : Nat → Prop} (cs : List Value) (t : Tr) (h : TrC w X cs t) : cs.length = 6 := by
  obtain ⟨Aa, ca, AL, cL, Ac, cc, rfl, _⟩ := h; rfl
theorem TrC.one {w : World} {X : Nat → Prop} (cs : List Value) (t : Tr) (h : TrC w X cs t) : ∀ u ∈ cs, u.oneCell' = true := by
  obtain ⟨Aa, ca, AL, cL, Ac, cc, rfl, _⟩ := h
  intro u hu
  simp at hu
  rcases hu with h | h | h | h | h | h <;> subst h <;> rfl
theorem trO_of_cells {w : World} {X : Nat → Prop} {b o : Nat} {t : Tr} {cs : List Value} (h : TrC w X cs t) (hX : ¬ X b) (hc : ∀ j, j < 6 → w.cell? ⟨b, o + j, none⟩ = cs[j]?) : TrO w X b o t := by
  obtain ⟨Aa, ca, AL, cL, Ac, cc, rfl, h1, h2, h3⟩ := h
  by_cases h0 : 0 < t.calls.length
  · obtain ⟨b', o', rfl, _⟩ := h3 0 _ (List.getElem?_eq_getElem h0)
    refine .mk hX (hc 0 (by omega)) (hc 1 (by omega)) h1 (hc 2 (by omega)) (hc 3 (by omega)) (hc 4 (by omega)) h2 (hc 5 (by omega)) (fun _ => rfl) fun k y hy => ?_
    obtain ⟨b2, o2, e, h4⟩ := h3 k y hy
    cases e
    exact h4
  · exact .mk (b' := 0) (o' := 0) hX (hc 0 (by omega)) (hc 1 (by omega)) h1 (hc 2 (by omega)) (hc 3 (by omega)) (hc 4 (by omega)) h2 (hc 5 (by omega)) (fun h => absurd h h0) fun k y hy => by
      have := (List.getElem?_eq_some_iff.1 hy).1; omega
theorem TrO.open_ {w : World} {X : Nat → Prop} {b o : Nat} {t : Tr} (h : TrO w X b o t) : ∃ cs, TrC w X cs t ∧ ¬ X b ∧ ∀ (j : Nat) (u : Value), cs[j]? = some u → w.cell? ⟨b, o + j, none⟩ = some u := by
  cases h with
  | @mk _ _ _ Aa AL Ac ca cL cc b' o' hX c0 c1 ha c2 c3 c4 hi c5 hA hk =>
    refine ⟨_, ⟨Aa, ca, AL, cL, Ac, cc, rfl, ha, hi, fun k y hy => ?_⟩, hX, fun j u hu => ?_⟩
    · exact ⟨b', o', hA (by have := (List.getElem?_eq_some_iff.1 hy).1; omega), hk k y hy⟩
    · match j, hu with
      | 0, hu => cases hu; exact c0
      | 1, hu => cases hu; exact c1
      | 2, hu => cases hu; exact c2
      | 3, hu => cases hu; exact c3
      | 4, hu => cases hu; exact c4
      | 5, hu => cases hu; exact c5
      | j + 6, hu => simp at hu
theorem trsX_of_own {w : World} {X : Nat → Prop} {base : Nat} {e : TypeId} {v : Value} {cs : List Value} {l : List Tr} (h : w.ownsRow base e 6 v l.length cs) (hr : RowG (TrC w X) cs l) (hX : ∀ g, v.ownBlock = some g → ¬ X g) : ∃ A c, v = .slice A l.length c ∧ TrsX w X A l := by
  obtain ⟨h1, h2⟩ := id h
  rcases h2 with ⟨rfl, h0⟩ | ⟨g, cap, cur, rfl, hg, hh, hc1, hc2, hc3, hc4⟩
  · refine ⟨none, 0, by rw [h0], fun k x hk => ?_⟩
    have : l = [] := List.length_eq_zero_iff.1 h0
    subst this; simp at hk
  · refine ⟨some ⟨g, 0, none⟩, cap, rfl, fun k x hk => ⟨g, 0, rfl, ?_⟩⟩
    obtain ⟨c7, h3, h4⟩ := hr.get TrC.len k x hk
    refine trO_of_cells h3 (hX g rfl) fun j hj => ?_
    rw [← h4 j hj]
    have hlen := hr.len TrC.len
    have hlt : k * 6 + j < cs.length := by
      have := (List.getElem?_eq_some_iff.1 hk).1; omega
    have := h.cells (g := g) rfl (k * 6 + j) _ (List.getElem?_eq_getElem hlt)
    rw [add0] at this
    rw [List.getElem?_eq_getElem hlt, Nat.zero_add]; exact this

end Go.Proofs.YtcoeakdpcigogaaDoor
