/-
  append onto a row of the call's own, as one step of a region that draws its order (the source may be empty).
-/
import Derived.Test.YthakiaicnhkfjaaDoorImgRefInvW
import Derived.Deep.RegionHeld3
import Derived.Deep.DeepCutAuto
import Derived.Deep.AppendSrc
namespace Go.Proofs.YthakiaicnhkfjaaDoor
open Go.ChangeShapes Go.WideShapes Go.ChangeAt Go.RowKit Go.Sort

theorem step_append_own {P : Program} {ops : Array Oper} {o : Oper} {a : Act} {w : World} {K : Act → World → Prop} {Q : Exit → Act → World → Prop} {E : Prop}
    (hg : o.guard = none) (s x : Operand) (t : TypeId) (hop : o.op = Op.call { callee := Callee.builtin Builtin.append, args := #[s, x], argTypes := #[t, t] })
    (e : TypeId) (i : TypeInfo) (z : Value) (size bytes : Nat) (h1 : P.underlying t = some (.slice e)) (h2 : P.info? e = some i) (h3 : i.zero = some z) (h4 : i.size = size) (h5 : i.bytes = bytes) (h6 : z.cells.size = size) (h7 : 0 < size)
    (base : Nat) (v : Value) (n : Nat) (xs : List Value) (hs : a.eval s = v) (hown : w.ownsRow base e size v n xs)
    (ad : Addr) (m c : Nat) (news : List Value) (hx : a.eval x = .slice (some ad) m c) (hn : news.length = m * size) (hc : ∀ j u, news[j]? = some u → w.cell? (ad.add j) = some u) (h1c : ∀ u ∈ news, u.oneCell' = true)
    (b1 : n + m ≤ maxLen) (b2 : (n + m) * bytes ≤ 140737488355328) (hb : base ≤ w.heap.size)
    (hK : ∀ v' w', w'.ownsRow base e size v' (n + m) (xs ++ news) → w.grownBy w' v.ownBlock → (v'.ownBlock = v.ownBlock ∨ v'.ownBlock = some w.heap.size) → K (a.put o.dst v') w') :
    if Region.wanted o (yielded ops a.tmps) = true then Oper.wp P o a w K Q else E := by
  have hw : Region.wanted o (yielded ops a.tmps) = true := by simp [Region.wanted, hg]
  rw [if_pos hw]
  obtain ⟨v', w', hrun, r1, r2, _, r3⟩ := run_append_own_at (P := P) w base t o.type e i z size bytes h1 h2 h3 h4 h5 h6 h7 v n xs hown ad m c news hn hc h1c b1 b2 hb
  unfold Oper.wp
  simp [execOp, hop, resolve, invoke, builtin, hs, hx, hrun, Result.andThen]
  exact hK v' w' r1 r2 r3

theorem step_append_nil {P : Program} {ops : Array Oper} {o : Oper} {a : Act} {w : World} {K : Act → World → Prop} {Q : Exit → Act → World → Prop} {E : Prop}
    (hg : o.guard = none) (s x : Operand) (t : TypeId) (hop : o.op = Op.call { callee := Callee.builtin Builtin.append, args := #[s, x], argTypes := #[t, t] })
    (e : TypeId) (i : TypeInfo) (h1 : P.underlying t = some (.slice e)) (h2 : P.info? e = some i)
    (b off n cap c : Nat) (hs : a.eval s = .slice (some ⟨b, off, none⟩) n cap) (hx : a.eval x = .slice none 0 c) (hroom : n ≤ cap)
    (hK : K (a.put o.dst (.slice (some ⟨b, off, none⟩) n cap)) w) :
    if Region.wanted o (yielded ops a.tmps) = true then Oper.wp P o a w K Q else E := by
  have hw : Region.wanted o (yielded ops a.tmps) = true := by simp [Region.wanted, hg]
  rw [if_pos hw]
  have hrun := run_append_room_src (P := P) w t t o.type e i h1 h2 b off n cap (.slice none 0 c) 0 [] (Src.ofNil w h1 c) (by omega) (fun j hj => by simp at hj) (fun j hj => by simp at hj)
  unfold Oper.wp
  simp [execOp, hop, resolve, invoke, builtin, hs, hx, hrun, Result.andThen]
  exact hK

theorem own_empty (w : World) : (w.alloc (Obj.cells #[] 38)).ownsRow w.heap.size 38 5 (.slice (some ⟨w.heap.size, 0, none⟩) 0 0) 0 [] :=
  ⟨rfl, .inr ⟨w.heap.size, 0, #[], rfl, Nat.le_refl _, (by show (w.heap.push _)[w.heap.size]? = _; simp), Nat.le_refl _, by unfold maxLen; omega, rfl, rfl⟩⟩
theorem code_src {w : World} {A : Option Addr} {l : List Ins} (hC : CodeAt w A l) {a : Addr} (hA : A = some a) : ∀ (j : Nat) (u : Value), (cellsL l)[j]? = some u → w.cell? (a.add j) = some u := fun j u hj => by
  cases l with
  | nil => simp [cellsL] at hj
  | cons x r =>
    obtain ⟨b, o', e, _⟩ := hC 0 x rfl
    rw [hA] at e
    injection e with e; subst e
    exact codeAt_cells (by rw [hA] at hC; exact hC) j u hj
theorem belowDrawn {B : Nat} {W w : World} (h : RowKit.Below B W w) : RowKit.Below B W w.drew := h.trans ⟨rfl, rfl, rfl, Nat.le_refl _, fun _ _ => rfl⟩
/-- An image of the call's own: in the box nb, its code in a row of its own. -/
structure BadAt (W wc : World) (nb : Nat) (A : Option Addr) (c : Nat) (M S : Int) (l : List Ins) : Prop where
  hb : RowKit.Below W.heap.size W wc
  bx : ResAt wc nb (.slice A l.length c) (.int .i64 M) (.int .i64 S)
  own : wc.ownsRow W.heap.size 38 5 (.slice A l.length c) l.length (cellsL l)
  ge : W.heap.size ≤ nb
  ne : ∀ g, (Value.slice A l.length c).ownBlock = some g → g ≠ nb
theorem BadAt.below {W wc w' : World} {nb : Nat} {A : Option Addr} {c : Nat} {M S : Int} {l : List Ins} (h : BadAt W wc nb A c M S l) (hb : RowKit.Below wc.heap.size wc w') : BadAt W w' nb A c M S l :=
  ⟨below_step h.hb h.hb.size hb, h.bx.mono hb, own_below h.own hb, h.ge, h.ne⟩
theorem BadAt.code {W wc : World} {nb : Nat} {A : Option Addr} {c : Nat} {M S : Int} {l : List Ins} (h : BadAt W wc nb A c M S l) : ImgAt wc nb A c M S l := by
  obtain ⟨A', c', e, hc⟩ := code_of_own h.own
  injection e with e1 e2 e3
  subst e1
  exact ⟨h.bx.r0, h.bx.r1, h.bx.r2, hc⟩
theorem bad_new {W w8 : World} {A : Option Addr} {c : Nat} {M S : Int} {l : List Ins} (hb : RowKit.Below W.heap.size W w8) (own : w8.ownsRow W.heap.size 38 5 (.slice A l.length c) l.length (cellsL l)) (T : TypeId) :
    BadAt W (w8.alloc (Obj.cells #[.slice A l.length c, .int .i64 M, .int .i64 S] T)) w8.heap.size A c M S l :=
  ⟨hb.alloc hb.size _, by constructor <;> simp [go_sem], own.alloc _, hb.size, fun g hg => by have := own_block_lt own g hg; omega⟩
theorem bad_set {W w8 : World} {nb : Nat} {A : Option Addr} {c : Nat} {M S : Int} {l : List Ins} {z0 z1 z2 : Value} (hb : RowKit.Below W.heap.size W w8) (own : w8.ownsRow W.heap.size 38 5 (.slice A l.length c) l.length (cellsL l)) (rs : ResAt w8 nb z0 z1 z2) (ge : W.heap.size ≤ nb) (ne : ∀ g, (Value.slice A l.length c).ownBlock = some g → g ≠ nb) :
    BadAt W (((w8.setCell ⟨nb, 0, none⟩ (.slice A l.length c)).setCell ⟨nb, 1, none⟩ (.int .i64 M)).setCell ⟨nb, 2, none⟩ (.int .i64 S)) nb A c M S l := by
  refine ⟨((hb.setCell ge _).setCell ge _).setCell ge _, ?_, own_setNew (own_setNew (own_setNew own _ _ _ ne) _ _ _ ne) _ _ _ ne, ge, ne⟩
  obtain ⟨r0, r1, r2, rz⟩ := rs
  have y0 := rz 0
  have y1 := rz 1
  have y2 := rz 2
  constructor <;> simp [go_sem, *]
theorem own_empty1 (w : World) : (w.alloc (Obj.cells #[] 38)).drew.ownsRow w.heap.size 38 5 (.slice (some ⟨w.heap.size, 0, none⟩) 0 0) 0 [] := own_empty w
theorem own_empty2 (w : World) (o : Obj) : ((w.alloc (Obj.cells #[] 38)).alloc o).drew.ownsRow w.heap.size 38 5 (.slice (some ⟨w.heap.size, 0, none⟩) 0 0) 0 [] := (own_empty w).alloc o
theorem push_at2 (h : Array Obj) (o o' : Obj) : ((h.push o).push o')[h.size + 1]? = some o' := by
  have e : h.size + 1 = (h.push o).size := by simp
  rw [e, Array.getElem?_push_size]
theorem own_empty3 (w : World) (o : Obj) : ((w.alloc o).alloc (Obj.cells #[] 38)).drew.ownsRow w.heap.size 38 5 (.slice (some ⟨w.heap.size + 1, 0, none⟩) 0 0) 0 [] :=
  ⟨rfl, .inr ⟨w.heap.size + 1, 0, #[], rfl, by omega, push_at2 w.heap o _, Nat.le_refl _, by unfold maxLen; omega, rfl, rfl⟩⟩
theorem below_drew (w : World) : Below w.heap.size w w.drew := ⟨rfl, rfl, rfl, Nat.le_refl _, fun _ _ => rfl⟩

end Go.Proofs.YthakiaicnhkfjaaDoor
