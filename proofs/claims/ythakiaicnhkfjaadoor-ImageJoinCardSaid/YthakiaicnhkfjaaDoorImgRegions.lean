/-
  The contract of image.regions.
-/
import Derived.Test.YthakiaicnhkfjaaDoorImgRefCheck
import Derived.Laws.MakeOwn
namespace Go.Proofs.YthakiaicnhkfjaaDoor
open Go.ChangeShapes Go.WideShapes Go.ChangeAt Go.RowKit Go.Sort

/-- The stack of open procedures (the last one first) ahead of instruction k, and what is left of it behind the pops. -/
def pushK (l : List Ins) (k : Nat) (st : List (Int × Int)) : List (Int × Int) :=
  if (atI l k).op = 32 then (match ptn l k with | some e => ((k : Int), e) :: st | none => st) else st
def popK (k : Nat) (st : List (Int × Int)) : List (Int × Int) := st.dropWhile fun p => decide (p.2 < k)
def stk (l : List Ins) : Nat → List (Int × Int)
  | 0 => []
  | k + 1 => pushK l k (popK k (stk l k))
def insP (l : List Ins) (k : Nat) : Bool := !(popK k (stk l k)).isEmpty
def topI (st : List (Int × Int)) : Int := match st with | [] => -1 | p :: _ => p.1
def regP (l : List Ins) (k : Nat) : Int := topI (stk l (k + 1))

def rowOf (st : List (Int × Int)) : List Value := match st with | [] => [] | p :: r => rowOf r ++ [.int .i64 p.1, .int .i64 p.2]
theorem rowOf_length : ∀ st, (rowOf st).length = st.length * 2
  | [] => rfl
  | p :: r => by simp [rowOf, rowOf_length r]; omega
theorem stk_length (l : List Ins) : ∀ k, (stk l k).length ≤ k
  | 0 => by simp [stk]
  | k + 1 => by
    have h := stk_length l k
    have h2 : (popK k (stk l k)).length ≤ (stk l k).length := (List.dropWhile_sublist _).length_le
    unfold stk pushK
    split
    · split <;> simp <;> omega
    · omega

theorem own_form {w : World} {base : Nat} {e : TypeId} {size n : Nat} {v : Value} {xs : List Value} (h : w.ownsRow base e size v n xs) : ∃ A c, v = .slice A n c ∧ n ≤ c ∧ (0 < n → ∃ g, A = some ⟨g, 0, none⟩ ∧ base ≤ g) := by
  rcases h.2 with ⟨rfl, rfl⟩ | ⟨g, cap, cur, rfl, hg, _, hc, _⟩
  · exact ⟨none, 0, rfl, Nat.le_refl _, fun h => absurd h (by omega)⟩
  · exact ⟨_, cap, rfl, hc, fun _ => ⟨g, rfl, hg⟩⟩
theorem own_below {w w' : World} {base : Nat} {e : TypeId} {size n : Nat} {v : Value} {xs : List Value} (h : w.ownsRow base e size v n xs) (hb : Below w.heap.size w w') : w'.ownsRow base e size v n xs := by
  refine ⟨h.1, ?_⟩
  rcases h.2 with h2 | ⟨g, cap, cur, hv, hg, hh, hr⟩
  · exact .inl h2
  · exact .inr ⟨g, cap, cur, hv, hg, by rw [hb.block g (Array.getElem?_eq_some_iff.1 hh).1]; exact hh, hr⟩
theorem own_lt {w : World} {base : Nat} {e : TypeId} {size g n cap : Nat} {xs : List Value} (h : w.ownsRow base e size (.slice (some ⟨g, 0, none⟩) n cap) n xs) : g < w.heap.size ∧ base ≤ g := by
  rcases h.2 with ⟨h2, _⟩ | ⟨g', cap', cur, hv, hg, hh, hr⟩
  · cases h2
  · injection hv with e1 e2 e3; injection e1 with e1; injection e1 with e1; subst e1
    exact ⟨(Array.getElem?_eq_some_iff.1 hh).1, hg⟩
/-- The last element cut off. -/
theorem own_pop {w : World} {base : Nat} {e : TypeId} {g cap : Nat} {p : Int × Int} {st : List (Int × Int)} (h : w.ownsRow base e 2 (.slice (some ⟨g, 0, none⟩) (st.length + 1) cap) (st.length + 1) (rowOf (p :: st))) : w.ownsRow base e 2 (.slice (some ⟨g, 0, none⟩) st.length cap) st.length (rowOf st) := by
  refine ⟨rowOf_length st, ?_⟩
  rcases h.2 with ⟨h2, _⟩ | ⟨g', cap', cur, hv, hg, hh, hc1, hc2, hc3, hc4⟩
  · cases h2
  · injection hv with e1 e2 e3; injection e1 with e1; injection e1 with e1; subst e1 e3
    refine .inr ⟨g, cap, cur, rfl, hg, hh, by omega, hc2, hc3, ?_⟩
    have := congrArg (List.take (st.length * 2)) hc4
    rw [List.take_take, show min (st.length * 2) ((st.length + 1) * 2) = st.length * 2 by omega] at this
    rw [this]; simp only [rowOf]
    rw [← rowOf_length st, List.take_left']; rfl

/-- What holds at the head of the k-th round. -/
structure RInv (l : List Ins) (W1 wr : World) (gr gi k : Nat) (v : Value) (st : List (Int × Int)) (xs ys : List Value) : Prop where
  hb : Below W1.heap.size W1 wr
  hgr : W1.heap.size ≤ gr
  own5 : wr.ownsRow gr 3 1 (.slice (some ⟨gr, 0, none⟩) l.length l.length) l.length xs
  own6 : wr.ownsRow gi 4 1 (.slice (some ⟨gi, 0, none⟩) l.length l.length) l.length ys
  own7 : wr.ownsRow (gi + 1) 60 2 v st.length (rowOf st)
  hlt : gr < gi
  hxs : ∀ j, j < k → xs[j]? = some (.int .i64 (regP l j))
  hys : ∀ j, j < k → ys[j]? = some (.bool (insP l j))

theorem RInv.below {l : List Ins} {W1 wr w' : World} {gr gi k : Nat} {v : Value} {st : List (Int × Int)} {xs ys : List Value} (h : RInv l W1 wr gr gi k v st xs ys) (hb : Below wr.heap.size wr w') : RInv l W1 w' gr gi k v st xs ys :=
  ⟨below_step h.hb h.hb.size hb, h.hgr, own_below h.own5 hb, own_below h.own6 hb, own_below h.own7 hb, h.hlt, h.hxs, h.hys⟩

theorem RInv.set5 {l : List Ins} {W1 wr : World} {gr gi k : Nat} {v : Value} {st : List (Int × Int)} {xs ys : List Value} (h : RInv l W1 wr gr gi k v st xs ys) (u : Value) : RInv l W1 (wr.setCell ⟨gr, k, none⟩ u) gr gi k v st (xs.set k u) ys := by
  obtain ⟨a1, a2⟩ := h.own5.stored k u
  have hlt := h.hlt
  refine ⟨h.hb.setCell h.hgr u, h.hgr, a1, h.own6.kept a2 (.inr ?_), h.own7.kept a2 ?_, hlt, fun j hj => ?_, h.hys⟩
  · simp [Value.ownBlock]; omega
  · by_cases hn : v.ownBlock = none
    · exact .inl hn
    · refine .inr fun e => ?_
      have := own_block_ge h.own7 gr e; omega
  · rw [List.getElem?_set_ne (by omega)]; exact h.hxs j hj
theorem RInv.set6 {l : List Ins} {W1 wr : World} {gr gi k : Nat} {v : Value} {st : List (Int × Int)} {xs ys : List Value} (h : RInv l W1 wr gr gi k v st xs ys) (u : Value) : RInv l W1 (wr.setCell ⟨gi, k, none⟩ u) gr gi k v st xs (ys.set k u) := by
  obtain ⟨a1, a2⟩ := h.own6.stored k u
  have hlt := h.hlt
  have := h.hgr
  refine ⟨h.hb.setCell (by show W1.heap.size ≤ gi; omega) u, h.hgr, h.own5.kept a2 (.inr ?_), a1, h.own7.kept a2 ?_, hlt, h.hxs, fun j hj => ?_⟩
  · simp [Value.ownBlock]; omega
  · by_cases hn : v.ownBlock = none
    · exact .inl hn
    · refine .inr fun e => ?_
      have := own_block_ge h.own7 gi e; omega
  · rw [List.getElem?_set_ne (by omega)]; exact h.hys j hj
theorem RInv.next {l : List Ins} {W1 wr : World} {gr gi k : Nat} {v : Value} {st : List (Int × Int)} {xs ys : List Value} (h : RInv l W1 wr gr gi k v st xs ys) (hx : xs[k]? = some (.int .i64 (regP l k))) (hy : ys[k]? = some (.bool (insP l k))) : RInv l W1 wr gr gi (k + 1) v st xs ys :=
  ⟨h.hb, h.hgr, h.own5, h.own6, h.own7, h.hlt, fun j hj => by
    by_cases e : j = k
    · rw [e]; exact hx
    · exact h.hxs j (by omega), fun j hj => by
    by_cases e : j = k
    · rw [e]; exact hy
    · exact h.hys j (by omega)⟩
theorem RInv.grown {l : List Ins} {W1 wr w' : World} {gr gi k : Nat} {v v' : Value} {st st' : List (Int × Int)} {xs ys : List Value} (h : RInv l W1 wr gr gi k v st xs ys) (hg : wr.grownBy w' v.ownBlock) (ho : w'.ownsRow (gi + 1) 60 2 v' st'.length (rowOf st')) : RInv l W1 w' gr gi k v' st' xs ys := by
  have hlt := h.hlt
  have hgr := h.hgr
  have hge := own_block_ge h.own7
  refine ⟨h.hb.grown hg h.hb.size (fun g e => by have := hge g e; omega), h.hgr, h.own5.kept hg (.inr fun e => ?_), h.own6.kept hg (.inr fun e => ?_), ho, hlt, h.hxs, h.hys⟩
  · have := hge gr (by rw [← e]; rfl); omega
  · have := hge gi (by rw [← e]; rfl); omega
theorem RInv.xs_len {l : List Ins} {W1 wr : World} {gr gi k : Nat} {v : Value} {st : List (Int × Int)} {xs ys : List Value} (h : RInv l W1 wr gr gi k v st xs ys) : xs.length = l.length ∧ ys.length = l.length := ⟨by have := h.own5.1; omega, by have := h.own6.1; omega⟩

theorem two_new {w : World} {B : Nat} (hB : B = w.heap.size) (v u : Value) (T : TypeId) : ∀ (j : Nat) (x : Value), [v, u][j]? = some x → (w.alloc (Obj.cells #[v, u] T)).cell? ((⟨B, 0, none⟩ : Addr).add j) = some x := by
  subst hB
  intro j x hj
  match j, hj with
  | 0, hj => simp at hj; subst hj; rw [add0]; simp [go_sem]
  | 1, hj => simp at hj; subst hj; rw [add0]; simp [go_sem]
  | j + 2, hj => simp at hj
theorem two_int (a b : Int) : ∀ u : Value, u ∈ [Value.int IntKind.i64 a, Value.int IntKind.i64 b] → u.oneCell' = true := by
  intro u hu; simp at hu; rcases hu with rfl | rfl <;> rfl

def lenOf : Value → Nat | .slice _ n _ => n | _ => 0
theorem made_length (z : Value) (hz : z.cells.size = 1) (n : Nat) : (madeCells z.cells (n * 1)).toList.length = n := by
  simp [madeCells, hz]
theorem popK_yes {k : Nat} {p : Int × Int} {r : List (Int × Int)} (h : p.2 < k) : popK k (p :: r) = popK k r := by
  simp [popK, h]
theorem popK_no {k : Nat} {p : Int × Int} {r : List (Int × Int)} (h : ¬ p.2 < k) : popK k (p :: r) = p :: r := by
  simp [popK, h]
theorem rowOf_top {w : World} {base : Nat} {e : TypeId} {g cap : Nat} {p : Int × Int} {r : List (Int × Int)} (h : w.ownsRow base e 2 (.slice (some ⟨g, 0, none⟩) (r.length + 1) cap) (r.length + 1) (rowOf (p :: r))) : w.cell? ⟨g, r.length * 2, none⟩ = some (.int .i64 p.1) ∧ w.cell? ⟨g, r.length * 2 + 1, none⟩ = some (.int .i64 p.2) := by
  have hl := rowOf_length r
  refine ⟨?_, ?_⟩
  · rw [h.cellAt (r.length * 2) (by omega)]
    simp only [rowOf]; rw [List.getElem?_append_right (by omega), hl]; simp
  · rw [h.cellAt (r.length * 2 + 1) (by omega)]
    simp only [rowOf]; rw [List.getElem?_append_right (by omega), hl]; simp

theorem info_bool : (Tryd.prog.info? 4).map (fun i => (i.zero, i.size, i.bytes)) = some (some (.bool false), 1, 1) := by kernel_rfl
theorem info_link : (Tryd.prog.info? 60).map (fun i => (i.zero, i.size, i.bytes)) = some (some (.agg #[.int .i64 0, .int .i64 0]), 2, 16) := by kernel_rfl

def BoolsAt (w : World) (A : Option Addr) (l : List Bool) : Prop :=
  ∀ k x, l[k]? = some x → ∃ b o, A = some ⟨b, o, none⟩ ∧ b < w.heap.size ∧ w.cell? ⟨b, o + k, none⟩ = some (.bool x)

def RetRegions (l : List Ins) (w : World) (e : Ending) (w' : World) : Prop :=
  ∃ A5 A6, e = .returned (.tuple #[.slice A5 l.length l.length, .slice A6 l.length l.length]) ∧ IntsAt w' A5 ((List.range l.length).map (regP l)) ∧ BoolsAt w' A6 ((List.range l.length).map (insP l)) ∧ Below w.heap.size w w'

set_option maxRecDepth 100000 in
set_option maxHeartbeats 2000000 in
theorem regions_any (l : List Ins) (A : Option Addr) (cap : Nat) (w : World) (hC : CodeAt w A l) (hY : Bytes l) (hT : Tab w) (hl : l.length ≤ 1000000) :
    Calls Tryd.prog 35 #[.slice A l.length cap] w (RetRegions l w) := by
  have hbW := below_box w (Obj.cells #[Value.slice A l.length cap, Value.int IntKind.i64 0, Value.int IntKind.i64 0] 24)
  have im := imgAt_box w 24 A cap 0 0 l hC
  have HT := Lib.hid (hT.mono hbW)
  clear hC hT
  obtain ⟨i0, hi, hz0, hz1, hz2⟩ := info_parts info_int
  have HI := Lib.hid (And.intro hi (And.intro hz0 (And.intro hz1 hz2)))
  obtain ⟨j0, hj, hy0, hy1, hy2⟩ := info_parts info_bool
  have HJ := Lib.hid (And.intro hj (And.intro hy0 (And.intro hy1 hy2)))
  obtain ⟨k0, hk, hw0, hw1, hw2⟩ := info_parts info_link
  have HK := Lib.hid (And.intro hk (And.intro hw0 (And.intro hw1 hw2)))
  clear hi hz0 hz1 hz2 hj hy0 hy1 hy2 hk hw0 hw1 hw2
  go_enter Tryd.func35, Tryd.ntmps35
  go_wp2_with (first
    | (at_make; refine wpList_make_full _ rfl _ _ 44 rfl _ 3 i0 (.int .i64 0) 1 Tryd.underlying44 HI.out.1 HI.out.2.1 HI.out.2.2.1 .i64 .i64 _ _ l.length rfl rfl rfl rfl (by rw [HI.out.2.2.2]; omega) (by unfold maxLen; omega) (Nat.le_refl _) ?_; intro W2 own5 hg5)
    | (at_make; refine wpList_make_full _ rfl _ _ 55 rfl _ 4 j0 (.bool false) 1 Tryd.underlying55 HJ.out.1 HJ.out.2.1 HJ.out.2.2.1 .i64 .i64 _ _ l.length rfl rfl rfl rfl (by rw [HJ.out.2.2.2]; omega) (by unfold maxLen; omega) (Nat.le_refl _) ?_; intro W3 own6 hg6))
  have hs1 : (w.alloc (Obj.cells #[Value.slice A l.length cap, Value.int IntKind.i64 0, Value.int IntKind.i64 0] 24)).heap.size = w.heap.size + 1 := by simp
  have inv0 : RInv l (w.alloc (Obj.cells #[Value.slice A l.length cap, Value.int IntKind.i64 0, Value.int IntKind.i64 0] 24)) W3 (w.heap.size + 1) W2.heap.size 0 (.slice none 0 0) (stk l 0) (madeCells (Value.int IntKind.i64 0).cells (l.length * 1)).toList (madeCells (Value.bool false).cells (l.length * 1)).toList := by
    have hb5 : Below (w.alloc (Obj.cells #[Value.slice A l.length cap, Value.int IntKind.i64 0, Value.int IntKind.i64 0] 24)).heap.size (w.alloc (Obj.cells #[Value.slice A l.length cap, Value.int IntKind.i64 0, Value.int IntKind.i64 0] 24)) W2 := (Below.refl _ _).grown hg5 (Nat.le_refl _) (fun g h => by cases h)
    have hb6 : Below W2.heap.size W2 W3 := (Below.refl _ _).grown hg6 (Nat.le_refl _) (fun g h => by cases h)
    rw [hs1] at own5
    have hlt5 := own_lt own5
    exact ⟨below_step hb5 hb5.size hb6, by rw [hs1]; exact Nat.le_refl _, own_below own5 hb6, own6, ⟨rfl, .inl ⟨rfl, rfl⟩⟩, hlt5.1, fun j hj => by omega, fun j hj => by omega⟩
  generalize w.alloc _ = W1 at hbW im HT own5 hg5 hs1 inv0
  clear own5 own6 hg5 hg6
  generalize W2.heap.size = gi at inv0 ⊢
  generalize hgr : w.heap.size + 1 = gr at *
  have HGR := Lib.hid hgr
  clear hgr
  go_loopw [7, 22] (fun v i wr => ∃ (k : Nat) (xs ys : List Value), k ≤ l.length ∧ i = .int .i64 k ∧ Hid (RInv l W1 wr gr gi k v (stk l k) xs ys)) (fun _ i _ => l.length - (intOf i).toNat)
  case atStart => exact ⟨0, _, _, by omega, rfl, inv0⟩
  case round =>
    obtain ⟨k, xs, ys, hk, rfl, inv⟩ := hrel
    clear inv0
    by_cases hin : k < l.length
    · have im1 := im.mono inv.out.hb
      obtain ⟨b, o, rfl, hi⟩ := im1.code.at_ hin
      have hlt := hi.lt
      obtain ⟨c0, c1, c2, c3, c4⟩ := id hi
      have hx : atI l (k : Int) = l[k] := atI_nat hin
      generalize hxl : l[k] = x at *
      have Hx := Lib.hid hx
      clear hx hxl
      obtain ⟨A7, c7, rfl, hc7, hg7⟩ := own_form inv.out.own7
      have hsl := stk_length l k
      go_wp2
      have hbx := below_box wr (Obj.cells #[Value.int IntKind.u8 ↑x.op, Value.int IntKind.i64 x.a, Value.int IntKind.i64 x.b, Value.int IntKind.i64 x.c, Value.int IntKind.i64 x.d] 38)
      have ix := insAt_box wr 38 x.op x.a x.b x.c x.d
      have inv2 := Lib.hid (inv.out.below hbx)
      clear c0 c1 c2 c3 c4 hi hlt im1
      generalize wr.alloc _ = W4 at hbx ix inv2 ⊢
      go_loop [7] (fun v => ∃ st : List (Int × Int), st.length ≤ k ∧ Hid (popK k (stk l k) = popK k st ∧ W4.ownsRow (gi + 1) 60 2 v st.length (rowOf st))) (fun v => lenOf v)
      case atStart => exact ⟨stk l k, hsl, rfl, inv2.out.own7⟩
      case round =>
        obtain ⟨st, hst, hpo⟩ := hrel
        obtain ⟨A8, c8, rfl, hc8, hg8⟩ := own_form hpo.out.2
        cases st with
        | nil =>
          simp only [List.length_nil] at *
          have hP : Hid (popK k (stk l k) = []) := hpo.out.1
          obtain ⟨P, hPe⟩ : ∃ P : List (Int × Int), P = [] := ⟨_, rfl⟩
          obtain ⟨vP, hvP⟩ : ∃ vP : Value, vP = .slice A8 0 c8 := ⟨_, rfl⟩
          have hown : W4.ownsRow (gi + 1) 60 2 vP P.length (rowOf P) := by rw [hvP, hPe]; exact hpo.out.2
          have invP : Hid (RInv l W1 W4 gr gi k vP P xs ys) := ⟨inv2.out.hb, inv2.out.hgr, inv2.out.own5, inv2.out.own6, hown, inv2.out.hlt, inv2.out.hxs, inv2.out.hys⟩
          have hlt6 := own_lt inv2.out.own6
          have hlt5 := own_lt inv2.out.own5
          have hgg := inv2.out.hlt
          have hgr1 := inv2.out.hgr
          have s6c : W4.cell? ⟨gi, k, none⟩ = some (ys[k]'(by have := inv2.out.own6.1; omega)) := by rw [inv2.out.own6.cellAt k (by omega)]; exact List.getElem?_eq_getElem _
          have s6f := inv2.out.own6.frozenAt k
          have im4 := im.mono inv2.out.hb
          obtain ⟨b0, b1, b2, bc⟩ := id im4
          have hne1 : w.heap.size ≠ gi := by have := HGR.out; omega
          have hne2 : gi ≠ w.heap.size := by have := HGR.out; omega
          clear bc
          subst hPe hvP
          clear hpo hown
          go_wp2_with fail
          have inv5 := Lib.hid (invP.out.set6 (.bool false))
          have im5 := im.mono inv5.out.hb
          have hwr : gi < wr.heap.size := (own_lt inv.out.own6).1
          have ix5 := ix.setOther gi k (.bool false) (by omega)
          have HT5 := Lib.hid (HT.out.mono inv5.out.hb)
          clear s6c s6f b0 b1 b2 im4 invP inv2
          generalize W4.setCell _ _ = W5 at inv5 im5 ix5 HT5 ⊢
          refine (partner_any l _ _ _ _ _ _ im5.code hY HT5.out hl).mono ?_
          rintro e w6 ⟨rfl, hb6⟩
          have inv6 := Lib.hid (inv5.out.below hb6)
          have ix6 := ix5.mono hb6
          clear inv5 im5 ix5 HT5 hb6
          obtain ⟨d0, d1, d2, d3, d4, dz⟩ := id ix6
          have hyk := Lib.hid (show (ys.set k (.bool false))[k]? = some (.bool (insP l k)) by
            rw [List.getElem?_set_self (by have := inv.out.xs_len.2; omega)]; unfold insP; rw [hP.out]; rfl)
          have hxl6 := inv6.out.xs_len.1
          by_cases hpush : x.op = 32 ∧ (ptn l (k : Int)).isSome = true
          · obtain ⟨e, hpe⟩ := Option.isSome_iff_exists.1 hpush.2
            have hstk := Lib.hid (show stk l (k + 1) = ((k : Int), e) :: [] by
              show pushK l k (popK k (stk l k)) = _
              rw [hP.out]; unfold pushK; rw [Hx.out, if_pos hpush.1, hpe])
            have f1 : (ptn l (k : Int)).isSome = true := hpush.2
            have f2 : ptnI (ptn l (k : Int)) = e := by rw [hpe]; rfl
            have f3 : ((x.op : Int) == 32) = true := by rw [beq_iff_eq]; have := hpush.1; omega
            clear hpush hpe
            have hw6 := (own_lt inv6.out.own6).1
            go_wp2_with (at_builtin; go_loud (refine wpList_append_own _ rfl _ _ 68 rfl (gi + 1) 60 k0 (.agg #[.int .i64 0, .int .i64 0]) 2 16 Tryd.underlying68 HK.out.1 HK.out.2.1 HK.out.2.2.1 HK.out.2.2.2 rfl (by decide) _ (List.length ([] : List (Int × Int))) (rowOf []) rfl (inv6.out.own7.alloc _) ⟨w6.heap.size, 0, none⟩ 1 1 [.int .i64 k, .int .i64 e] rfl rfl (two_new rfl _ _ _) (two_int _ _) (by unfold maxLen; first | (simp; done) | (simp; omega)) (by first | (simp; done) | (simp; omega)) (by first | (simp; done) | (simp; omega)) ?_; intro v' w7 hown' hgrow _; have own8 : w7.ownsRow (gi + 1) 60 2 v' (((k : Int), e) :: []).length (rowOf (((k : Int), e) :: [])) := (by simpa [rowOf] using hown'); have inv7 := Lib.hid ((inv6.out.below (below_box w6 _)).grown hgrow own8); clear hown' hgrow inv6; obtain ⟨A9, c9, rfl, hc9, hg9⟩ := own_form own8; obtain ⟨g9, rfl, hge9⟩ := hg9 (by simp); obtain ⟨t0', t1'⟩ := rowOf_top own8; have hlen9 : (((k : Int), e) :: []).length = ([] : List (Int × Int)).length + 1 := rfl; have s5c : w7.cell? ⟨gr, k, none⟩ = some (xs[k]'(by omega)) := (by rw [inv7.out.own5.cellAt k (by omega)]; exact List.getElem?_eq_getElem _); have s5f := inv7.out.own5.frozenAt k; have n1 : g9 ≠ gr := (by omega); have n2 : gr ≠ g9 := (by omega); simp only [List.length_nil, List.length_cons, Nat.zero_add, Nat.zero_mul] at own8 t0' t1' inv7 hc9))
            exact ⟨⟨k + 1, _, _, by omega, by go_num, Lib.hid (by rw [hstk.out]; exact ((inv7.out.set5 (.int .i64 (-1))).set5 (.int .i64 k)).next (by rw [List.getElem?_set_self (by simp; omega)]; unfold regP; rw [hstk.out]; rfl) hyk.out)⟩, by simp [intOf]; omega⟩
          · have hstk := Lib.hid (show stk l (k + 1) = [] by
              show pushK l k (popK k (stk l k)) = _
              rw [hP.out]; unfold pushK; rw [Hx.out]
              by_cases h32 : x.op = 32
              · rw [if_pos h32]
                cases hpe : ptn l (k : Int) with
                | none => rfl
                | some e => exact absurd ⟨h32, by rw [hpe]; rfl⟩ hpush
              · rw [if_neg h32])
            have s5c : w6.cell? ⟨gr, k, none⟩ = some (xs[k]'(by omega)) := by rw [inv6.out.own5.cellAt k (by omega)]; exact List.getElem?_eq_getElem _
            have s5f := inv6.out.own5.frozenAt k
            by_cases f1 : (ptn l (k : Int)).isSome = true
            · have f3 : ((x.op : Int) == 32) = false := beq_eq_false_iff_ne.2 (fun h => hpush ⟨by omega, f1⟩)
              clear hpush
              go_wp2
              exact ⟨⟨k + 1, _, _, by omega, by go_num, Lib.hid (by rw [hstk.out]; exact (inv6.out.set5 (.int .i64 (-1))).next (by rw [List.getElem?_set_self (by omega)]; unfold regP; rw [hstk.out]; rfl) hyk.out)⟩, by simp [intOf]; omega⟩
            · have f1' : (ptn l (k : Int)).isSome = false := by simpa using f1
              clear hpush f1
              go_wp2
              exact ⟨⟨k + 1, _, _, by omega, by go_num, Lib.hid (by rw [hstk.out]; exact (inv6.out.set5 (.int .i64 (-1))).next (by rw [List.getElem?_set_self (by omega)]; unfold regP; rw [hstk.out]; rfl) hyk.out)⟩, by simp [intOf]; omega⟩
        | cons p r =>
          simp only [List.length_cons] at *
          obtain ⟨g, rfl, hgg⟩ := hg8 (by omega)
          obtain ⟨t0, t1⟩ := rowOf_top hpo.out.2
          by_cases hpop : p.2 < k
          · have hpo' : Hid (popK k (stk l k) = popK k r ∧ W4.ownsRow (gi + 1) 60 2 (.slice (some ⟨g, 0, none⟩) r.length c8) r.length (rowOf r)) := ⟨hpo.out.1.trans (popK_yes hpop), own_pop hpo.out.2⟩
            clear hpo
            go_wp2
            exact ⟨⟨r, by omega, hpo'⟩, by simp [lenOf]⟩
          · have hP : Hid (popK k (stk l k) = p :: r) := hpo.out.1.trans (popK_no hpop)
            obtain ⟨P, hPe⟩ : ∃ P : List (Int × Int), P = p :: r := ⟨_, rfl⟩
            obtain ⟨vP, hvP⟩ : ∃ vP : Value, vP = .slice (some ⟨g, 0, none⟩) (r.length + 1) c8 := ⟨_, rfl⟩
            have hown : W4.ownsRow (gi + 1) 60 2 vP P.length (rowOf P) := by rw [hvP, hPe]; exact hpo.out.2
            have hgg0 := hgg
            clear hgg
            have invP : Hid (RInv l W1 W4 gr gi k vP P xs ys) := ⟨inv2.out.hb, inv2.out.hgr, inv2.out.own5, inv2.out.own6, hown, inv2.out.hlt, inv2.out.hxs, inv2.out.hys⟩
            have hlt6 := own_lt inv2.out.own6
            have hlt5 := own_lt inv2.out.own5
            have hgg := inv2.out.hlt
            have hgr1 := inv2.out.hgr
            have s6c : W4.cell? ⟨gi, k, none⟩ = some (ys[k]'(by have := inv2.out.own6.1; omega)) := by rw [inv2.out.own6.cellAt k (by omega)]; exact List.getElem?_eq_getElem _
            have s6f := inv2.out.own6.frozenAt k
            have im4 := im.mono inv2.out.hb
            obtain ⟨b0, b1, b2, bc⟩ := id im4
            have hne1 : w.heap.size ≠ gi := by have := HGR.out; omega
            have hne2 : gi ≠ w.heap.size := by have := HGR.out; omega
            clear bc
            subst hPe hvP
            clear hpo hown
            go_wp2_with fail
            have inv5 := Lib.hid (invP.out.set6 (.bool true))
            have im5 := im.mono inv5.out.hb
            have hwr : gi < wr.heap.size := (own_lt inv.out.own6).1
            have ix5 := ix.setOther gi k (.bool true) (by omega)
            have HT5 := Lib.hid (HT.out.mono inv5.out.hb)
            clear s6c s6f b0 b1 b2 im4 invP inv2
            generalize W4.setCell _ _ = W5 at inv5 im5 ix5 HT5 ⊢
            refine (partner_any l _ _ _ _ _ _ im5.code hY HT5.out hl).mono ?_
            rintro e w6 ⟨rfl, hb6⟩
            have inv6 := Lib.hid (inv5.out.below hb6)
            have ix6 := ix5.mono hb6
            clear inv5 im5 ix5 HT5 hb6
            obtain ⟨d0, d1, d2, d3, d4, dz⟩ := id ix6
            have hyk := Lib.hid (show (ys.set k (.bool true))[k]? = some (.bool (insP l k)) by
              rw [List.getElem?_set_self (by have := inv.out.xs_len.2; omega)]; unfold insP; rw [hP.out]; rfl)
            have hxl6 := inv6.out.xs_len.1
            clear t0 t1
            by_cases hpush : x.op = 32 ∧ (ptn l (k : Int)).isSome = true
            · obtain ⟨e, hpe⟩ := Option.isSome_iff_exists.1 hpush.2
              have hstk := Lib.hid (show stk l (k + 1) = ((k : Int), e) :: (p :: r) by
                show pushK l k (popK k (stk l k)) = _
                rw [hP.out]; unfold pushK; rw [Hx.out, if_pos hpush.1, hpe])
              have f1 : (ptn l (k : Int)).isSome = true := hpush.2
              have f2 : ptnI (ptn l (k : Int)) = e := by rw [hpe]; rfl
              have f3 : ((x.op : Int) == 32) = true := by rw [beq_iff_eq]; have := hpush.1; omega
              clear hpush hpe
              have hw6 := (own_lt inv6.out.own6).1
              go_wp2_with (at_builtin; go_loud (refine wpList_append_own _ rfl _ _ 68 rfl (gi + 1) 60 k0 (.agg #[.int .i64 0, .int .i64 0]) 2 16 Tryd.underlying68 HK.out.1 HK.out.2.1 HK.out.2.2.1 HK.out.2.2.2 rfl (by decide) _ (List.length ((p :: r) : List (Int × Int))) (rowOf (p :: r)) rfl (inv6.out.own7.alloc _) ⟨w6.heap.size, 0, none⟩ 1 1 [.int .i64 k, .int .i64 e] rfl rfl (two_new rfl _ _ _) (two_int _ _) (by unfold maxLen; first | (simp; done) | (simp; omega)) (by first | (simp; done) | (simp; omega)) (by first | (simp; done) | (simp; omega)) ?_; intro v' w7 hown' hgrow _; have own8 : w7.ownsRow (gi + 1) 60 2 v' (((k : Int), e) :: (p :: r)).length (rowOf (((k : Int), e) :: (p :: r))) := (by simpa [rowOf] using hown'); have inv7 := Lib.hid ((inv6.out.below (below_box w6 _)).grown hgrow own8); clear hown' hgrow inv6; obtain ⟨A9, c9, rfl, hc9, hg9⟩ := own_form own8; obtain ⟨g9, rfl, hge9⟩ := hg9 (by simp); obtain ⟨t0', t1'⟩ := rowOf_top own8; have hlen9 : (((k : Int), e) :: (p :: r)).length = ((p :: r) : List (Int × Int)).length + 1 := rfl; have s5c : w7.cell? ⟨gr, k, none⟩ = some (xs[k]'(by omega)) := (by rw [inv7.out.own5.cellAt k (by omega)]; exact List.getElem?_eq_getElem _); have s5f := inv7.out.own5.frozenAt k; have n1 : g9 ≠ gr := (by omega); have n2 : gr ≠ g9 := (by omega); simp only [List.length_cons] at own8 t0' t1' inv7 hc9))
              exact ⟨⟨k + 1, _, _, by omega, by go_num, Lib.hid (by rw [hstk.out]; exact ((inv7.out.set5 (.int .i64 (-1))).set5 (.int .i64 k)).next (by rw [List.getElem?_set_self (by simp; omega)]; unfold regP; rw [hstk.out]; rfl) hyk.out)⟩, by simp [intOf]; omega⟩
            · have hstk := Lib.hid (show stk l (k + 1) = (p :: r) by
                show pushK l k (popK k (stk l k)) = _
                rw [hP.out]; unfold pushK; rw [Hx.out]
                by_cases h32 : x.op = 32
                · rw [if_pos h32]
                  cases hpe : ptn l (k : Int) with
                  | none => rfl
                  | some e => exact absurd ⟨h32, by rw [hpe]; rfl⟩ hpush
                · rw [if_neg h32])
              have s5c : w6.cell? ⟨gr, k, none⟩ = some (xs[k]'(by omega)) := by rw [inv6.out.own5.cellAt k (by omega)]; exact List.getElem?_eq_getElem _
              have s5f := inv6.out.own5.frozenAt k
              obtain ⟨t0, t1⟩ := rowOf_top inv6.out.own7
              have n1 : g ≠ gr := by omega
              have n2 : gr ≠ g := by omega
              by_cases f1 : (ptn l (k : Int)).isSome = true
              · have f3 : ((x.op : Int) == 32) = false := beq_eq_false_iff_ne.2 (fun h => hpush ⟨by omega, f1⟩)
                clear hpush
                go_wp2
                exact ⟨⟨k + 1, _, _, by omega, by go_num, Lib.hid (by rw [hstk.out]; exact ((inv6.out.set5 (.int .i64 (-1))).set5 (.int .i64 p.1)).next (by rw [List.getElem?_set_self (by simp; omega)]; unfold regP; rw [hstk.out]; rfl) hyk.out)⟩, by simp [intOf]; omega⟩
              · have f1' : (ptn l (k : Int)).isSome = false := by simpa using f1
                clear hpush f1
                go_wp2
                exact ⟨⟨k + 1, _, _, by omega, by go_num, Lib.hid (by rw [hstk.out]; exact ((inv6.out.set5 (.int .i64 (-1))).set5 (.int .i64 p.1)).next (by rw [List.getElem?_set_self (by simp; omega)]; unfold regP; rw [hstk.out]; rfl) hyk.out)⟩, by simp [intOf]; omega⟩
    · have hkn : k = l.length := by omega
      have hb' := inv.out.hb
      have q := below_step hbW hbW.size hb'
      obtain ⟨A7, c7, rfl, hc7, hg7⟩ := own_form inv.out.own7
      go_wp2
      go_ret2
      refine ⟨some ⟨gr, 0, none⟩, some ⟨gi, 0, none⟩, rfl, fun j x hj => ⟨gr, 0, rfl, (own_lt inv.out.own5).1, ?_⟩, fun j x hj => ⟨gi, 0, rfl, (own_lt inv.out.own6).1, ?_⟩, q⟩
      · have hjl : j < l.length := by
          have := (List.getElem?_eq_some_iff.1 hj).1; simpa using this
        rw [Nat.zero_add, inv.out.own5.cellAt j (by omega), inv.out.hxs j (by omega)]
        simp [hjl] at hj; rw [hj]
      · have hjl : j < l.length := by
          have := (List.getElem?_eq_some_iff.1 hj).1; simpa using this
        rw [Nat.zero_add, inv.out.own6.cellAt j (by omega), inv.out.hys j (by omega)]
        simp [hjl] at hj; rw [hj]

end Go.Proofs.YthakiaicnhkfjaaDoor
