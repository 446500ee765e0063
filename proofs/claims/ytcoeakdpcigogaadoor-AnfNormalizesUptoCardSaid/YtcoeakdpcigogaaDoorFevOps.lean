/-
  The contracts of slices.Clone at ints, funeval.clone and funeval.operate.
-/
import Derived.Test.YtcoeakdpcigogaaDoorFevMap
import Derived.Test.YtcoeakdpcigogaaDoorFevArith
import Derived.Test.YtcoeakdpcigogaaDoorFunRow
import Derived.WalkSpells
namespace Go.Proofs.YtcoeakdpcigogaaDoor
open Go.ChangeShapes Go.WideShapes Go.ChangeAt Go.RowKit Go.Sort Go.Maps

/-- A new slice of integers. -/
def RetNew (l : List Int) (w : World) (e : Ending) (w' : World) : Prop := ∃ A c, e = .returned (.slice A l.length c) ∧ IntsC w' (Nw w w') A c l ∧ Below w.heap.size w w'

set_option maxRecDepth 100000 in
theorem cloneI_any (l : List Int) (A : Option Addr) (cap : Nat) (w : World) (hL : IntsAt w A l) (hl : l.length ≤ 1000000) :
    Calls Tryd.prog 36 #[.slice A l.length cap] w (RetNew l w) := by
  cases A with
  | none =>
    have h0 : l = [] := by
      cases l with
      | nil => rfl
      | cons x r => obtain ⟨b, o, e, _⟩ := hL 0 x rfl; cases e
    subst h0
    have HF := Lib.hid (show RetNew [] w (.returned (.slice none 0 0)) w from ⟨none, 0, rfl, IntsC.nil _ _ _ _, Below.refl _ _⟩)
    clear hL hl
    have hq := fun w => Lib.run_eql_slice_nil (P := Tryd.prog) w 44 3 none 0 cap 0 0 Tryd.underlying44
    go_enter Tryd.func36, Tryd.ntmps36
    go_wp2_with fail
    go_ret
    exact HF.out
  | some a =>
    obtain ⟨i0, hi0, hz0, hz1, hz2⟩ := info_parts info_int
    have HI := Lib.hid (And.intro hi0 (And.intro hz0 (And.intro hz1 hz2)))
    have hb := below_box w (Obj.cells #[] 3)
    have HL := Lib.hid (hL.mono hb)
    have HOW := Lib.hid (own_empty w (e := 3) (size := 1))
    clear hi0 hz0 hz1 hz2 hL
    have hq := fun w => Lib.run_eql_slice_nil (P := Tryd.prog) w 44 3 (some a) l.length cap 0 0 Tryd.underlying44
    go_enter Tryd.func36, Tryd.ntmps36
    go_wp2_with (at_builtin; go_loud (refine wpList_app _ rfl _ _ 44 rfl w.heap.size 3 i0 (.int .i64 0) 1 8 Tryd.underlying44 HI.out.1 HI.out.2.1 HI.out.2.2.1 HI.out.2.2.2 rfl (by decide) _ 0 [] rfl HOW.out (some a) l.length cap (l.map (Value.int .i64)) rfl (by simp) HL.out.cells (ints_one _) (by unfold maxLen; omega) (by omega) hb.size ?_; intro v' w6 hown' hgrow _; rw [Nat.zero_add, List.nil_append] at hown'; have q6 := Lib.hid (hb.grown hgrow hb.size (fun k hk => (by cases hk; exact Nat.le_refl _))); obtain ⟨A6, c6, rfl, h6⟩ := intsC_of_own (X := Nw w w6) hown' (own_nw hown' (Nat.le_refl _)); have HF := Lib.hid (show RetNew l w (.returned (.slice A6 l.length c6)) w6 from ⟨A6, c6, rfl, h6, q6.out⟩); clear hown' hgrow h6))
    go_ret
    exact HF.out

/-- What funeval.clone returns. -/
def RetCln (x : Vl) (w : World) (e : Ending) (w' : World) : Prop := ∃ A c, e = .returned (.agg #[.bool (cln x).list, .int .i64 (cln x).n, .slice A (cln x).l.length c]) ∧ IntsC w' (Nw w w') A c (cln x).l ∧ Below w.heap.size w w'

set_option maxRecDepth 100000 in
theorem clone_any (x : Vl) (A : Option Addr) (cap : Nat) (w : World) (hL : IntsAt w A x.l) (hl : x.l.length ≤ 1000000) :
    Calls Tryd.prog 76 #[.agg #[.bool x.list, .int .i64 x.n, .slice A x.l.length cap]] w (RetCln x w) := by
  obtain ⟨xl, xn, xs⟩ := x
  simp only at *
  have b1 := below_box w (Obj.cells #[.bool xl, .int .i64 xn, .slice A xs.length cap] 46)
  have b2 := below_step b1 b1.size (below_box (w.alloc (Obj.cells #[.bool xl, .int .i64 xn, .slice A xs.length cap] 46)) (Obj.cells #[.bool false, .int .i64 0, .slice none 0 0] 46))
  have HL := Lib.hid (hL.mono b2)
  clear hL b1
  have rb := bx_new (w.alloc (Obj.cells #[.bool xl, .int .i64 xn, .slice A xs.length cap] 46)) #[.bool false, .int .i64 0, .slice none 0 0] 46
  rw [show (w.alloc (Obj.cells #[.bool xl, .int .i64 xn, .slice A xs.length cap] 46)).heap.size = w.heap.size + 1 by simp] at rb
  cases xl with
  | true =>
    go_enter Tryd.func76, Tryd.ntmps76
    go_wp2_with fail
    generalize World.alloc _ _ = W at HL b2 rb ⊢
    refine (cloneI_any xs A cap W HL.out hl).mono ?_
    rintro e w1 ⟨A1, c1, rfl, h1, hb1⟩
    have q1 := Lib.hid (below_step b2 b2.size hb1)
    have rb1 := rb.below hb1
    obtain ⟨r0, r1, r2, z0, z1, z2⟩ := rb1.three
    have hlt := Lib.hid rb1.lt
    have h2 := Lib.hid h1
    have hW := b2.size
    have hW2 := rb.lt
    clear rb h1 hb1 b2 HL
    go_wp2_with fail
    have rb2 := rb1.set3 (.bool true) (.int .i64 0) (.slice A1 xs.length c1)
    have f2 := Fr.set3 w1 (w.heap.size + 1) (.bool true) (.int .i64 0) (.slice A1 xs.length c1)
    obtain ⟨s0, s1, s2, _⟩ := rb2.three
    refine bodyPost_ret (v := .agg #[.bool true, .int .i64 0, .slice A1 xs.length c1]) (by simp [results, Tryd.results76, go_sem, r0, r1, r2]) rfl ⟨A1, c1, rfl, ?_, f2.toBelow q1.out q1.out.size (fun k hk => by omega)⟩
    exact h2.out.le (Le.of_nw (w := w) f2 (fun k _ e => .inl (by omega)) (fun k _ e => .inl (by omega)) (fun k e => .inr e))
  | false =>
    go_enter Tryd.func76, Tryd.ntmps76
    go_wp2_with fail
    exact bodyPost_ret (v := .agg #[.bool false, .int .i64 xn, .slice none 0 0]) (by simp [results, Tryd.results76, go_sem]) rfl ⟨none, 0, rfl, IntsC.nil _ _ _ _, ((Below.refl _ _).alloc (Nat.le_refl _) _).alloc (by simp) _⟩

/-- What funeval.operate returns. -/
def RetO (r : Vl × Int) (X : Nat → Prop) (w : World) (e : Ending) (w' : World) : Prop :=
  (r.2 = 0 ∧ ∃ A c, e = .returned (.tuple #[.agg #[.bool r.1.list, .int .i64 r.1.n, .slice A r.1.l.length c], .int .i64 0]) ∧ IntsC w' X A c r.1.l ∧ Below w.heap.size w w') ∨
  (r.2 ≠ 0 ∧ ∃ (b : Bool) (n : Int) (A : Option Addr) (m c : Nat), e = .returned (.tuple #[.agg #[.bool b, .int .i64 n, .slice A m c], .int .i64 r.2]) ∧ Below w.heap.size w w')
theorem two_box (w : World) (o1 o2 : Obj) : Below w.heap.size w ((w.alloc o1).alloc o2) := ((Below.refl _ _).alloc (Nat.le_refl _) _).alloc (by simp) _
theorem below_drewN {B : Nat} {a w : World} (h : Below B a w) (n : Nat) : Below B a (w.drewN n) := ⟨h.os, h.tape, h.output, h.size, h.block⟩
theorem below_set3 {B : Nat} {a w : World} (h : Below B a w) {b : Nat} (hb : B ≤ b) (v0 v1 v2 : Value) : Below B a (((w.setCell ⟨b, 0, none⟩ v0).setCell ⟨b, 1, none⟩ v1).setCell ⟨b, 2, none⟩ v2) := ((h.setCell (p := ⟨b, 0, none⟩) hb v0).setCell (p := ⟨b, 1, none⟩) hb v1).setCell (p := ⟨b, 2, none⟩) hb v2
theorem opR_82 (num : Int) (a b : Vl) : opR apR 82 num [a, b] = (⟨false, (apR num a.n b.n).1, []⟩, (apR num a.n b.n).2) := rfl

set_option maxRecDepth 100000 in
set_option maxHeartbeats 200000 in
theorem operate_82 (num : Nat) (h8 : 8 ≤ num) (h23 : num ≤ 23) (name : ByteArray) (Ak : Option Addr) (nk ck : Nat) (x y : Vl) (Al : Option Addr) (cl : Nat) (X : Nat → Prop) (w : World) (hV : VlsX w X Al [x, y]) :
    Calls Tryd.prog 84 #[.agg #[.int .u8 82, .int .i64 num, .string name, .slice Ak nk ck], .slice Al 2 cl] w (RetO (opR apR 82 num [x, y]) X w) := by
  obtain ⟨b, o, A0, c0, rfl, _, e0, e1, e2, hi⟩ := hV 0 x rfl
  obtain ⟨b', o', A1, c1, e, _, e3, e4, e5, hi'⟩ := hV 1 y rfl
  cases e
  simp only [Nat.zero_mul, Nat.add_zero, Nat.one_mul] at e0 e1 e2 e3 e4 e5
  have hb := two_box w (Obj.cells #[.int .u8 82, .int .i64 num, .string name, .slice Ak nk ck] 53) (Obj.cells #[.bool false, .int .i64 0, .slice none 0 0] 46)
  have hlt : b < w.heap.size := block_lt_of_cell e0
  rw [opR_82]
  clear hV hi hi'
  have hn1 : (num : Int) < 256 := by omega
  have hn0 : (0 : Int) ≤ num := by omega
  have hwr : IntKind.u8.wrap (num : Int) = num := by simp [IntKind.wrap, IntKind.signed, IntKind.bits]; omega
  go_enter Tryd.func84, Tryd.ntmps84
  go_wp2_with fail
  go_quiet ((go_at_call 89; exact Calls.quiet_of_same ((apply_any num h8 h23 _ _ _).mono fun _ _ h => ⟨h.1, h.2.symm⟩)))
  go_wp2_with fail
  refine bodyPost_ret (v := .tuple #[.agg #[.bool false, .int .i64 (apR num x.n y.n).1, .slice none 0 0], .int .i64 (apR num x.n y.n).2]) (by simp [results, Tryd.results84, go_sem]) rfl ?_
  have q := below_set3 (below_drewN hb nq) (b := w.heap.size + 1) (by omega) (.bool false) (.int .i64 (apR num x.n y.n).1) (.slice none 0 0)
  by_cases h0 : (apR num x.n y.n).2 = 0
  · exact .inl ⟨h0, none, 0, by rw [h0]; rfl, IntsC.nil _ _ _ _, q⟩
  · exact .inr ⟨h0, false, _, none, 0, 0, rfl, q⟩

/-! ### Lists -/
theorem opR_90 (num : Int) (a : Vl) : opR apR 90 num [a] = (match a.l with | [] => (⟨false, 1, []⟩, 0) | _ :: _ => (zeroV, 0)) := rfl
theorem opR_88 (num : Int) (a : Vl) : opR apR 88 num [a] = (match a.l with | [] => (zeroV, 13) | y :: _ => (⟨false, y, []⟩, 0)) := rfl
theorem opR_89 (num : Int) (a : Vl) : opR apR 89 num [a] = (match a.l with | [] => (zeroV, 13) | _ :: r => (⟨true, 0, r⟩, 0)) := rfl
theorem opR_87 (num : Int) (a b : Vl) : opR apR 87 num [a, b] = (if 1000 ≤ b.l.length then (zeroV, 5) else (⟨true, 0, a.n :: b.l⟩, 0)) := rfl

set_option maxRecDepth 100000 in
theorem operate_86 (num : Int) (name : ByteArray) (Ak : Option Addr) (nk ck : Nat) (l : List Vl) (Al : Option Addr) (cl : Nat) (X : Nat → Prop) (w : World) :
    Calls Tryd.prog 84 #[.agg #[.int .u8 86, .int .i64 num, .string name, .slice Ak nk ck], .slice Al l.length cl] w (RetO (opR apR 86 num l) X w) := by
  rw [show opR apR 86 num l = (⟨true, 0, []⟩, 0) from rfl]
  go_enter Tryd.func84, Tryd.ntmps84
  go_wp2_with fail
  exact bodyPost_ret (v := .tuple #[.agg #[.bool true, .int .i64 0, .slice none 0 0], .int .i64 0]) (by simp [results, Tryd.results84, go_sem]) rfl (.inl ⟨rfl, none, 0, rfl, IntsC.nil _ _ _ _, two_box w _ _⟩)

set_option maxRecDepth 100000 in
theorem operate_90 (num : Int) (name : ByteArray) (Ak : Option Addr) (nk ck : Nat) (x : Vl) (Al : Option Addr) (cl : Nat) (X : Nat → Prop) (w : World) (hV : VlsX w X Al [x]) :
    Calls Tryd.prog 84 #[.agg #[.int .u8 90, .int .i64 num, .string name, .slice Ak nk ck], .slice Al 1 cl] w (RetO (opR apR 90 num [x]) X w) := by
  obtain ⟨b, o, A0, c0, rfl, _, e0, e1, e2, hi⟩ := hV 0 x rfl
  simp only [Nat.zero_mul, Nat.add_zero] at e0 e1 e2
  have hlt : b < w.heap.size := block_lt_of_cell e0
  obtain ⟨xl, xn, xs⟩ := x
  simp only at *
  clear hV
  rw [opR_90]
  cases hxl : xs with
  | nil =>
    subst hxl
    go_enter Tryd.func84, Tryd.ntmps84
    go_wp2_with fail
    exact bodyPost_ret (v := .tuple #[.agg #[.bool false, .int .i64 1, .slice none 0 0], .int .i64 0]) (by simp [results, Tryd.results84, go_sem]) rfl (.inl ⟨rfl, none, 0, rfl, IntsC.nil _ _ _ _, two_box w _ _⟩)
  | cons z r =>
    have h1 : ((xs.length : Int) == 0) = false := by rw [hxl]; simp; omega
    clear hxl
    go_enter Tryd.func84, Tryd.ntmps84
    go_wp2_with fail
    exact bodyPost_ret (v := .tuple #[.agg #[.bool false, .int .i64 0, .slice none 0 0], .int .i64 0]) (by simp [results, Tryd.results84, go_sem]) rfl (.inl ⟨rfl, none, 0, rfl, IntsC.nil _ _ _ _, two_box w _ _⟩)

set_option maxRecDepth 100000 in
theorem operate_88 (num : Int) (name : ByteArray) (Ak : Option Addr) (nk ck : Nat) (x : Vl) (Al : Option Addr) (cl : Nat) (X : Nat → Prop) (w : World) (hV : VlsX w X Al [x]) (hl : x.l.length ≤ 1000000) :
    Calls Tryd.prog 84 #[.agg #[.int .u8 88, .int .i64 num, .string name, .slice Ak nk ck], .slice Al 1 cl] w (RetO (opR apR 88 num [x]) X w) := by
  obtain ⟨b, o, A0, c0, rfl, _, e0, e1, e2, hi⟩ := hV 0 x rfl
  simp only [Nat.zero_mul, Nat.add_zero] at e0 e1 e2
  have hlt : b < w.heap.size := block_lt_of_cell e0
  obtain ⟨xl, xn, xs⟩ := x
  simp only at *
  clear hV
  rw [opR_88]
  cases hxl : xs with
  | nil =>
    subst hxl
    go_enter Tryd.func84, Tryd.ntmps84
    go_wp2_with fail
    exact bodyPost_ret (v := .tuple #[.agg #[.bool false, .int .i64 0, .slice none 0 0], .int .i64 13]) (by simp [results, Tryd.results84, go_sem]) rfl (.inr ⟨by decide, false, 0, none, 0, 0, rfl, two_box w _ _⟩)
  | cons z r =>
    have h1 : ((xs.length : Int) == 0) = false := by rw [hxl]; simp; omega
    have hpos : 0 < xs.length := by rw [hxl]; simp
    obtain ⟨b2, o2, rfl, _, g0⟩ := hi.2 0 z (by rw [hxl]; rfl)
    rw [Nat.add_zero] at g0
    have hlt2 : b2 < w.heap.size := block_lt_of_cell g0
    clear hxl hi
    go_enter Tryd.func84, Tryd.ntmps84
    go_wp2_with fail
    exact bodyPost_ret (v := .tuple #[.agg #[.bool false, .int .i64 z, .slice none 0 0], .int .i64 0]) (by simp [results, Tryd.results84, go_sem]) rfl (.inl ⟨rfl, none, 0, rfl, IntsC.nil _ _ _ _, two_box w _ _⟩)

set_option maxRecDepth 100000 in
theorem operate_89 (num : Int) (name : ByteArray) (Ak : Option Addr) (nk ck : Nat) (x : Vl) (Al : Option Addr) (cl : Nat) (X : Nat → Prop) (w : World) (hV : VlsX w X Al [x]) (hl : x.l.length ≤ 1000000) :
    Calls Tryd.prog 84 #[.agg #[.int .u8 89, .int .i64 num, .string name, .slice Ak nk ck], .slice Al 1 cl] w (RetO (opR apR 89 num [x]) X w) := by
  obtain ⟨b, o, A0, c0, rfl, _, e0, e1, e2, hi⟩ := hV 0 x rfl
  simp only [Nat.zero_mul, Nat.add_zero] at e0 e1 e2
  have hlt : b < w.heap.size := block_lt_of_cell e0
  obtain ⟨xl, xn, xs⟩ := x
  simp only at *
  clear hV
  rw [opR_89]
  cases hxl : xs with
  | nil =>
    subst hxl
    go_enter Tryd.func84, Tryd.ntmps84
    go_wp2_with fail
    exact bodyPost_ret (v := .tuple #[.agg #[.bool false, .int .i64 0, .slice none 0 0], .int .i64 13]) (by simp [results, Tryd.results84, go_sem]) rfl (.inr ⟨by decide, false, 0, none, 0, 0, rfl, two_box w _ _⟩)
  | cons z r =>
    have h1 : ((xs.length : Int) == 0) = false := by rw [hxl]; simp; omega
    obtain ⟨hc0, hi⟩ := hi
    obtain ⟨b2, o2, rfl, _, g0⟩ := hi 0 z (by rw [hxl]; rfl)
    have hlen : xs.length = r.length + 1 := by rw [hxl]; rfl
    have r1 : (1 : Int) ≤ xs.length := by omega
    have r2 : (xs.length : Int) ≤ c0 := by omega
    have HT := Lib.hid (show IntsX w X (some ⟨b2, o2 + 1, none⟩) r from IntsX.tail (x := z) (by rw [hxl] at hi; exact hi))
    have HLN := Lib.hid hlen
    have r3 : (1 : Int) ≤ c0 := by omega
    clear hxl hi g0 hlen
    by_cases hc1 : c0 = 1
    · have hr : r = [] := by have := HLN.out; cases r with | nil => rfl | cons _ _ => simp at this; omega
      subst hr
      subst hc1
      go_enter Tryd.func84, Tryd.ntmps84
      go_wp2_with fail
      exact bodyPost_ret (v := .tuple #[.agg #[.bool true, .int .i64 0, .slice (some ⟨b2, o2, none⟩) 0 0], .int .i64 0]) (by simp [results, Tryd.results84, go_sem]) rfl (.inl ⟨rfl, some ⟨b2, o2, none⟩, 0, rfl, IntsC.nil _ _ _ _, two_box w _ _⟩)
    go_enter Tryd.func84, Tryd.ntmps84
    go_wp2_with fail
    have hx1 : xs.length - 1 = r.length := by have := HLN.out; omega
    exact bodyPost_ret (v := .tuple #[.agg #[.bool true, .int .i64 0, .slice (some ⟨b2, o2 + 1, none⟩) (xs.length - 1) (c0 - 1)], .int .i64 0]) (by simp [results, Tryd.results84, go_sem]) rfl (.inl ⟨rfl, some ⟨b2, o2 + 1, none⟩, c0 - 1, by rw [hx1], ⟨by show r.length ≤ _; omega, HT.out.le (Le.of_fr (Fr.of_below (two_box w _ _) X) (fun _ _ e => e) fun _ _ e => e)⟩, two_box w _ _⟩)

theorem own_one (w : World) {e : TypeId} (v : Value) : (w.alloc (Obj.cells #[v] e)).ownsRow w.heap.size e 1 (.slice (some ⟨w.heap.size, 0, none⟩) 1 1) 1 [v] :=
  ⟨by simp, .inr ⟨w.heap.size, 1, #[v], rfl, Nat.le_refl _, heap_alloc_new w _, Nat.le_refl _, by simp [maxLen], by simp, by simp⟩⟩
theorem belowDrawn {B : Nat} {a w : World} (h : Below B a w) : Below B a w.drew := h.drew

set_option maxRecDepth 100000 in
set_option maxHeartbeats 1000000 in
theorem operate_87 (num : Int) (name : ByteArray) (Ak : Option Addr) (nk ck : Nat) (x y : Vl) (Al : Option Addr) (cl : Nat) (X : Nat → Prop) (w : World) (hV : VlsX w X Al [x, y]) (hX : ∀ k, X k → k < w.heap.size) :
    Calls Tryd.prog 84 #[.agg #[.int .u8 87, .int .i64 num, .string name, .slice Ak nk ck], .slice Al 2 cl] w (RetO (opR apR 87 num [x, y]) X w) := by
  obtain ⟨b, o, A0, c0, rfl, _, e0, e1, e2, hi⟩ := hV 0 x rfl
  obtain ⟨b', o', A1, c1, e, _, e3, e4, e5, hi'⟩ := hV 1 y rfl
  cases e
  simp only [Nat.zero_mul, Nat.add_zero, Nat.one_mul] at e0 e1 e2 e3 e4 e5
  have hb := two_box w (Obj.cells #[.int .u8 87, .int .i64 num, .string name, .slice Ak nk ck] 53) (Obj.cells #[.bool false, .int .i64 0, .slice none 0 0] 46)
  have rb := bx_new (w.alloc (Obj.cells #[.int .u8 87, .int .i64 num, .string name, .slice Ak nk ck] 53)) #[.bool false, .int .i64 0, .slice none 0 0] 46
  rw [show (w.alloc (Obj.cells #[.int .u8 87, .int .i64 num, .string name, .slice Ak nk ck] 53)).heap.size = w.heap.size + 1 by simp] at rb
  have hlt : b < w.heap.size := block_lt_of_cell e0
  rw [opR_87]
  clear hV hi
  obtain ⟨xl, xn, xs⟩ := x
  obtain ⟨yl, yn, ys⟩ := y
  simp only at *
  by_cases h1000 : 1000 ≤ ys.length
  · rw [if_pos h1000]
    have h1 : decide (1000 ≤ ys.length) = true := by simpa using h1000
    go_enter Tryd.func84, Tryd.ntmps84
    go_wp2_with fail
    exact bodyPost_ret (v := .tuple #[.agg #[.bool false, .int .i64 0, .slice none 0 0], .int .i64 5]) (by simp [results, Tryd.results84, go_sem]) rfl (.inr ⟨by decide, false, 0, none, 0, 0, rfl, two_box w _ _⟩)
  rw [if_neg h1000]
  have h1 : decide (1000 ≤ ys.length) = false := by simpa using h1000
  obtain ⟨i0, hi0, hz0, hz1, hz2⟩ := info_parts info_int
  have HI := Lib.hid (And.intro hi0 (And.intro hz0 (And.intro hz1 hz2)))
  clear hi0 hz0 hz1 hz2
  have E1 := Lib.hid (And.intro (below_cell hb e1) (below_cell hb e5))
  have HY := Lib.hid (hi'.at_.mono hb).cells
  go_enter Tryd.func84, Tryd.ntmps84
  go_wp2_with fail
  generalize World.alloc _ _ = W at hb rb E1 HY ⊢
  clear e0 e1 e2 e3 e4 e5 hi'
  obtain ⟨r0, r1, r2, z0, z1, z2⟩ := rb.three
  obtain ⟨d1, d5⟩ := E1.out
  have hW2 : w.heap.size + 1 < W.heap.size := rb.lt
  have hltW : b < W.heap.size := by omega
  have hbN := below_box W (Obj.cells #[.int .i64 xn] 3)
  have HOW := Lib.hid (show (W.alloc (Obj.cells #[.int .i64 xn] 3)).drew.ownsRow W.heap.size 3 1 (.slice (some ⟨W.heap.size, 0, none⟩) 1 1) 1 [.int .i64 xn] from own_one W _)
  have HYN := Lib.hid (show CellsAt (W.alloc (Obj.cells #[.int .i64 xn] 3)).drew A1 (ys.map (Value.int .i64)) from HY.out.mono (belowDrawn hbN))
  have hsz : W.heap.size ≤ (W.alloc (Obj.cells #[.int .i64 xn] 3)).drew.heap.size := hbN.size
  clear HY
  go_region_held3 (fun w' => w'.cell? ⟨b, o + 1, none⟩ = some (.int .i64 xn) ∧ w'.cell? ⟨b, o + 3 + 2, none⟩ = some (.slice A1 ys.length c1)) (first | go_keep | exact S6.out | exact ⟨(Fr.set3 _ _ _ _ _).cell S6.out.1 (show ¬ b = _ by omega), (Fr.set3 _ _ _ _ _).cell S6.out.2 (show ¬ b = _ by omega)⟩) ((refine step_app _ (by rfl) (.tmp 43) (.tmp 47) 44 (by rfl) W.heap.size 3 i0 (.int .i64 0) 1 8 Tryd.underlying44 HI.out.1 HI.out.2.1 HI.out.2.2.1 HI.out.2.2.2 rfl (by decide) (.slice (some ⟨W.heap.size, 0, none⟩) 1 1) 1 [.int .i64 xn] (by simp [Act.eval]) HOW.out A1 ys.length c1 (ys.map (Value.int .i64)) (by simp [Act.eval]) (by simp) HYN.out (ints_one _) (by unfold maxLen; omega) (by omega) hsz ?_; intro v6 w6 hown6 hgrow6 hat6; have q6 := (belowDrawn hbN).grown hgrow6 hsz (fun k hk => (by cases hk; exact Nat.le_refl _)); have S6 := Lib.hid (And.intro (below_cell q6 d1) (below_cell q6 d5)); have rb6 := rb.below q6; obtain ⟨y0, y1, y2, x0, x1, x2⟩ := rb6.three; obtain ⟨A6, c6, rfl, h6⟩ := intsC_of_own (X := fun k => k < W.heap.size) (l := xn :: ys) (by rw [Nat.add_comm] at hown6; exact hown6) (fun g hg => Nat.not_lt.2 (hown6.lt g hg).1); have HF := Lib.hid h6; rw [List.length_cons]; clear hown6 hgrow6 hat6 h6))
  go_wp2_with fail
  have q7 := below_set3 (below_step hb hb.size q6) (b := w.heap.size + 1) (by omega) (.bool true) (.int .i64 0) (.slice A6 (ys.length + 1) c6)
  have f7 := Fr.set3 w6 (w.heap.size + 1) (.bool true) (.int .i64 0) (.slice A6 (ys.length + 1) c6)
  refine bodyPost_ret (v := .tuple #[.agg #[.bool true, .int .i64 0, .slice A6 (ys.length + 1) c6], .int .i64 0]) (by simp [results, Tryd.results84, go_sem, y0, y1, y2]) rfl (.inl ⟨rfl, A6, c6, rfl, ?_, q7⟩)
  exact (HF.out.le (Le.of_fr f7 (fun k _ e => by show k < W.heap.size; omega) fun k _ e => by have := hX k e; show k < W.heap.size; omega) : IntsC _ X _ _ _)

end Go.Proofs.YtcoeakdpcigogaaDoor
