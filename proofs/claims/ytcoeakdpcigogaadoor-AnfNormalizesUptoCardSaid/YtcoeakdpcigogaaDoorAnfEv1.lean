/-
  anf.operate (printed out of the texts for funeval.operate).
  anf.Eval, plainly.
  anf.Eval: contracts; run.
-/
import Derived.Test.YtcoeakdpcigogaaDoorFevState
import Derived.Test.YtcoeakdpcigogaaDoorAnfVl6
import Derived.Test.YtcoeakdpcigogaaDoorFevPlain
import Derived.Test.YtcoeakdpcigogaaDoorAnfPlain
namespace Go.Proofs.YtcoeakdpcigogaaDoor
open Go.ChangeShapes Go.WideShapes Go.ChangeAt Go.RowKit Go.Sort Go.Maps

set_option maxRecDepth 100000 in
set_option maxHeartbeats 200000 in
theorem aop_82 (num : Nat) (h8 : 8 ≤ num) (h23 : num ≤ 23) (name : ByteArray) (s0 : ByteArray) (b0 : Bool) (Aa At Ae : Option Addr) (n0 ca n1 ct n2 ce : Nat) (x y : Vl) (Al : Option Addr) (cl : Nat) (X : Nat → Prop) (w : World) (hV : VlsX w X Al [x, y]) :
    Calls Tryd.prog 82 #[.agg #[.string s0, .bool b0, .int .u8 82, .int .i64 num, .string name, .slice Aa n0 ca, .slice At n1 ct, .slice Ae n2 ce], .slice Al 2 cl] w (RetO (opR apR 82 num [x, y]) X w) := by
  obtain ⟨b, o, A0, c0, rfl, _, e0, e1, e2, hi⟩ := hV 0 x rfl
  obtain ⟨b', o', A1, c1, e, _, e3, e4, e5, hi'⟩ := hV 1 y rfl
  cases e
  simp only [Nat.zero_mul, Nat.add_zero, Nat.one_mul] at e0 e1 e2 e3 e4 e5
  have hb := two_box w (Obj.cells #[.string s0, .bool b0, .int .u8 82, .int .i64 num, .string name, .slice Aa n0 ca, .slice At n1 ct, .slice Ae n2 ce] 67) (Obj.cells #[.bool false, .int .i64 0, .slice none 0 0] 46)
  have hlt : b < w.heap.size := block_lt_of_cell e0
  rw [opR_82]
  clear hV hi hi'
  have hn1 : (num : Int) < 256 := by omega
  have hn0 : (0 : Int) ≤ num := by omega
  have hwr : IntKind.u8.wrap (num : Int) = num := by simp [IntKind.wrap, IntKind.signed, IntKind.bits]; omega
  go_enter Tryd.func82, Tryd.ntmps82
  go_wp2_with fail
  go_quiet ((go_at_call 89; exact Calls.quiet_of_same ((apply_any num h8 h23 _ _ _).mono fun _ _ h => ⟨h.1, h.2.symm⟩)))
  go_wp2_with fail
  refine bodyPost_ret (v := .tuple #[.agg #[.bool false, .int .i64 (apR num x.n y.n).1, .slice none 0 0], .int .i64 (apR num x.n y.n).2]) (by simp [results, Tryd.results82, go_sem]) rfl ?_
  have q := below_set3 (below_drewN hb nq) (b := w.heap.size + 1) (by omega) (.bool false) (.int .i64 (apR num x.n y.n).1) (.slice none 0 0)
  by_cases h0 : (apR num x.n y.n).2 = 0
  · exact .inl ⟨h0, none, 0, by rw [h0]; rfl, IntsC.nil _ _ _ _, q⟩
  · exact .inr ⟨h0, false, _, none, 0, 0, rfl, q⟩

set_option maxRecDepth 100000 in
theorem aop_86 (num : Int) (name : ByteArray) (s0 : ByteArray) (b0 : Bool) (Aa At Ae : Option Addr) (n0 ca n1 ct n2 ce : Nat) (l : List Vl) (Al : Option Addr) (cl : Nat) (X : Nat → Prop) (w : World) :
    Calls Tryd.prog 82 #[.agg #[.string s0, .bool b0, .int .u8 86, .int .i64 num, .string name, .slice Aa n0 ca, .slice At n1 ct, .slice Ae n2 ce], .slice Al l.length cl] w (RetO (opR apR 86 num l) X w) := by
  rw [show opR apR 86 num l = (⟨true, 0, []⟩, 0) from rfl]
  go_enter Tryd.func82, Tryd.ntmps82
  go_wp2_with fail
  exact bodyPost_ret (v := .tuple #[.agg #[.bool true, .int .i64 0, .slice none 0 0], .int .i64 0]) (by simp [results, Tryd.results82, go_sem]) rfl (.inl ⟨rfl, none, 0, rfl, IntsC.nil _ _ _ _, two_box w _ _⟩)

set_option maxRecDepth 100000 in
theorem aop_90 (num : Int) (name : ByteArray) (s0 : ByteArray) (b0 : Bool) (Aa At Ae : Option Addr) (n0 ca n1 ct n2 ce : Nat) (x : Vl) (Al : Option Addr) (cl : Nat) (X : Nat → Prop) (w : World) (hV : VlsX w X Al [x]) :
    Calls Tryd.prog 82 #[.agg #[.string s0, .bool b0, .int .u8 90, .int .i64 num, .string name, .slice Aa n0 ca, .slice At n1 ct, .slice Ae n2 ce], .slice Al 1 cl] w (RetO (opR apR 90 num [x]) X w) := by
  obtain ⟨b, o, A0, c0, rfl, _, e0, e1, e2, hi⟩ := hV 0 x rfl
  simp only [Nat.zero_mul, Nat.add_zero] at e0 e1 e2
  have hlt : b < w.heap.size := block_lt_of_cell e0
  obtain ⟨xl, xn, xs⟩ := x
  simp only at *
  clear hV
  rw [opR_90]
  cases hxl : xs with
  | nil =>
    subst hxl
    go_enter Tryd.func82, Tryd.ntmps82
    go_wp2_with fail
    exact bodyPost_ret (v := .tuple #[.agg #[.bool false, .int .i64 1, .slice none 0 0], .int .i64 0]) (by simp [results, Tryd.results82, go_sem]) rfl (.inl ⟨rfl, none, 0, rfl, IntsC.nil _ _ _ _, two_box w _ _⟩)
  | cons z r =>
    have h1 : ((xs.length : Int) == 0) = false := by rw [hxl]; simp; omega
    clear hxl
    go_enter Tryd.func82, Tryd.ntmps82
    go_wp2_with fail
    exact bodyPost_ret (v := .tuple #[.agg #[.bool false, .int .i64 0, .slice none 0 0], .int .i64 0]) (by simp [results, Tryd.results82, go_sem]) rfl (.inl ⟨rfl, none, 0, rfl, IntsC.nil _ _ _ _, two_box w _ _⟩)

set_option maxRecDepth 100000 in
theorem aop_88 (num : Int) (name : ByteArray) (s0 : ByteArray) (b0 : Bool) (Aa At Ae : Option Addr) (n0 ca n1 ct n2 ce : Nat) (x : Vl) (Al : Option Addr) (cl : Nat) (X : Nat → Prop) (w : World) (hV : VlsX w X Al [x]) (hl : x.l.length ≤ 1000000) :
    Calls Tryd.prog 82 #[.agg #[.string s0, .bool b0, .int .u8 88, .int .i64 num, .string name, .slice Aa n0 ca, .slice At n1 ct, .slice Ae n2 ce], .slice Al 1 cl] w (RetO (opR apR 88 num [x]) X w) := by
  obtain ⟨b, o, A0, c0, rfl, _, e0, e1, e2, hi⟩ := hV 0 x rfl
  simp only [Nat.zero_mul, Nat.add_zero] at e0 e1 e2
  have hlt : b < w.heap.size := block_lt_of_cell e0
  obtain ⟨xl, xn, xs⟩ := x
  simp only at *
  clear hV
  rw [opR_88]
  cases hxl : xs with
  | nil =>
    subst hxl
    go_enter Tryd.func82, Tryd.ntmps82
    go_wp2_with fail
    exact bodyPost_ret (v := .tuple #[.agg #[.bool false, .int .i64 0, .slice none 0 0], .int .i64 13]) (by simp [results, Tryd.results82, go_sem]) rfl (.inr ⟨by decide, false, 0, none, 0, 0, rfl, two_box w _ _⟩)
  | cons z r =>
    have h1 : ((xs.length : Int) == 0) = false := by rw [hxl]; simp; omega
    have hpos : 0 < xs.length := by rw [hxl]; simp
    obtain ⟨b2, o2, rfl, _, g0⟩ := hi.2 0 z (by rw [hxl]; rfl)
    rw [Nat.add_zero] at g0
    have hlt2 : b2 < w.heap.size := block_lt_of_cell g0
    clear hxl hi
    go_enter Tryd.func82, Tryd.ntmps82
    go_wp2_with fail
    exact bodyPost_ret (v := .tuple #[.agg #[.bool false, .int .i64 z, .slice none 0 0], .int .i64 0]) (by simp [results, Tryd.results82, go_sem]) rfl (.inl ⟨rfl, none, 0, rfl, IntsC.nil _ _ _ _, two_box w _ _⟩)

set_option maxRecDepth 100000 in
theorem aop_89 (num : Int) (name : ByteArray) (s0 : ByteArray) (b0 : Bool) (Aa At Ae : Option Addr) (n0 ca n1 ct n2 ce : Nat) (x : Vl) (Al : Option Addr) (cl : Nat) (X : Nat → Prop) (w : World) (hV : VlsX w X Al [x]) (hl : x.l.length ≤ 1000000) :
    Calls Tryd.prog 82 #[.agg #[.string s0, .bool b0, .int .u8 89, .int .i64 num, .string name, .slice Aa n0 ca, .slice At n1 ct, .slice Ae n2 ce], .slice Al 1 cl] w (RetO (opR apR 89 num [x]) X w) := by
  obtain ⟨b, o, A0, c0, rfl, _, e0, e1, e2, hi⟩ := hV 0 x rfl
  simp only [Nat.zero_mul, Nat.add_zero] at e0 e1 e2
  have hlt : b < w.heap.size := block_lt_of_cell e0
  obtain ⟨xl, xn, xs⟩ := x
  simp only at *
  clear hV
  rw [opR_89]
  cases hxl : xs with
  | nil =>
    subst hxl
    go_enter Tryd.func82, Tryd.ntmps82
    go_wp2_with fail
    exact bodyPost_ret (v := .tuple #[.agg #[.bool false, .int .i64 0, .slice none 0 0], .int .i64 13]) (by simp [results, Tryd.results82, go_sem]) rfl (.inr ⟨by decide, false, 0, none, 0, 0, rfl, two_box w _ _⟩)
  | cons z r =>
    have h1 : ((xs.length : Int) == 0) = false := by rw [hxl]; simp; omega
    obtain ⟨hc0, hi⟩ := hi
    obtain ⟨b2, o2, rfl, _, g0⟩ := hi 0 z (by rw [hxl]; rfl)
    have hlen : xs.length = r.length + 1 := by rw [hxl]; rfl
    have r1 : (1 : Int) ≤ xs.length := by omega
    have r2 : (xs.length : Int) ≤ c0 := by omega
    have HT := Lib.hid (show IntsX w X (some ⟨b2, o2 + 1, none⟩) r from IntsX.tail (x := z) (by rw [hxl] at hi; exact hi))
    have HLN := Lib.hid hlen
    have r3 : (1 : Int) ≤ c0 := by omega
    clear hxl hi g0 hlen
    by_cases hc1 : c0 = 1
    · have hr : r = [] := by have := HLN.out; cases r with | nil => rfl | cons _ _ => simp at this; omega
      subst hr
      subst hc1
      go_enter Tryd.func82, Tryd.ntmps82
      go_wp2_with fail
      exact bodyPost_ret (v := .tuple #[.agg #[.bool true, .int .i64 0, .slice (some ⟨b2, o2, none⟩) 0 0], .int .i64 0]) (by simp [results, Tryd.results82, go_sem]) rfl (.inl ⟨rfl, some ⟨b2, o2, none⟩, 0, rfl, IntsC.nil _ _ _ _, two_box w _ _⟩)
    go_enter Tryd.func82, Tryd.ntmps82
    go_wp2_with fail
    have hx1 : xs.length - 1 = r.length := by have := HLN.out; omega
    exact bodyPost_ret (v := .tuple #[.agg #[.bool true, .int .i64 0, .slice (some ⟨b2, o2 + 1, none⟩) (xs.length - 1) (c0 - 1)], .int .i64 0]) (by simp [results, Tryd.results82, go_sem]) rfl (.inl ⟨rfl, some ⟨b2, o2 + 1, none⟩, c0 - 1, by rw [hx1], ⟨by show r.length ≤ _; omega, HT.out.le (Le.of_fr (Fr.of_below (two_box w _ _) X) (fun _ _ e => e) fun _ _ e => e)⟩, two_box w _ _⟩)

set_option maxRecDepth 100000 in
set_option maxHeartbeats 1000000 in
theorem aop_87 (num : Int) (name : ByteArray) (s0 : ByteArray) (b0 : Bool) (Aa At Ae : Option Addr) (n0 ca n1 ct n2 ce : Nat) (x y : Vl) (Al : Option Addr) (cl : Nat) (X : Nat → Prop) (w : World) (hV : VlsX w X Al [x, y]) (hX : ∀ k, X k → k < w.heap.size) :
    Calls Tryd.prog 82 #[.agg #[.string s0, .bool b0, .int .u8 87, .int .i64 num, .string name, .slice Aa n0 ca, .slice At n1 ct, .slice Ae n2 ce], .slice Al 2 cl] w (RetO (opR apR 87 num [x, y]) X w) := by
  obtain ⟨b, o, A0, c0, rfl, _, e0, e1, e2, hi⟩ := hV 0 x rfl
  obtain ⟨b', o', A1, c1, e, _, e3, e4, e5, hi'⟩ := hV 1 y rfl
  cases e
  simp only [Nat.zero_mul, Nat.add_zero, Nat.one_mul] at e0 e1 e2 e3 e4 e5
  have hb := two_box w (Obj.cells #[.string s0, .bool b0, .int .u8 87, .int .i64 num, .string name, .slice Aa n0 ca, .slice At n1 ct, .slice Ae n2 ce] 67) (Obj.cells #[.bool false, .int .i64 0, .slice none 0 0] 46)
  have rb := bx_new (w.alloc (Obj.cells #[.string s0, .bool b0, .int .u8 87, .int .i64 num, .string name, .slice Aa n0 ca, .slice At n1 ct, .slice Ae n2 ce] 67)) #[.bool false, .int .i64 0, .slice none 0 0] 46
  rw [show (w.alloc (Obj.cells #[.string s0, .bool b0, .int .u8 87, .int .i64 num, .string name, .slice Aa n0 ca, .slice At n1 ct, .slice Ae n2 ce] 67)).heap.size = w.heap.size + 1 by simp] at rb
  have hlt : b < w.heap.size := block_lt_of_cell e0
  rw [opR_87]
  clear hV hi
  obtain ⟨xl, xn, xs⟩ := x
  obtain ⟨yl, yn, ys⟩ := y
  simp only at *
  by_cases h1000 : 1000 ≤ ys.length
  · rw [if_pos h1000]
    have h1 : decide (1000 ≤ ys.length) = true := by simpa using h1000
    go_enter Tryd.func82, Tryd.ntmps82
    go_wp2_with fail
    exact bodyPost_ret (v := .tuple #[.agg #[.bool false, .int .i64 0, .slice none 0 0], .int .i64 5]) (by simp [results, Tryd.results82, go_sem]) rfl (.inr ⟨by decide, false, 0, none, 0, 0, rfl, two_box w _ _⟩)
  rw [if_neg h1000]
  have h1 : decide (1000 ≤ ys.length) = false := by simpa using h1000
  obtain ⟨i0, hi0, hz0, hz1, hz2⟩ := info_parts info_int
  have HI := Lib.hid (And.intro hi0 (And.intro hz0 (And.intro hz1 hz2)))
  clear hi0 hz0 hz1 hz2
  have E1 := Lib.hid (And.intro (below_cell hb e1) (below_cell hb e5))
  have HY := Lib.hid (hi'.at_.mono hb).cells
  go_enter Tryd.func82, Tryd.ntmps82
  go_wp2_with fail
  generalize World.alloc _ _ = W at hb rb E1 HY ⊢
  clear e0 e1 e2 e3 e4 e5 hi'
  obtain ⟨r0, r1, r2, z0, z1, z2⟩ := rb.three
  obtain ⟨d1, d5⟩ := E1.out
  have hW2 : w.heap.size + 1 < W.heap.size := rb.lt
  have hltW : b < W.heap.size := by omega
  have hbN := below_box W (Obj.cells #[.int .i64 xn] 3)
  have HOW := Lib.hid (show (W.alloc (Obj.cells #[.int .i64 xn] 3)).drew.ownsRow W.heap.size 3 1 (.slice (some ⟨W.heap.size, 0, none⟩) 1 1) 1 [.int .i64 xn] from own_one W _)
  have HYN := Lib.hid (show CellsAt (W.alloc (Obj.cells #[.int .i64 xn] 3)).drew A1 (ys.map (Value.int .i64)) from HY.out.mono (belowDrawn hbN))
  have hsz : W.heap.size ≤ (W.alloc (Obj.cells #[.int .i64 xn] 3)).drew.heap.size := hbN.size
  clear HY
  go_region_held3 (fun w' => w'.cell? ⟨b, o + 1, none⟩ = some (.int .i64 xn) ∧ w'.cell? ⟨b, o + 3 + 2, none⟩ = some (.slice A1 ys.length c1)) (first | go_keep | exact S6.out | exact ⟨(Fr.set3 _ _ _ _ _).cell S6.out.1 (show ¬ b = _ by omega), (Fr.set3 _ _ _ _ _).cell S6.out.2 (show ¬ b = _ by omega)⟩) ((refine step_app _ (by rfl) (.tmp 53) (.tmp 57) 44 (by rfl) W.heap.size 3 i0 (.int .i64 0) 1 8 Tryd.underlying44 HI.out.1 HI.out.2.1 HI.out.2.2.1 HI.out.2.2.2 rfl (by decide) (.slice (some ⟨W.heap.size, 0, none⟩) 1 1) 1 [.int .i64 xn] (by simp [Act.eval]) HOW.out A1 ys.length c1 (ys.map (Value.int .i64)) (by simp [Act.eval]) (by simp) HYN.out (ints_one _) (by unfold maxLen; omega) (by omega) hsz ?_; intro v6 w6 hown6 hgrow6 hat6; have q6 := (belowDrawn hbN).grown hgrow6 hsz (fun k hk => (by cases hk; exact Nat.le_refl _)); have S6 := Lib.hid (And.intro (below_cell q6 d1) (below_cell q6 d5)); have rb6 := rb.below q6; obtain ⟨y0, y1, y2, x0, x1, x2⟩ := rb6.three; obtain ⟨A6, c6, rfl, h6⟩ := intsC_of_own (X := fun k => k < W.heap.size) (l := xn :: ys) (by rw [Nat.add_comm] at hown6; exact hown6) (fun g hg => Nat.not_lt.2 (hown6.lt g hg).1); have HF := Lib.hid h6; rw [List.length_cons]; clear hown6 hgrow6 hat6 h6))
  go_wp2_with fail
  have q7 := below_set3 (below_step hb hb.size q6) (b := w.heap.size + 1) (by omega) (.bool true) (.int .i64 0) (.slice A6 (ys.length + 1) c6)
  have f7 := Fr.set3 w6 (w.heap.size + 1) (.bool true) (.int .i64 0) (.slice A6 (ys.length + 1) c6)
  refine bodyPost_ret (v := .tuple #[.agg #[.bool true, .int .i64 0, .slice A6 (ys.length + 1) c6], .int .i64 0]) (by simp [results, Tryd.results82, go_sem, y0, y1, y2]) rfl (.inl ⟨rfl, A6, c6, rfl, ?_, q7⟩)
  exact (HF.out.le (Le.of_fr f7 (fun k _ e => by show k < W.heap.size; omega) fun k _ e => by have := hX k e; show k < W.heap.size; omega) : IntsC _ X _ _ _)

end Go.Proofs.YtcoeakdpcigogaaDoor

namespace Go.Proofs.YtcoeakdpcigogaaDoor

abbrev Ev := ByteArray → Option Vl
inductive Ar where
  | err (e : Int)
  | ok (vars : Ev) (fuel : Nat)
inductive Ac where
  | err (e : Int)
  | ok (v : Vl) (fuel : Nat)
/-- An operation, a number, a copy. -/
def opA (ap : Int → Int → Int → Int × Int) (op : Nat) (num : Int) (l : List Vl) : Vl × Int :=
  if op = 80 then (⟨false, num, []⟩, 0) else if op = 81 then ((l[0]?).getD zeroV, 0) else opR ap op num l
def argsV (l : List ByteArray) (vars : Ev) : List Vl := l.map fun a => (vars a).getD zeroV
def findA (lib : List Af) (s : ByteArray) : Option Af := lib.find? fun f => decide (f.name = s)
def aCall (run : Nat → List Bd → Ev → Nat → Ar) (act : Nat) (g : Af) (args : List Vl) (f : Nat) : Ac :=
  if 30 ≤ act then .err 19
  else match run (act + 1) g.body (envV g.params args fun _ => none) f with
    | .err e => .err e
    | .ok vars f' => .ok ((vars g.result).getD zeroV) f'
def aBind (ap : Int → Int → Int → Int × Int) (lib : List Af) (run : Nat → List Bd → Ev → Nat → Ar) (act : Nat) (b : Bd) (vars : Ev) (f : Nat) : Ar :=
  if b.op = 83 then (if (((argsV b.args vars)[0]?).getD zeroV).n ≠ 0 then run act b.thn vars f else run act b.els vars f)
  else if b.op = 85 then (match findA lib b.name with
    | none => .err 0
    | some g => match aCall run act g (argsV b.args vars) f with
      | .err e => .err e
      | .ok v f' => .ok (setV vars b.to v) f')
  else if (opA ap b.op b.num (argsV b.args vars)).2 = 0 then .ok (setV vars b.to (opA ap b.op b.num (argsV b.args vars)).1) f else .err (opA ap b.op b.num (argsV b.args vars)).2
/-- Binds in order; the bound d is at least the fuel. -/
def aRun (ap : Int → Int → Int → Int × Int) (lib : List Af) : Nat → Nat → List Bd → Ev → Nat → Ar
  | _, _, [], vars, f => .ok vars f
  | 0, _, _ :: _, _, _ => .err 18
  | d + 1, act, b :: r, vars, f => if f = 0 then .err 18 else match aBind ap lib (aRun ap lib d) act b vars (f - 1) with
    | .err e => .err e
    | .ok vars' f' => aRun ap lib d act r vars' f'
variable {ap : Int → Int → Int → Int × Int} {lib : List Af}
theorem aRun_nil (d act : Nat) (vars : Ev) (f : Nat) : aRun ap lib d act [] vars f = .ok vars f := by cases d <;> rw [aRun]
theorem aRun_cons (d act : Nat) (b : Bd) (r : List Bd) (vars : Ev) (f : Nat) : aRun ap lib (d + 1) act (b :: r) vars f = if f = 0 then .err 18 else match aBind ap lib (aRun ap lib d) act b vars (f - 1) with
    | .err e => .err e
    | .ok vars' f' => aRun ap lib d act r vars' f' := by rw [aRun]
def Rle (run : Nat → List Bd → Ev → Nat → Ar) : Prop := ∀ act l vars f v f', run act l vars f = .ok v f' → f' ≤ f
theorem aBind_le {run : Nat → List Bd → Ev → Nat → Ar} (hr : Rle run) {act : Nat} {b : Bd} {vars : Ev} {f : Nat} {v : Ev} {f' : Nat} (h : aBind ap lib run act b vars f = .ok v f') : f' ≤ f := by
  unfold aBind at h
  by_cases h1 : b.op = 83
  · rw [if_pos h1] at h
    by_cases h2 : (((argsV b.args vars)[0]?).getD zeroV).n ≠ 0
    · rw [if_pos h2] at h; exact hr _ _ _ _ _ _ h
    · rw [if_neg h2] at h; exact hr _ _ _ _ _ _ h
  rw [if_neg h1] at h
  by_cases h2 : b.op = 85
  · rw [if_pos h2] at h
    cases hg : findA lib b.name with
    | none => rw [hg] at h; cases h
    | some g =>
      rw [hg] at h
      dsimp only at h
      unfold aCall at h
      by_cases h3 : 30 ≤ act
      · rw [if_pos h3] at h; cases h
      · rw [if_neg h3] at h
        cases hc : run (act + 1) g.body (envV g.params (argsV b.args vars) fun _ => none) f with
        | err e => rw [hc] at h; cases h
        | ok v1 f1 => rw [hc] at h; cases h; exact hr _ _ _ _ _ _ hc
  · rw [if_neg h2] at h
    split at h
    · cases h; exact Nat.le_refl _
    · cases h
theorem aRun_le : ∀ d, Rle (aRun ap lib d)
  | 0 => fun act l vars f v f' h => by
    cases l with
    | nil => rw [aRun] at h; cases h; exact Nat.le_refl _
    | cons b r => rw [aRun] at h; cases h
  | d + 1 => fun act l vars f v f' h => by
    cases l with
    | nil => rw [aRun] at h; cases h; exact Nat.le_refl _
    | cons b r =>
      rw [aRun_cons] at h
      by_cases h0 : f = 0
      · rw [if_pos h0] at h; cases h
      rw [if_neg h0] at h
      cases hb : aBind ap lib (aRun ap lib d) act b vars (f - 1) with
      | err e => rw [hb] at h; cases h
      | ok v1 f1 =>
        rw [hb] at h
        have h1 := aBind_le (aRun_le d) hb
        have h2 := aRun_le d _ _ _ _ _ _ h
        omega
/-- More fuel gives the same, or the fuel had run out. -/
def Rsh (run run' : Nat → List Bd → Ev → Nat → Ar) (f k : Nat) : Prop := ∀ act l vars g, g ≤ f → (run act l vars g = .err 18) ∨ (∃ e, run act l vars g = .err e ∧ run' act l vars (g + k) = .err e) ∨ ∃ v f', run act l vars g = .ok v f' ∧ run' act l vars (g + k) = .ok v (f' + k)
theorem aBind_sh {run run' : Nat → List Bd → Ev → Nat → Ar} {f k : Nat} (h : Rsh run run' f k) {act : Nat} {b : Bd} {vars : Ev} {g : Nat} (hg : g ≤ f) : (aBind ap lib run act b vars g = .err 18) ∨ (∃ e, aBind ap lib run act b vars g = .err e ∧ aBind ap lib run' act b vars (g + k) = .err e) ∨ ∃ v f', aBind ap lib run act b vars g = .ok v f' ∧ aBind ap lib run' act b vars (g + k) = .ok v (f' + k) := by
  unfold aBind
  by_cases h1 : b.op = 83
  · rw [if_pos h1, if_pos h1]
    by_cases h2 : (((argsV b.args vars)[0]?).getD zeroV).n ≠ 0
    · rw [if_pos h2, if_pos h2]; exact h _ _ _ _ hg
    · rw [if_neg h2, if_neg h2]; exact h _ _ _ _ hg
  rw [if_neg h1, if_neg h1]
  by_cases h2 : b.op = 85
  · rw [if_pos h2, if_pos h2]
    cases findA lib b.name with
    | none => exact .inr (.inl ⟨0, rfl, rfl⟩)
    | some q =>
      dsimp only
      unfold aCall
      by_cases h3 : 30 ≤ act
      · rw [if_pos h3, if_pos h3]; exact .inr (.inl ⟨19, rfl, rfl⟩)
      · rw [if_neg h3, if_neg h3]
        rcases h (act + 1) q.body (envV q.params (argsV b.args vars) fun _ => none) g hg with e | ⟨e, e1, e2⟩ | ⟨v, f', e1, e2⟩
        · rw [e]; exact .inl rfl
        · rw [e1, e2]; exact .inr (.inl ⟨e, rfl, rfl⟩)
        · rw [e1, e2]; exact .inr (.inr ⟨_, f', rfl, rfl⟩)
  · rw [if_neg h2, if_neg h2]
    split
    · exact .inr (.inr ⟨_, g, rfl, rfl⟩)
    · exact .inr (.inl ⟨_, rfl, rfl⟩)
theorem aRun_more (k : Nat) : ∀ d d', d + k ≤ d' → Rsh (aRun ap lib d) (aRun ap lib d') d k
  | 0, d', hd => fun act l vars g hg => by
    cases l with
    | nil => rw [aRun_nil, aRun_nil]; exact .inr (.inr ⟨vars, g, rfl, rfl⟩)
    | cons b r => exact .inl (by rw [aRun])
  | d + 1, d', hd => fun act l vars g hg => by
    cases l with
    | nil => rw [aRun_nil, aRun_nil]; exact .inr (.inr ⟨vars, g, rfl, rfl⟩)
    | cons b r =>
      obtain ⟨d'', rfl⟩ : ∃ x, d' = x + 1 := ⟨d' - 1, by omega⟩
      rw [aRun_cons, aRun_cons]
      by_cases h0 : g = 0
      · rw [if_pos h0]; exact .inl rfl
      rw [if_neg h0, if_neg (by omega : ¬ g + k = 0)]
      have hs := aRun_more k d d'' (by omega)
      rw [show g + k - 1 = g - 1 + k by omega]
      rcases aBind_sh (ap := ap) (lib := lib) hs (act := act) (b := b) (vars := vars) (g := g - 1) (by omega) with e | ⟨e, e1, e2⟩ | ⟨v, f', e1, e2⟩
      · rw [e]; exact .inl rfl
      · rw [e1, e2]; exact .inr (.inl ⟨e, rfl, rfl⟩)
      · rw [e1, e2]
        have hle := aBind_le (aRun_le d) e1
        exact hs act r v f' (by omega)

end Go.Proofs.YtcoeakdpcigogaaDoor

namespace Go.Proofs.YtcoeakdpcigogaaDoor
open Go.ChangeShapes Go.WideShapes Go.ChangeAt Go.RowKit Go.Sort Go.Maps

/-- A bind has the arguments that its operation needs. -/
def arOne (lib : List Af) (t : Bd) : Prop := t.op = 80 ∨ (t.op = 81 ∧ t.args.length = 1) ∨ (t.op = 82 ∧ t.args.length = 2 ∧ 8 ≤ t.num ∧ t.num ≤ 23) ∨ (t.op = 83 ∧ t.args.length = 1) ∨ (t.op = 85 ∧ ∃ g, findA lib t.name = some g ∧ t.args.length = g.params.length) ∨ t.op = 86 ∨ (t.op = 87 ∧ t.args.length = 2) ∨ ((t.op = 88 ∨ t.op = 89 ∨ t.op = 90) ∧ t.args.length = 1)
inductive ArB (lib : List Af) : Bd → Prop
  | mk {t : Bd} (h : arOne lib t) (hl : t.args.length ≤ 1000 ∧ t.thn.length ≤ 1000000 ∧ t.els.length ≤ 1000000) (ht : ∀ y ∈ t.thn, ArB lib y) (he : ∀ y ∈ t.els, ArB lib y) : ArB lib t
theorem ArB.facts {lib : List Af} {t : Bd} (h : ArB lib t) : arOne lib t ∧ (t.args.length ≤ 1000 ∧ t.thn.length ≤ 1000000 ∧ t.els.length ≤ 1000000) ∧ (∀ y ∈ t.thn, ArB lib y) ∧ ∀ y ∈ t.els, ArB lib y := by
  cases h with
  | mk h hl ht he => exact ⟨h, hl, ht, he⟩
/-- The library that is run. -/
structure EcOk (W0 : World) (A : Option Addr) (lib : List Af) : Prop where
  at_ : AfsAt W0 A lib
  fit : ∀ g ∈ lib, AfFit g
  nm : ∀ g ∈ lib, g.name.size ≤ 9223372036854775807
  ar : ∀ g ∈ lib, ∀ b ∈ g.body, ArB lib b
  len : lib.length ≤ 1000
def EvB (w : World) (bv : Nat) (A : Option Addr) (cap : Nat) (lib : List Af) (F : Int) (act : Nat) : Prop := Bx w bv #[.slice A lib.length cap, .int .i64 F, .int .i64 act]
def RetRn (X : Nat → Prop) (A : Option Addr) (cap : Nat) (lib : List Af) (bv bm act M : Nat) (r : Ar) (w : World) (e : Ending) (w' : World) : Prop :=
  Fr w w' (fun k => k = bv ∨ k = bm) ∧ ∃ (n' : Nat) (env' : Ev) (F' : Int), EvB w' bv A cap lib F' act ∧ EnvX w' X bm n' env' ∧
    ((∃ c, r = .err c ∧ c ≠ 0 ∧ e = .returned (.int .i64 c)) ∨ (∃ f', r = .ok env' f' ∧ F'.toNat = f' ∧ F' ≤ 1000000 ∧ n' + f' ≤ M ∧ e = .returned (.int .i64 0)))
structure EvPre (W0 w : World) (bv : Nat) (A : Option Addr) (cap : Nat) (lib : List Af) (F : Int) (act d f : Nat) : Prop where
  bw : Below W0.heap.size W0 w
  ev : EvB w bv A cap lib F act
  vl : W0.heap.size ≤ bv
  ff : F.toNat = f
  fd : f ≤ d
  fm : F ≤ 1000000
  am : act ≤ 30
def RunC (W0 : World) (A : Option Addr) (cap : Nat) (lib : List Af) (bv d : Nat) : Prop := ∀ (X : Nat → Prop) (act : Nat) (l : List Bd) (vars : Ev) (f : Nat) (F : Int) (w : World) (Al : Option Addr) (cl bm n : Nat), EvPre W0 w bv A cap lib F act d f → X bv → (∀ k, X k → k < w.heap.size) → EnvX w X bm n vars → W0.heap.size ≤ bm → BdsX W0 (fun _ => False) Al l → (∀ y ∈ l, BdFit y) → (∀ y ∈ l, ArB lib y) → l.length ≤ 1000000 → n + f ≤ 100000000 →
  Calls Tryd.prog 56 #[.pointer (some ⟨bv, 0, none⟩), .slice Al l.length cl, .map (some bm)] w (RetRn X A cap lib bv bm act (n + f) (aRun apR lib d act l vars f) w)
def BindEC (W0 : World) (A : Option Addr) (cap : Nat) (lib : List Af) (bv d : Nat) : Prop := ∀ (X : Nat → Prop) (act : Nat) (t : Bd) (vars : Ev) (f : Nat) (F : Int) (w : World) (cs : List Value) (bm n : Nat), EvPre W0 w bv A cap lib F act d f → X bv → (∀ k, X k → k < w.heap.size) → EnvX w X bm n vars → W0.heap.size ≤ bm → BdC W0 (fun _ => False) cs t → BdFit t → ArB lib t → n + f ≤ 100000000 →
  Calls Tryd.prog 74 #[.pointer (some ⟨bv, 0, none⟩), .agg cs.toArray, .map (some bm)] w (RetRn X A cap lib bv bm act (n + f + 1) (aBind apR lib (aRun apR lib d) act t vars f) w)
theorem EnvX.belowA {w w' : World} {X : Nat → Prop} {bm n : Nat} {env : Ev} (h : EnvX w X bm n env) (hb : Below w.heap.size w w') : EnvX w' X bm n env := h.fr (Fr.of_below hb fun _ => False) (fun _ _ e => e.elim) fun _ _ e => e
theorem EnvX.ltm {w : World} {X : Nat → Prop} {bm n : Nat} {env : Ev} (h : EnvX w X bm n env) : bm < w.heap.size := by
  obtain ⟨_, raw, h2, _⟩ := h; exact h2.lt
theorem aRun_zero {ap : Int → Int → Int → Int × Int} {lib : List Af} (d act : Nat) (b : Bd) (r : List Bd) (vars : Ev) : aRun ap lib d act (b :: r) vars 0 = .err 18 := by
  cases d with
  | zero => rw [aRun]
  | succ d => rw [aRun_cons, if_pos rfl]
theorem EvB.three {w : World} {bv : Nat} {A : Option Addr} {cap : Nat} {lib : List Af} {F : Int} {act : Nat} (h : EvB w bv A cap lib F act) : w.cell? ⟨bv, 0, none⟩ = some (.slice A lib.length cap) ∧ w.cell? ⟨bv, 1, none⟩ = some (.int .i64 F) ∧ w.cell? ⟨bv, 2, none⟩ = some (.int .i64 act) ∧ w.frozen? ⟨bv, 0, none⟩ = false ∧ w.frozen? ⟨bv, 1, none⟩ = false ∧ w.frozen? ⟨bv, 2, none⟩ = false := Bx.three h

set_option maxRecDepth 100000 in
set_option maxHeartbeats 4000000 in
theorem run_of {W0 : World} {A : Option Addr} {cap : Nat} {lib : List Af} {bv d : Nat} (hB : ∀ d', d' < d → BindEC W0 A cap lib bv d') : RunC W0 A cap lib bv d := by
  intro X act l vars f F w Al cl bm n hp hXb hXl henv hbm hA hfit har hll hnf
  have HB := Lib.hid hB
  have HA := Lib.hid (And.intro hA (And.intro hfit har))
  have HP := Lib.hid hp
  have HENV := Lib.hid henv
  have hne : bv ≠ bm := fun e => henv.1 (e ▸ hXb)
  have HXB := Lib.hid hXb
  have HXL := Lib.hid hXl
  clear hB hA hfit har hp henv hXl hXb
  go_enter Tryd.func56, Tryd.ntmps56
  go_wp2_with fail
  go_loopw [12] (fun i wr => ∃ (k nk fk : Nat) (Fk : Int) (envk : Ev), k ≤ l.length ∧ i = .int .i64 k ∧ Hid (Fr w wr (fun j => j = bv ∨ j = bm)) ∧ Hid (EvPre W0 wr bv A cap lib Fk act (d - k) fk) ∧ Hid (EnvX wr X bm nk envk) ∧ nk + fk ≤ n + f ∧ Hid (aRun apR lib d act l vars f = aRun apR lib (d - k) act (l.drop k) envk fk)) (fun i _ => l.length - (intOf i).toNat)
  case atStart => exact ⟨0, n, f, F, vars, by omega, rfl, Lib.hid (Fr.refl _ _), HP, HENV, by omega, Lib.hid (by rw [List.drop_zero]; rfl)⟩
  case round =>
    obtain ⟨k, nk, fk, Fk, envk, hk, rfl, hfr, hpk, hek, hnk, hE⟩ := hrel
    by_cases hin : k < l.length
    · have HST := Lib.hid hE.out
      rw [List.drop_eq_getElem_cons hin] at HST
      have HFT := Lib.hid (And.intro (HA.out.2.1 _ (List.getElem_mem hin)) (HA.out.2.2 _ (List.getElem_mem hin)))
      obtain ⟨b, o, rfl, hbo⟩ := HA.out.1 k _ (List.getElem?_eq_getElem hin)
      generalize l[k] = t at *
      obtain ⟨cs, hcs, _, hcell⟩ := hbo.open_
      have HCS := Lib.hid hcs
      obtain ⟨Aa, ca, At, ct, Ae, ce, rfl, _⟩ := hcs
      have hbw := hpk.out.bw
      have c0 := below_cell hbw (hcell 0 _ rfl)
      have c1 := below_cell hbw (hcell 1 _ rfl)
      have c2 := below_cell hbw (hcell 2 _ rfl)
      have c3 := below_cell hbw (hcell 3 _ rfl)
      have c4 := below_cell hbw (hcell 4 _ rfl)
      have c5 := below_cell hbw (hcell 5 _ rfl)
      have c6 := below_cell hbw (hcell 6 _ rfl)
      have c7 := below_cell hbw (hcell 7 _ rfl)
      rw [Nat.add_zero] at c0
      have hlb := block_lt_of_cell c0
      have HBX := Lib.hid (below_box wr (Obj.cells #[.string t.to, .bool t.list, .int .u8 t.op, .int .i64 t.num, .string t.name, .slice Aa t.args.length ca, .slice At t.thn.length ct, .slice Ae t.els.length ce] 67))
      have HRX := Lib.hid (bx_new wr #[.string t.to, .bool t.list, .int .u8 t.op, .int .i64 t.num, .string t.name, .slice Aa t.args.length ca, .slice At t.thn.length ct, .slice Ae t.els.length ce] 67)
      have HLV := Lib.hid (show bv < wr.heap.size from Bx.lt hpk.out.ev)
      have rk1 : (0 : Int) ≤ k := by omega
      clear hE hbo hcell hbw
      go_upto_region 4 with fail
      clear c0 c1 c2 c3 c4 c5 c6 c7 hlb
      have HEV := Lib.hid (show EvB _ bv A cap lib Fk act from Bx.below hpk.out.ev HBX.out)
      have HEX := Lib.hid (hek.out.belowA HBX.out)
      have HFW := Lib.hid (hfr.out.trans (Fr.of_below HBX.out (fun j => j = bv ∨ j = bm)) fun _ _ e => e)
      have HBW := Lib.hid (below_step hpk.out.bw hpk.out.bw.size HBX.out)
      generalize wr.alloc _ = W at HBX HRX HEV HEX HFW HBW ⊢
      obtain ⟨v0, v1, v2, z0, z1, z2⟩ := HEV.out.three
      have hlv := Bx.lt HEV.out
      obtain ⟨a0, a1, a2, a3, a4, a5, a6, a7⟩ := HRX.out.eight.1
      have hlx := HRX.out.lt
      have hff := hpk.out.ff
      have hfm := hpk.out.fm
      have hfd := hpk.out.fd
      by_cases hF : Fk ≤ 0
      · have hf0 : fk = 0 := by omega
        have HE := Lib.hid (show RetRn X A cap lib bv bm act (n + f) (aRun apR lib d act l vars f) w (.returned (.int .i64 18)) W from ⟨HFW.out, nk, envk, Fk, HEV.out, HEX.out, .inl ⟨18, by rw [HST.out, hf0, aRun_zero], by decide, rfl⟩⟩)
        clear hff hfd
        go_wp2_with fail
        go_ret
        exact HE.out
      · obtain ⟨d', hd'⟩ : ∃ d', d - k = d' + 1 := ⟨d - k - 1, by omega⟩
        have HST2 := Lib.hid (show aRun apR lib d act l vars f = match aBind apR lib (aRun apR lib d') act t envk (fk - 1) with
            | .err e => .err e
            | .ok vars' f' => aRun apR lib d' act (l.drop (k + 1)) vars' f' by rw [HST.out, hd', aRun_cons, if_neg (by omega)])
        have HD' := Lib.hid hd'
        have HPK := Lib.hid (show EvPre W0 (W.setCell ⟨bv, 1, none⟩ (.int .i64 (Fk - 1))) bv A cap lib (Fk - 1) act d' (fk - 1) from ⟨(Fr.of_set W ⟨bv, 1, none⟩ (.int .i64 (Fk - 1))).toBelow HBW.out HBW.out.size (fun j e => by have := HP.out.vl; have e' : j = bv := e; omega), Bx.set HEV.out 1 (.int .i64 (Fk - 1)), HP.out.vl, by omega, by omega, by omega, HP.out.am⟩)
        have HEX2 := Lib.hid (show EnvX (W.setCell ⟨bv, 1, none⟩ (.int .i64 (Fk - 1))) X bm nk envk from HEX.out.fr (Fr.of_set W ⟨bv, 1, none⟩ (.int .i64 (Fk - 1))) (fun j _ e => by have e' : j = bv := e; rw [e']; exact HXB.out) fun _ _ e => e)
        have HFW2 := Lib.hid (HFW.out.trans ((Fr.of_set W ⟨bv, 1, none⟩ (.int .i64 (Fk - 1))).mono fun j _ e => (.inl e : j = bv ∨ j = bm)) fun _ _ e => e)
        have HRX2 := Lib.hid (HRX.out.fr (Fr.of_set W ⟨bv, 1, none⟩ (.int .i64 (Fk - 1))) (fun e => by have e' : wr.heap.size = bv := e; have := HLV.out; omega))
        have HCB := Lib.hid (HB.out d' (by omega) X act t envk (fk - 1) (Fk - 1) _ _ bm nk HPK.out HXB.out (fun j e => by have h1 := HXL.out j e; have h2 := HFW2.out.size; omega) HEX2.out hbm HCS.out HFT.out.1 HFT.out.2 (by omega))
        have hwr : IntKind.i64.wrap (Fk - 1) = Fk - 1 := by rw [IntKind.wrap_i64] <;> omega
        clear hff hfd HST hd'
        go_upto_region 7 with fail
        clear v0 v1 v2 z0 z1 z2 hlv a0 a1 a2 a3 a4 a5 a6 a7 hlx hwr
        generalize W.setCell _ _ = W2 at HPK HEX2 HFW2 HRX2 HCB ⊢
        obtain ⟨a0, a1, a2, a3, a4, a5, a6, a7⟩ := HRX2.out.eight.1
        have hlx := HRX2.out.lt
        go_wp2_with fail
        refine HCB.out.mono ?_
        clear HCB a0 a1 a2 a3 a4 a5 a6 a7 hlx
        rintro e w5 ⟨hf5, n5, env5, F5, hev5, hex5, hr5⟩
        have HF5 := Lib.hid (HFW2.out.trans hf5 fun _ _ e => e)
        have HBW5 := Lib.hid (show Below W0.heap.size W0 w5 from hf5.toBelow HPK.out.bw HPK.out.bw.size (fun j e => by have := HP.out.vl; rcases e with e | e <;> omega))
        rcases hr5 with ⟨c, hc, hc0, rfl⟩ | ⟨f', hc, hF', hFm, hn5, rfl⟩
        · have HE := Lib.hid (show RetRn X A cap lib bv bm act (n + f) (aRun apR lib d act l vars f) w (.returned (.int .i64 c)) w5 from ⟨HF5.out, n5, env5, F5, hev5, hex5, .inl ⟨c, by rw [HST2.out, hc], hc0, rfl⟩⟩)
          have hcb : (c != 0) = true := bne_iff_ne.2 hc0
          clear hf5 hev5 hex5 hc hc0
          go_wp2_with fail
          go_ret
          exact HE.out
        · have HST3 := Lib.hid (show aRun apR lib d act l vars f = aRun apR lib (d - (k + 1)) act (l.drop (k + 1)) env5 f' by rw [HST2.out, hc, show d - (k + 1) = d' by have := HD'.out; omega])
          have HLE := Lib.hid (aBind_le (aRun_le d') hc)
          have HEX5 := Lib.hid hex5
          have HPK5 := Lib.hid (show EvPre W0 w5 bv A cap lib F5 act (d - (k + 1)) f' from ⟨HBW5.out, hev5, HP.out.vl, hF', by have := HLE.out; have := HD'.out; have := HPK.out.fd; omega, hFm, HP.out.am⟩)
          clear hf5 hev5 hex5 hc HST2
          go_wp2_with fail
          exact ⟨⟨k + 1, n5, f', F5, env5, by omega, by go_num, HF5, HPK5, HEX5, by have := hpk.out.ff; omega, HST3⟩, by simp [intOf]; omega⟩
    · obtain rfl : k = l.length := by omega
      rw [List.drop_length, aRun_nil] at hE
      have HE := Lib.hid (show RetRn X A cap lib bv bm act (n + f) (aRun apR lib d act l vars f) w (.returned (.int .i64 0)) wr from ⟨hfr.out, nk, envk, Fk, hpk.out.ev, hek.out, .inr ⟨fk, hE.out, hpk.out.ff, hpk.out.fm, hnk, rfl⟩⟩)
      clear hE hfr hpk hek
      go_wp2_with fail
      go_ret
      exact HE.out

end Go.Proofs.YtcoeakdpcigogaaDoor
