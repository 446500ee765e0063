/-
  The law's awake.
-/
import Derived.Test.YtoankdaddgjnlaaFevCall2
import Derived.Test.YtoankdaddgjnlaaFevSteps
import Derived.Test.YtoankdaddgjnlaaFunLenP
import Derived.Test.YtoankdaddgjnlaaRegAny
import Derived.Test.YtoankdaddgjnlaaFunRow
import Derived.Deep.DeepCutAuto
namespace Go.Proofs.Ytoankdaddgjnlaa
open Go.ChangeShapes Go.WideShapes Go.ChangeAt Go.RowKit Go.Sort Go.Maps

set_option maxRecDepth 100000 in
theorem mknode_any (k : Nat) (A : Option Addr) (n c : Nat) (w : World) :
    Calls Try.prog 9 #[.int .u8 k, .slice A n c] w fun e w' => e = .returned (.agg #[.int .u8 k, .int .i64 0, .string ⟨#[]⟩, .slice A n c]) ∧ Below w.heap.size w w' := by
  go_enter Try.func9, Try.ntmps9
  go_wp2_with fail
  exact bodyPost_ret (v := .agg #[.int .u8 k, .int .i64 0, .string ⟨#[]⟩, .slice A n c]) (by simp [results, Try.results9, go_sem]) rfl ⟨rfl, below_box w _⟩

def NdVal (w : World) (v : Value) (x : Nd) : Prop := ∃ A c, v = .agg #[.int .u8 x.kind, .int .i64 x.num, .string x.name, .slice A x.kids.length c] ∧ NdsAt w A x.kids
def NdSl (w : World) (v : Value) (l : List Nd) : Prop := ∃ A c, v = .slice A l.length c ∧ NdsAt w A l
def PmSl (w : World) (v : Value) (l : List Pm) : Prop := ∃ A c, v = .slice A l.length c ∧ PmsAt w A l
def FnVal (w : World) (v : Value) (f : Fn1) : Prop := ∃ A1 c1 A3 c3, v = .agg #[.string f.name, .slice A1 f.params.length c1, .bool f.list, .int .u8 f.body.kind, .int .i64 f.body.num, .string f.body.name, .slice A3 f.body.kids.length c3] ∧ PmsAt w A1 f.params ∧ NdsAt w A3 f.body.kids
def LibSl (w : World) (v : Value) (l : List Fn1) : Prop := ∃ A c, v = .slice A l.length c ∧ LibAt w A l
def AwF (fv : Value) : Nat → Value → World → Prop
  | 0, v, _ => v = .agg #[.string sXs, .bool true]
  | 1, v, w => PmSl w v [⟨sXs, true⟩]
  | 2, v, _ | 3, v, _ | 7, v, _ | 10, v, _ => v = fv
  | 4, v, w | 11, v, w => NdVal w v xsN
  | 5, v, w | 12, v, w => NdSl w v [xsN]
  | 6, v, w => NdVal w v nullN
  | 8, v, w => NdVal w v zeroN
  | 9, v, w => NdVal w v oneN
  | 13, v, w => NdVal w v tailN
  | 14, v, w => NdSl w v [tailN]
  | 15, v, w => NdVal w v recN
  | 16, v, w => NdSl w v [oneN, recN]
  | 17, v, w => NdVal w v addN
  | 18, v, w => NdSl w v [nullN, zeroN, addN]
  | 19, v, w => NdVal w v lenBody
  | 20, v, w => FnVal w v lenFn
  | 21, v, w | 22, v, w => LibSl w v lenLib
  | _, _, _ => True
theorem NdVal.mono {w w' : World} {v : Value} {x : Nd} (h : NdVal w v x) (hb : Below w.heap.size w w') : NdVal w' v x := by
  obtain ⟨A, c, e, h⟩ := h; exact ⟨A, c, e, h.mono hb⟩
theorem NdSl.mono {w w' : World} {v : Value} {l : List Nd} (h : NdSl w v l) (hb : Below w.heap.size w w') : NdSl w' v l := by
  obtain ⟨A, c, e, h⟩ := h; exact ⟨A, c, e, h.mono hb⟩
theorem PmSl.mono {w w' : World} {v : Value} {l : List Pm} (h : PmSl w v l) (hb : Below w.heap.size w w') : PmSl w' v l := by
  obtain ⟨A, c, e, h⟩ := h; exact ⟨A, c, e, h.mono hb⟩
theorem FnVal.mono {w w' : World} {v : Value} {f : Fn1} (h : FnVal w v f) (hb : Below w.heap.size w w') : FnVal w' v f := by
  obtain ⟨A1, c1, A3, c3, e, h1, h2⟩ := h; exact ⟨A1, c1, A3, c3, e, h1.mono hb, h2.mono hb⟩
theorem LibSl.mono {w w' : World} {v : Value} {l : List Fn1} (h : LibSl w v l) (hb : Below w.heap.size w w') : LibSl w' v l := by
  obtain ⟨A, c, e, h⟩ := h; exact ⟨A, c, e, h.mono hb⟩
theorem AwF.mono (fv : Value) : ∀ (i : Nat) (v : Value) (w w' : World), AwF fv i v w → Below w.heap.size w w' → AwF fv i v w' := by
  intro i v w w' h hb
  unfold AwF at h ⊢
  split <;> simp only at h
  all_goals first | exact h | exact PmSl.mono h hb | exact NdVal.mono h hb | exact NdSl.mono h hb | exact FnVal.mono h hb | exact LibSl.mono h hb | trivial

/-! ### What the example comes to -/
def awArgs : List Vl := [⟨true, 0, [7, 8]⟩]
def awT : Tr := .mk 0 [⟨true, 0, [7, 8]⟩] ⟨false, 2, []⟩ [.mk 0 [⟨true, 0, [8]⟩] ⟨false, 1, []⟩ [.mk 0 [⟨true, 0, []⟩] ⟨false, 0, []⟩ []]]
theorem aw_enter : enter lenLib (ev apR lenLib (100 : Int).toNat) 0 (0 : Int) awArgs (100 : Int).toNat = .ok awT 80 := by kernel_rfl
theorem aw_enter5 : enter lenLib (ev apR lenLib (5 : Int).toNat) 0 (0 : Int) awArgs (5 : Int).toNat = .err 18 := by kernel_rfl
theorem aw_start {F : Int} {o : OutT} (h : enter lenLib (ev apR lenLib F.toNat) 0 (0 : Int) awArgs F.toNat = o) : startR lenLib ⟨#[108, 101, 110]⟩ awArgs F = o := by
  unfold startR
  rw [if_neg (by rw [len_valid]; simp), len_find, if_neg (by omega)]
  show (if awArgs.length ≠ lenFn.params.length then OutT.err 7 else if tyB awArgs lenFn.params = false then .err 7 else if longB awArgs = true then .err 5 else enter lenLib (ev apR lenLib F.toNat) 0 0 awArgs F.toNat) = o
  rw [if_neg (by decide), if_neg (by decide), if_neg (by decide), h]

theorem aw_call {A : Option Addr} {c : Nat} {Aa : Option Addr} {ca : Nat} {w : World} (hL : LibAt w A lenLib) (hV : VlsX w (fun _ => False) Aa awArgs) : Calls Try.prog 6 #[.slice A 1 c, .string ⟨#[108, 101, 110]⟩, .slice Aa 1 ca, .int .i64 100] w fun e w' => (∃ A c, e = .returned (.tuple #[.agg #[.bool false, .int .i64 2, .slice A 0 c], .int .i64 0])) ∧ Below w.heap.size w w' := by
  have h := evcall_any lenLib A c ⟨#[108, 101, 110]⟩ awArgs Aa ca 100 w hL len_fit len_few len_nodes hV (by intro v hv; simp [awArgs] at hv; subst hv; simp) (by decide) (by omega)
  rw [aw_start aw_enter] at h
  refine h.mono ?_
  rintro e w' ⟨hb, ⟨n, e1, _⟩ | ⟨t, f1, e1, _, A', c', _, rfl⟩⟩
  · cases e1
  · cases e1
    exact ⟨⟨A', c', rfl⟩, hb⟩
theorem aw_call5 {A : Option Addr} {c : Nat} {Aa : Option Addr} {ca : Nat} {w : World} (hL : LibAt w A lenLib) (hV : VlsX w (fun _ => False) Aa awArgs) : Calls Try.prog 6 #[.slice A 1 c, .string ⟨#[108, 101, 110]⟩, .slice Aa 1 ca, .int .i64 5] w fun e w' => e = .returned (.tuple #[.agg #[.bool false, .int .i64 0, .slice none 0 0], .int .i64 18]) ∧ Below w.heap.size w w' := by
  have h := evcall_any lenLib A c ⟨#[108, 101, 110]⟩ awArgs Aa ca 5 w hL len_fit len_few len_nodes hV (by intro v hv; simp [awArgs] at hv; subst hv; simp) (by decide) (by omega)
  rw [aw_start aw_enter5] at h
  refine h.mono ?_
  rintro e w' ⟨hb, ⟨n, e1, _, rfl⟩ | ⟨t, f1, e1, _⟩⟩
  · cases e1
    exact ⟨rfl, hb⟩
  · cases e1
theorem aw_trace {A : Option Addr} {c : Nat} {Aa : Option Addr} {ca : Nat} {w : World} (hL : LibAt w A lenLib) (hV : VlsX w (fun _ => False) Aa awArgs) : Calls Try.prog 10 #[.slice A 1 c, .string ⟨#[108, 101, 110]⟩, .slice Aa 1 ca, .int .i64 100] w fun e w' => (∃ Aa ca AL cL Ac cc, e = .returned (.tuple #[.agg #[.int .i64 0, .slice Aa 1 ca, .bool false, .int .i64 2, .slice AL 0 cL, .slice Ac 1 cc], .int .i64 0]) ∧ TrsX w' (fun _ => False) Ac awT.calls) ∧ Below w.heap.size w w' := by
  have h := trace_any lenLib A c ⟨#[108, 101, 110]⟩ awArgs Aa ca 100 w hL len_fit len_few len_nodes hV (by intro v hv; simp [awArgs] at hv; subst hv; simp) (by decide) (by omega)
  rw [aw_start aw_enter] at h
  refine h.mono ?_
  rintro e w' ⟨hb, ⟨n, e1, _⟩ | ⟨t, f1, e1, _, cs, ⟨Aa, ca, AL, cL, Ac, cc, rfl, _, _, h3⟩, _, rfl⟩⟩
  · cases e1
  · cases e1
    exact ⟨⟨Aa, ca, AL, cL, Ac, cc, rfl, h3⟩, hb⟩
theorem aw_steps {tf : Int} {Aa : Option Addr} {na ca : Nat} {b : Bool} {m : Int} {AL : Option Addr} {nl cL : Nat} {Ac : Option Addr} {cc : Nat} {w : World} (h : TrsX w (fun _ => False) Ac awT.calls) : Calls Try.prog 11 #[.agg #[.int .i64 tf, .slice Aa na ca, .bool b, .int .i64 m, .slice AL nl cL, .slice Ac 1 cc]] w fun e w' => e = .returned (.int .i64 3) ∧ Below w.heap.size w w' :=
  steps_any (fun _ => False) _ awT (Nat.le_refl _) (by decide) tf Aa na ca b m AL nl cL Ac cc w h
theorem aw_height {tf : Int} {Aa : Option Addr} {na ca : Nat} {b : Bool} {m : Int} {AL : Option Addr} {nl cL : Nat} {Ac : Option Addr} {cc : Nat} {w : World} (h : TrsX w (fun _ => False) Ac awT.calls) : Calls Try.prog 12 #[.agg #[.int .i64 tf, .slice Aa na ca, .bool b, .int .i64 m, .slice AL nl cL, .slice Ac 1 cc]] w fun e w' => e = .returned (.int .i64 3) ∧ Below w.heap.size w w' :=
  height_any (fun _ => False) _ awT (Nat.le_refl _) (by decide) tf Aa na ca b m AL nl cL Ac cc w h
theorem aw_args (w : World) (T1 T2 : TypeId) : VlsX ((w.alloc (Obj.cells #[.int .i64 7, .int .i64 8] T1)).alloc (Obj.cells #[.bool true, .int .i64 0, .slice (some ⟨w.heap.size, 0, none⟩) 2 2] T2)) (fun _ => False) (some ⟨w.heap.size + 1, 0, none⟩) awArgs := fun k v hk => by
  have b1 := (bx_new w #[.int .i64 7, .int .i64 8] T1).below (below_box _ (Obj.cells #[.bool true, .int .i64 0, .slice (some ⟨w.heap.size, 0, none⟩) 2 2] T2))
  have b2 := bx_new (w.alloc (Obj.cells #[.int .i64 7, .int .i64 8] T1)) #[.bool true, .int .i64 0, .slice (some ⟨w.heap.size, 0, none⟩) 2 2] T2
  rw [show (w.alloc (Obj.cells #[.int .i64 7, .int .i64 8] T1)).heap.size = w.heap.size + 1 by simp] at b2
  cases k with
  | succ k => simp [awArgs] at hk
  | zero =>
    simp [awArgs] at hk; subst hk
    refine ⟨w.heap.size + 1, 0, some ⟨w.heap.size, 0, none⟩, 2, rfl, id, b2.cell rfl, b2.cell rfl, b2.cell rfl, Nat.le_refl _, fun j x hj => ⟨w.heap.size, 0, rfl, id, ?_⟩⟩
    match j, hj with
    | 0, hj => simp at hj; subst hj; exact b1.cell rfl
    | 1, hj => simp at hj; subst hj; exact b1.cell rfl
    | j + 2, hj => simp at hj
theorem VlsX.below {w w' : World} {X : Nat → Prop} {A : Option Addr} {l : List Vl} (h : VlsX w X A l) (hb : Below w.heap.size w w') : VlsX w' X A l := h.le (Le.of_fr (Fr.of_below hb (fun _ => False)) (fun _ _ e => e.elim) fun _ _ e => e)

theorem notDst {ops : Array Oper} {s : Nat} (h : ops.all (fun o => decide (o.dst ≠ some s)) = true) : ∀ j, dstOf ops j ≠ some s := fun j e => by
  unfold dstOf at e
  cases ho : ops[j]? with
  | none => rw [ho] at e; cases e
  | some o =>
    rw [ho] at e
    have := Array.all_eq_true'.1 h o (Array.mem_of_getElem? ho)
    simp at this
    exact this e
theorem pm_one (w : World) (s : ByteArray) (b : Bool) (T : TypeId) : PmSl (w.alloc (Obj.cells #[.string s, .bool b] T)) (.slice (some ⟨w.heap.size, 0, none⟩) 1 1) [⟨s, b⟩] := by
  have bx := bx_new w #[.string s, .bool b] T
  refine ⟨_, _, rfl, fun k x hk => ?_⟩
  cases k with
  | zero =>
    simp at hk; subst hk
    exact ⟨w.heap.size, 0, rfl, bx.cell rfl, bx.cell rfl⟩
  | succ k => simp at hk
theorem nds_one (w : World) (T : TypeId) (x : Nd) (A : Option Addr) (c : Nat) (h : NdsAt w A x.kids) : NdsAt (w.alloc (Obj.cells #[.int .u8 x.kind, .int .i64 x.num, .string x.name, .slice A x.kids.length c] T)) (some ⟨w.heap.size, 0, none⟩) [x] := fun k y hk => by
  have bx := bx_new w #[.int .u8 x.kind, .int .i64 x.num, .string x.name, .slice A x.kids.length c] T
  have h' := h.mono (below_box w (Obj.cells #[.int .u8 x.kind, .int .i64 x.num, .string x.name, .slice A x.kids.length c] T))
  cases k with
  | zero => simp at hk; subst hk; exact ⟨_, _, rfl, nd_of_cells (bx.cell rfl) (bx.cell rfl) (bx.cell rfl) (bx.cell rfl) h'⟩
  | succ k => simp at hk
theorem nds_two (w : World) (T : TypeId) (x y : Nd) (A : Option Addr) (c : Nat) (B : Option Addr) (d : Nat) (h : NdsAt w A x.kids) (g : NdsAt w B y.kids) : NdsAt (w.alloc (Obj.cells #[.int .u8 x.kind, .int .i64 x.num, .string x.name, .slice A x.kids.length c, .int .u8 y.kind, .int .i64 y.num, .string y.name, .slice B y.kids.length d] T)) (some ⟨w.heap.size, 0, none⟩) [x, y] := fun k z hk => by
  have bx := bx_new w #[.int .u8 x.kind, .int .i64 x.num, .string x.name, .slice A x.kids.length c, .int .u8 y.kind, .int .i64 y.num, .string y.name, .slice B y.kids.length d] T
  have hb := below_box w (Obj.cells #[.int .u8 x.kind, .int .i64 x.num, .string x.name, .slice A x.kids.length c, .int .u8 y.kind, .int .i64 y.num, .string y.name, .slice B y.kids.length d] T)
  match k, hk with
  | 0, hk => simp at hk; subst hk; exact ⟨_, _, rfl, nd_of_cells (bx.cell rfl) (bx.cell rfl) (bx.cell rfl) (bx.cell rfl) (h.mono hb)⟩
  | 1, hk => simp at hk; subst hk; exact ⟨_, _, rfl, nd_of_cells (bx.cell rfl) (bx.cell rfl) (bx.cell rfl) (bx.cell rfl) (g.mono hb)⟩
  | k + 2, hk => simp at hk
theorem nds_three (w : World) (T : TypeId) (x y z : Nd) (A : Option Addr) (c : Nat) (B : Option Addr) (d : Nat) (C : Option Addr) (e : Nat) (h : NdsAt w A x.kids) (g : NdsAt w B y.kids) (f : NdsAt w C z.kids) : NdsAt (w.alloc (Obj.cells #[.int .u8 x.kind, .int .i64 x.num, .string x.name, .slice A x.kids.length c, .int .u8 y.kind, .int .i64 y.num, .string y.name, .slice B y.kids.length d, .int .u8 z.kind, .int .i64 z.num, .string z.name, .slice C z.kids.length e] T)) (some ⟨w.heap.size, 0, none⟩) [x, y, z] := fun k u hk => by
  have bx := bx_new w #[.int .u8 x.kind, .int .i64 x.num, .string x.name, .slice A x.kids.length c, .int .u8 y.kind, .int .i64 y.num, .string y.name, .slice B y.kids.length d, .int .u8 z.kind, .int .i64 z.num, .string z.name, .slice C z.kids.length e] T
  have hb := below_box w (Obj.cells #[.int .u8 x.kind, .int .i64 x.num, .string x.name, .slice A x.kids.length c, .int .u8 y.kind, .int .i64 y.num, .string y.name, .slice B y.kids.length d, .int .u8 z.kind, .int .i64 z.num, .string z.name, .slice C z.kids.length e] T)
  match k, hk with
  | 0, hk => simp at hk; subst hk; exact ⟨_, _, rfl, nd_of_cells (bx.cell rfl) (bx.cell rfl) (bx.cell rfl) (bx.cell rfl) (h.mono hb)⟩
  | 1, hk => simp at hk; subst hk; exact ⟨_, _, rfl, nd_of_cells (bx.cell rfl) (bx.cell rfl) (bx.cell rfl) (bx.cell rfl) (g.mono hb)⟩
  | 2, hk => simp at hk; subst hk; exact ⟨_, _, rfl, nd_of_cells (bx.cell rfl) (bx.cell rfl) (bx.cell rfl) (bx.cell rfl) (f.mono hb)⟩
  | k + 3, hk => simp at hk
theorem lib_one (w : World) (T : TypeId) (f : Fn1) (A1 : Option Addr) (c1 : Nat) (A3 : Option Addr) (c3 : Nat) (h1 : PmsAt w A1 f.params) (h3 : NdsAt w A3 f.body.kids) : LibAt (w.alloc (Obj.cells #[.string f.name, .slice A1 f.params.length c1, .bool f.list, .int .u8 f.body.kind, .int .i64 f.body.num, .string f.body.name, .slice A3 f.body.kids.length c3] T)) (some ⟨w.heap.size, 0, none⟩) [f] := fun k g hk => by
  have bx := bx_new w #[.string f.name, .slice A1 f.params.length c1, .bool f.list, .int .u8 f.body.kind, .int .i64 f.body.num, .string f.body.name, .slice A3 f.body.kids.length c3] T
  have hb := below_box w (Obj.cells #[.string f.name, .slice A1 f.params.length c1, .bool f.list, .int .u8 f.body.kind, .int .i64 f.body.num, .string f.body.name, .slice A3 f.body.kids.length c3] T)
  cases k with
  | zero =>
    simp at hk; subst hk
    refine ⟨_, _, rfl, fnO_of_cells ⟨A1, c1, A3, c3, rfl, h1.mono hb, h3.mono hb⟩ fun j hj => ?_⟩
    match j, hj with
    | 0, _ => exact bx.cell rfl
    | 1, _ => exact bx.cell rfl
    | 2, _ => exact bx.cell rfl
    | 3, _ => exact bx.cell rfl
    | 4, _ => exact bx.cell rfl
    | 5, _ => exact bx.cell rfl
    | 6, _ => exact bx.cell rfl
    | j + 7, h => omega
  | succ k => simp at hk

set_option maxRecDepth 100000 in
set_option maxHeartbeats 2000000 in
theorem awake_any (w : World) : Calls Try.prog 4 #[] w fun e w' => e = .returned (.bool true) ∧ Below w.heap.size w w' := by
  have xb := bx_new w #[.int .u8 81, .int .i64 0, .string sXs, .slice none 0 0] 41
  have q1 := below_box w (Obj.cells #[.int .u8 81, .int .i64 0, .string sXs, .slice none 0 0] 41)
  unfold sXs at xb q1
  go_enter Try.func4, Try.ntmps4
  go_wp2_with fail
  generalize World.alloc _ _ = W at xb q1 ⊢
  go_cut [3] (fun l wc => ∃ A c, l = .slice A 1 c ∧ Hid (LibAt wc A lenLib) ∧ Below W.heap.size W wc)
  case first =>
    refine wp_region_mono (AwF (.func (.func 9) #[] #[])) (by kernel_rfl) (AwF.mono _) _ W (by kernel_rfl) ?_ ?_
    · intro i o ho vals a wx hb hout hdep
      have hi : i < 23 := by have := (Array.getElem?_eq_some_iff.1 ho).1; simpa using this
      have hcs : i = 0 ∨ i = 1 ∨ i = 2 ∨ i = 3 ∨ i = 4 ∨ i = 5 ∨ i = 6 ∨ i = 7 ∨ i = 8 ∨ i = 9 ∨ i = 10 ∨ i = 11 ∨ i = 12 ∨ i = 13 ∨ i = 14 ∨ i = 15 ∨ i = 16 ∨ i = 17 ∨ i = 18 ∨ i = 19 ∨ i = 20 ∨ i = 21 ∨ i = 22 := by omega
      clear hi
      rcases hcs with rfl | rfl | rfl | rfl | rfl | rfl | rfl | rfl | rfl | rfl | rfl | rfl | rfl | rfl | rfl | rfl | rfl | rfl | rfl | rfl | rfl | rfl | rfl
      · cases ho
        go_simp
        exact ⟨_, rfl, rfl, Below.refl _ _⟩
      · cases ho
        have h0 := hdep ⟨0, .data⟩ (by simp) rfl
        have t0 := h0.1 12 rfl
        have p0 : (vals 0) = .agg #[.string sXs, .bool true] := h0.2
        clear h0
        generalize vals 0 = v0 at t0 p0
        subst p0
        go_simp
        exact ⟨_, rfl, pm_one wx _ _ _, below_box wx _⟩
      · cases ho
        have t2 := hout 2 (notDst (by kernel_rfl))
        simp at t2
        go_simp
        exact ⟨_, rfl, rfl, Below.refl _ _⟩
      · cases ho
        have t2 := hout 2 (notDst (by kernel_rfl))
        simp at t2
        go_simp
        exact ⟨_, rfl, rfl, Below.refl _ _⟩
      · cases ho
        have t1 := hout 1 (notDst (by kernel_rfl))
        simp at t1
        obtain ⟨x0, x1, x2, x3, _⟩ := (xb.below hb).four
        go_simp
        exact ⟨_, rfl, ⟨none, 0, rfl, (fun k x hk => by cases k <;> simp [xsN, Nd.kids] at hk)⟩, Below.refl _ _⟩
      · cases ho
        have h4 := hdep ⟨4, .data⟩ (by simp) rfl
        have t4 := h4.1 16 rfl
        have p4 : NdVal wx (vals 4) xsN := h4.2
        clear h4
        generalize vals 4 = v4 at t4 p4
        obtain ⟨A4, c4, rfl, n4⟩ := p4
        go_simp
        exact ⟨_, rfl, ⟨_, _, rfl, nds_one wx _ xsN A4 c4 n4⟩, below_box wx _⟩
      · cases ho
        have h3 := hdep ⟨3, .data⟩ (by simp) rfl
        have t3 := h3.1 15 rfl
        have p3 : (vals 3) = (.func (.func 9) #[] #[]) := h3.2
        clear h3
        generalize vals 3 = v3 at t3 p3
        subst p3
        have h5 := hdep ⟨5, .data⟩ (by simp) rfl
        have t5 := h5.1 17 rfl
        have p5 : NdSl wx (vals 5) [xsN] := h5.2
        clear h5
        generalize vals 5 = v5 at t5 p5
        obtain ⟨A5, c5, rfl, n5⟩ := p5
        go_simp
        refine (mknode_any 90 A5 1 c5 wx).mono ?_
        rintro e w2 ⟨rfl, hb2⟩
        exact ⟨_, rfl, ⟨_, _, rfl, n5.mono hb2⟩, hb2⟩
      · cases ho
        have t2 := hout 2 (notDst (by kernel_rfl))
        simp at t2
        go_simp
        exact ⟨_, rfl, rfl, Below.refl _ _⟩
      · cases ho
        have h7 := hdep ⟨7, .data⟩ (by simp) rfl
        have t7 := h7.1 19 rfl
        have p7 : (vals 7) = (.func (.func 9) #[] #[]) := h7.2
        clear h7
        generalize vals 7 = v7 at t7 p7
        subst p7
        go_simp
        refine (mknode_any 80 none 0 0 wx).mono ?_
        rintro e w2 ⟨rfl, hb2⟩
        exact ⟨_, rfl, ⟨_, _, rfl, (fun k x hk => by cases k <;> simp [zeroN, Nd.kids] at hk)⟩, hb2⟩
      · cases ho
        go_simp
        exact ⟨_, rfl, ⟨none, 0, rfl, (fun k x hk => by cases k <;> simp [oneN, Nd.kids] at hk)⟩, Below.refl _ _⟩
      · cases ho
        have t2 := hout 2 (notDst (by kernel_rfl))
        simp at t2
        go_simp
        exact ⟨_, rfl, rfl, Below.refl _ _⟩
      · cases ho
        have t1 := hout 1 (notDst (by kernel_rfl))
        simp at t1
        obtain ⟨x0, x1, x2, x3, _⟩ := (xb.below hb).four
        go_simp
        exact ⟨_, rfl, ⟨none, 0, rfl, (fun k x hk => by cases k <;> simp [xsN, Nd.kids] at hk)⟩, Below.refl _ _⟩
      · cases ho
        have h11 := hdep ⟨11, .data⟩ (by simp) rfl
        have t11 := h11.1 23 rfl
        have p11 : NdVal wx (vals 11) xsN := h11.2
        clear h11
        generalize vals 11 = v11 at t11 p11
        obtain ⟨A11, c11, rfl, n11⟩ := p11
        go_simp
        exact ⟨_, rfl, ⟨_, _, rfl, nds_one wx _ xsN A11 c11 n11⟩, below_box wx _⟩
      · cases ho
        have h10 := hdep ⟨10, .data⟩ (by simp) rfl
        have t10 := h10.1 22 rfl
        have p10 : (vals 10) = (.func (.func 9) #[] #[]) := h10.2
        clear h10
        generalize vals 10 = v10 at t10 p10
        subst p10
        have h12 := hdep ⟨12, .data⟩ (by simp) rfl
        have t12 := h12.1 24 rfl
        have p12 : NdSl wx (vals 12) [xsN] := h12.2
        clear h12
        generalize vals 12 = v12 at t12 p12
        obtain ⟨A12, c12, rfl, n12⟩ := p12
        go_simp
        refine (mknode_any 89 A12 1 c12 wx).mono ?_
        rintro e w2 ⟨rfl, hb2⟩
        exact ⟨_, rfl, ⟨_, _, rfl, n12.mono hb2⟩, hb2⟩
      · cases ho
        have h13 := hdep ⟨13, .data⟩ (by simp) rfl
        have t13 := h13.1 25 rfl
        have p13 : NdVal wx (vals 13) tailN := h13.2
        clear h13
        generalize vals 13 = v13 at t13 p13
        obtain ⟨A13, c13, rfl, n13⟩ := p13
        go_simp
        exact ⟨_, rfl, ⟨_, _, rfl, nds_one wx _ tailN A13 c13 n13⟩, below_box wx _⟩
      · cases ho
        have h14 := hdep ⟨14, .data⟩ (by simp) rfl
        have t14 := h14.1 26 rfl
        have p14 : NdSl wx (vals 14) [tailN] := h14.2
        clear h14
        generalize vals 14 = v14 at t14 p14
        obtain ⟨A14, c14, rfl, n14⟩ := p14
        go_simp
        exact ⟨_, rfl, ⟨A14, c14, rfl, n14⟩, Below.refl _ _⟩
      · cases ho
        have h9 := hdep ⟨9, .data⟩ (by simp) rfl
        have t9 := h9.1 21 rfl
        have p9 : NdVal wx (vals 9) oneN := h9.2
        clear h9
        generalize vals 9 = v9 at t9 p9
        obtain ⟨A9, c9, rfl, n9⟩ := p9
        have h15 := hdep ⟨15, .data⟩ (by simp) rfl
        have t15 := h15.1 27 rfl
        have p15 : NdVal wx (vals 15) recN := h15.2
        clear h15
        generalize vals 15 = v15 at t15 p15
        obtain ⟨A15, c15, rfl, n15⟩ := p15
        go_simp
        exact ⟨_, rfl, ⟨_, _, rfl, nds_two wx _ oneN recN A9 c9 A15 c15 n9 n15⟩, below_box wx _⟩
      · cases ho
        have h16 := hdep ⟨16, .data⟩ (by simp) rfl
        have t16 := h16.1 28 rfl
        have p16 : NdSl wx (vals 16) [oneN, recN] := h16.2
        clear h16
        generalize vals 16 = v16 at t16 p16
        obtain ⟨A16, c16, rfl, n16⟩ := p16
        go_simp
        exact ⟨_, rfl, ⟨A16, c16, rfl, n16⟩, Below.refl _ _⟩
      · cases ho
        have h6 := hdep ⟨6, .data⟩ (by simp) rfl
        have t6 := h6.1 18 rfl
        have p6 : NdVal wx (vals 6) nullN := h6.2
        clear h6
        generalize vals 6 = v6 at t6 p6
        obtain ⟨A6, c6, rfl, n6⟩ := p6
        have h8 := hdep ⟨8, .data⟩ (by simp) rfl
        have t8 := h8.1 20 rfl
        have p8 : NdVal wx (vals 8) zeroN := h8.2
        clear h8
        generalize vals 8 = v8 at t8 p8
        obtain ⟨A8, c8, rfl, n8⟩ := p8
        have h17 := hdep ⟨17, .data⟩ (by simp) rfl
        have t17 := h17.1 29 rfl
        have p17 : NdVal wx (vals 17) addN := h17.2
        clear h17
        generalize vals 17 = v17 at t17 p17
        obtain ⟨A17, c17, rfl, n17⟩ := p17
        go_simp
        exact ⟨_, rfl, ⟨_, _, rfl, nds_three wx _ nullN zeroN addN A6 c6 A8 c8 A17 c17 n6 n8 n17⟩, below_box wx _⟩
      · cases ho
        have h2 := hdep ⟨2, .data⟩ (by simp) rfl
        have t2 := h2.1 14 rfl
        have p2 : (vals 2) = (.func (.func 9) #[] #[]) := h2.2
        clear h2
        generalize vals 2 = v2 at t2 p2
        subst p2
        have h18 := hdep ⟨18, .data⟩ (by simp) rfl
        have t18 := h18.1 30 rfl
        have p18 : NdSl wx (vals 18) [nullN, zeroN, addN] := h18.2
        clear h18
        generalize vals 18 = v18 at t18 p18
        obtain ⟨A18, c18, rfl, n18⟩ := p18
        go_simp
        refine (mknode_any 83 A18 3 c18 wx).mono ?_
        rintro e w2 ⟨rfl, hb2⟩
        exact ⟨_, rfl, ⟨_, _, rfl, n18.mono hb2⟩, hb2⟩
      · cases ho
        have h1 := hdep ⟨1, .data⟩ (by simp) rfl
        have t1 := h1.1 13 rfl
        have p1 : PmSl wx (vals 1) [⟨sXs, true⟩] := h1.2
        clear h1
        generalize vals 1 = v1 at t1 p1
        obtain ⟨A1, c1, rfl, n1⟩ := p1
        have h19 := hdep ⟨19, .data⟩ (by simp) rfl
        have t19 := h19.1 31 rfl
        have p19 : NdVal wx (vals 19) lenBody := h19.2
        clear h19
        generalize vals 19 = v19 at t19 p19
        obtain ⟨A19, c19, rfl, n19⟩ := p19
        go_simp
        exact ⟨_, rfl, ⟨A1, c1, A19, c19, rfl, n1, n19⟩, Below.refl _ _⟩
      · cases ho
        have h20 := hdep ⟨20, .data⟩ (by simp) rfl
        have t20 := h20.1 32 rfl
        have p20 : FnVal wx (vals 20) lenFn := h20.2
        clear h20
        generalize vals 20 = v20 at t20 p20
        obtain ⟨E20, e20, A20, c20, rfl, m20, n20⟩ := p20
        go_simp
        exact ⟨_, rfl, ⟨_, _, rfl, lib_one wx _ lenFn E20 e20 A20 c20 m20 n20⟩, below_box wx _⟩
      · cases ho
        have h21 := hdep ⟨21, .data⟩ (by simp) rfl
        have t21 := h21.1 33 rfl
        have p21 : LibSl wx (vals 21) lenLib := h21.2
        clear h21
        generalize vals 21 = v21 at t21 p21
        obtain ⟨A21, c21, rfl, n21⟩ := p21
        go_simp
        exact ⟨_, rfl, ⟨A21, c21, rfl, n21⟩, Below.refl _ _⟩
    · intro vals wF hb hΦ
      have h : LibSl wF (vals 22) lenLib := hΦ 22 (by decide)
      obtain ⟨A, c, hv, hL⟩ := h
      have HL := Lib.hid hL
      have HB := Lib.hid hb
      clear hL hΦ
      generalize hp : puts _ vals _ _ = ap
      have e : ap = ⟨#[.bool false, .pointer (some ⟨w.heap.size, 0, none⟩), (.func (.func 9) #[] #[]), vals 22, undef, undef, undef, undef, undef, undef, undef, .agg #[.int .u8 81, .int .i64 0, .string ⟨#[120, 115]⟩, .slice none 0 0], vals 0, vals 1, vals 2, vals 3, vals 4, vals 5, vals 6, vals 7, vals 8, vals 9, vals 10, vals 11, vals 12, vals 13, vals 14, vals 15, vals 16, vals 17, vals 18, vals 19, vals 20, vals 21, undef, undef, undef, undef, undef, undef, undef, undef, undef, undef, undef, undef, undef, undef, undef, undef, undef, undef, undef, undef, undef, undef, undef, undef, undef, undef, undef, undef, undef, undef, undef, undef, undef, undef, undef, undef, undef, undef, undef, undef, undef, undef, undef, undef, undef, undef, undef, undef, undef, undef, undef], []⟩ := by rw [← hp]; kernel_rfl
      subst e
      clear hp
      rw [hv]
      dsimp only
      go_wp2_with fail
      go_meet
      exact ⟨A, c, rfl, HL, HB.out⟩
  case rest =>
    obtain ⟨A, c, rfl, hL, hbc⟩ := hcut
    have q2 := below_step q1 q1.size hbc
    have hva := Lib.hid (aw_args wc 3 28)
    have hb2 := two_box wc (Obj.cells #[.int .i64 7, .int .i64 8] 3) (Obj.cells #[.bool true, .int .i64 0, .slice (some ⟨wc.heap.size, 0, none⟩) 2 2] 28)
    have HL2 := Lib.hid (hL.out.mono hb2)
    have q3 := Lib.hid (below_step q2 q2.size hb2)
    clear hL hbc hb2 q2
    go_wp2_with fail
    generalize World.alloc _ _ = W2 at hva HL2 q3 ⊢
    refine (aw_call HL2.out hva.out).mono ?_
    rintro e w4 ⟨⟨A4, c4, rfl⟩, hb4⟩
    have bb4 := below_step hb4 hb4.size (below_box w4 (Obj.cells #[.bool false, .int .i64 2, .slice A4 0 c4] 28))
    have vb4 := bx_new w4 #[.bool false, .int .i64 2, .slice A4 0 c4] 28
    have HL4 := Lib.hid (HL2.out.mono bb4)
    have HV4 := Lib.hid (hva.out.below bb4)
    have q4 := Lib.hid (below_step q3.out q3.out.size bb4)
    clear HL2 hva q3 hb4 bb4
    go_wp2_with fail
    generalize w4.alloc _ = W4 at vb4 HL4 HV4 q4 ⊢
    refine (aw_trace HL4.out HV4.out).mono ?_
    rintro e w5 ⟨⟨Aa5, ca5, AL5, cL5, Ac5, cc5, rfl, htr⟩, hb5⟩
    have bb5 := below_box w5 (Obj.cells #[.int .i64 0, .slice Aa5 1 ca5, .bool false, .int .i64 2, .slice AL5 0 cL5, .slice Ac5 1 cc5] 50)
    have tb5 := bx_new w5 #[.int .i64 0, .slice Aa5 1 ca5, .bool false, .int .i64 2, .slice AL5 0 cL5, .slice Ac5 1 cc5] 50
    have vb5 := (vb4.below hb5).below bb5
    have HT5 := Lib.hid (htr.below bb5)
    have qq5 := below_step hb5 hb5.size bb5
    have HL5 := Lib.hid (HL4.out.mono qq5)
    have HV5 := Lib.hid (HV4.out.below qq5)
    have q5 := Lib.hid (below_step q4.out q4.out.size qq5)
    clear HL4 HV4 q4 hb5 bb5 qq5 htr vb4
    go_wp2_with fail
    generalize w5.alloc _ = W5 at tb5 vb5 HL5 HV5 HT5 q5 ⊢
    refine (aw_call5 HL5.out HV5.out).mono ?_
    rintro e w6 ⟨rfl, hb6⟩
    have tb6 := tb5.below hb6
    have vb6 := vb5.below hb6
    have bb6 := below_box w6 (Obj.cells #[.bool false, .int .i64 0, .slice none 0 0] 28)
    have HT6 := Lib.hid (HT5.out.below (below_step hb6 hb6.size bb6))
    have q6 := Lib.hid (below_step q5.out q5.out.size (below_step hb6 hb6.size bb6))
    obtain ⟨v0, v1, v2, _⟩ := vb6.three
    obtain ⟨⟨t0, t1, t2, t3, t4, t5⟩, _⟩ := tb6.six
    have hl1 := vb6.lt
    have hl2 := tb6.lt
    have tb7 := Lib.hid (tb6.below bb6)
    clear HL5 HV5 q5 hb6 HT5 tb5 vb5 bb6
    go_wp2_with fail
    generalize w6.alloc _ = W6 at HT6 q6 tb7 ⊢
    refine (aw_steps HT6.out).mono ?_
    rintro e w7 ⟨rfl, hb7⟩
    have tb8 := tb7.out.below hb7
    have HT8 := Lib.hid (HT6.out.below hb7)
    have q8 := Lib.hid (below_step q6.out q6.out.size hb7)
    obtain ⟨⟨r0, r1, r2, r3, r4, r5⟩, _⟩ := tb8.six
    clear HT6 q6 tb7 hb7
    go_wp2_with fail
    refine (aw_height HT8.out).mono ?_
    rintro e w9 ⟨rfl, hb9⟩
    have q9 := Lib.hid (below_step q8.out q8.out.size hb9)
    go_wp2_with fail
    go_ret
    exact ⟨rfl, q9.out⟩

end Go.Proofs.Ytoankdaddgjnlaa
