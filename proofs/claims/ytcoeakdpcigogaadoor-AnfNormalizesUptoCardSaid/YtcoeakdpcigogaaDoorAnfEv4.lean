/-
  anf.Eval: an operation.
  anf.Eval: a bind.
  anf.Eval: run, bind, call of anything.
-/
import Derived.Test.YtcoeakdpcigogaaDoorAnfEv2
namespace Go.Proofs.YtcoeakdpcigogaaDoor
open Go.ChangeShapes Go.WideShapes Go.ChangeAt Go.RowKit Go.Sort Go.Maps

set_option maxRecDepth 100000 in
theorem aop_80 (num : Int) (name : ByteArray) (s0 : ByteArray) (b0 : Bool) (Aa At Ae : Option Addr) (n0 ca n1 ct n2 ce : Nat) (l : List Vl) (Al : Option Addr) (cl : Nat) (X : Nat → Prop) (w : World) :
    Calls Tryd.prog 82 #[.agg #[.string s0, .bool b0, .int .u8 80, .int .i64 num, .string name, .slice Aa n0 ca, .slice At n1 ct, .slice Ae n2 ce], .slice Al l.length cl] w (RetO (opA apR 80 num l) X w) := by
  rw [show opA apR 80 num l = (⟨false, num, []⟩, 0) from rfl]
  go_enter Tryd.func82, Tryd.ntmps82
  go_wp2_with fail
  exact bodyPost_ret (v := .tuple #[.agg #[.bool false, .int .i64 num, .slice none 0 0], .int .i64 0]) (by simp [results, Tryd.results82, go_sem]) rfl (.inl ⟨rfl, none, 0, rfl, IntsC.nil _ _ _ _, two_box w _ _⟩)
set_option maxRecDepth 100000 in
theorem aop_81 (num : Int) (name : ByteArray) (s0 : ByteArray) (b0 : Bool) (Aa At Ae : Option Addr) (n0 ca n1 ct n2 ce : Nat) (x : Vl) (Al : Option Addr) (cl : Nat) (X : Nat → Prop) (w : World) (hV : VlsX w X Al [x]) :
    Calls Tryd.prog 82 #[.agg #[.string s0, .bool b0, .int .u8 81, .int .i64 num, .string name, .slice Aa n0 ca, .slice At n1 ct, .slice Ae n2 ce], .slice Al 1 cl] w (RetO (opA apR 81 num [x]) X w) := by
  rw [show opA apR 81 num [x] = (x, 0) from rfl]
  obtain ⟨b, o, A0, c0, rfl, _, e0, e1, e2, hi⟩ := hV 0 x rfl
  simp only [Nat.zero_mul, Nat.add_zero] at e0 e1 e2
  have hlt : b < w.heap.size := block_lt_of_cell e0
  obtain ⟨xl, xn, xs⟩ := x
  simp only at *
  clear hV
  have HI := Lib.hid hi
  clear hi
  go_enter Tryd.func82, Tryd.ntmps82
  go_wp2_with fail
  exact bodyPost_ret (v := .tuple #[.agg #[.bool xl, .int .i64 xn, .slice A0 xs.length c0], .int .i64 0]) (by simp [results, Tryd.results82, go_sem]) rfl (.inl ⟨rfl, A0, c0, rfl, HI.out.le (Le.of_fr (Fr.of_below (two_box w _ _) X) (fun _ _ e => e) fun _ _ e => e), two_box w _ _⟩)
theorem aop_any {lib : List Af} (t : Bd) (har : arOne lib t) (h83 : t.op ≠ 83) (h85 : t.op ≠ 85) (Aa At Ae : Option Addr) (ca ct ce : Nat) (l : List Vl) (hln : l.length = t.args.length) (Al : Option Addr) (cl : Nat) (X : Nat → Prop) (w : World) (hV : VlsX w X Al l) (hX : ∀ k, X k → k < w.heap.size) (hl : ∀ v ∈ l, v.l.length ≤ 1000000) :
    Calls Tryd.prog 82 #[.agg #[.string t.to, .bool t.list, .int .u8 t.op, .int .i64 t.num, .string t.name, .slice Aa t.args.length ca, .slice At t.thn.length ct, .slice Ae t.els.length ce], .slice Al l.length cl] w (RetO (opA apR t.op t.num l) X w) := by
  obtain ⟨to_, list, op, num, name, args, thn, els⟩ := t
  simp only [Bd.to, Bd.list, Bd.op, Bd.num, Bd.name, Bd.args, Bd.thn, Bd.els, arOne] at *
  rcases har with rfl | ⟨rfl, h1⟩ | ⟨rfl, h1, h2, h3⟩ | ⟨rfl, _⟩ | ⟨rfl, _⟩ | rfl | ⟨rfl, h1⟩ | ⟨rfl | rfl | rfl, h1⟩
  · exact aop_80 num name _ _ _ _ _ _ _ _ _ _ _ l Al cl X w
  · obtain ⟨a, rfl⟩ := lone (hln.trans h1)
    exact aop_81 num name _ _ _ _ _ _ _ _ _ _ _ a Al cl X w hV
  · obtain ⟨a, b, rfl⟩ := ltwo (hln.trans h1)
    obtain ⟨num, rfl⟩ : ∃ n : Nat, num = n := ⟨num.toNat, by omega⟩
    exact aop_82 num (by omega) (by omega) name _ _ _ _ _ _ _ _ _ _ _ a b Al cl X w hV
  · exact absurd rfl h83
  · exact absurd rfl h85
  · exact aop_86 num name _ _ _ _ _ _ _ _ _ _ _ l Al cl X w
  · obtain ⟨a, b, rfl⟩ := ltwo (hln.trans h1)
    exact aop_87 num name _ _ _ _ _ _ _ _ _ _ _ a b Al cl X w hV hX
  · obtain ⟨a, rfl⟩ := lone (hln.trans h1)
    exact aop_88 num name _ _ _ _ _ _ _ _ _ _ _ a Al cl X w hV (hl a (by simp))
  · obtain ⟨a, rfl⟩ := lone (hln.trans h1)
    exact aop_89 num name _ _ _ _ _ _ _ _ _ _ _ a Al cl X w hV (hl a (by simp))
  · obtain ⟨a, rfl⟩ := lone (hln.trans h1)
    exact aop_90 num name _ _ _ _ _ _ _ _ _ _ _ a Al cl X w hV
theorem opA_len (op : Nat) (num : Int) (l : List Vl) (hl : ∀ v ∈ l, v.l.length ≤ 1000000) : (opA apR op num l).1.l.length ≤ 1000000 := by
  unfold opA
  split
  · simp
  split
  · cases h : l[0]? with
    | none => simp [zeroV]
    | some v => exact hl v (List.mem_of_getElem? h)
  · exact opR_len (.mk op num eS []) l hl
theorem argsV_len (l : List ByteArray) (vars : Ev) : (argsV l vars).length = l.length := by unfold argsV; rw [List.length_map]
theorem argsV_step {l : List ByteArray} {k : Nat} (h : k < l.length) (vars : Ev) : argsV (l.take (k + 1)) vars = argsV (l.take k) vars ++ [(vars l[k]).getD zeroV] := by
  unfold argsV
  rw [List.take_succ_eq_append_getElem h, List.map_append]; rfl

end Go.Proofs.YtcoeakdpcigogaaDoor

namespace Go.Proofs.YtcoeakdpcigogaaDoor
open Go.ChangeShapes Go.WideShapes Go.ChangeAt Go.RowKit Go.Sort Go.Maps

/-- The values of the arguments so far. -/
structure ArR (W wr : World) (X : Nat → Prop) (v : Value) (l : List Vl) : Prop where
  hb : Below W.heap.size W wr
  own : ∃ cs, wr.ownsRow W.heap.size 46 3 v l.length cs ∧ RowG (VlC W X) cs l
  len : ∀ u ∈ l, u.l.length ≤ 1000000
theorem ArR.start (W : World) (X : Nat → Prop) : ArR W W X (.slice none 0 0) [] := ⟨Below.refl _ _, ⟨[], ⟨rfl, .inl ⟨rfl, rfl⟩⟩, .nil⟩, fun u hu => by cases hu⟩
theorem ArR.push {W wr w9 : World} {X : Nat → Prop} {v v' : Value} {l : List Vl} {cs c3 : List Value} {u : Vl} {o : Obj} (hb : Below W.heap.size W wr) (ho : wr.ownsRow W.heap.size 46 3 v l.length cs) (hr : RowG (VlC W X) cs l) (hl : ∀ u ∈ l, u.l.length ≤ 1000000) (hc : VlC W X c3 u) (hul : u.l.length ≤ 1000000) (hown : w9.ownsRow W.heap.size 46 3 v' (l.length + 1) (cs ++ c3)) (hg : (wr.alloc o).grownBy w9 v.ownBlock) : ArR W w9 X v' (l ++ [u]) := by
  have hge := fun g e => (own_ty ho g e).1
  refine ⟨((Fr.of_below (below_box wr o) (fun j => some j = v.ownBlock)).trans (Fr.of_grown hg) fun _ _ e => e).toBelow hb hb.size (fun j e => hge j e.symm), ⟨cs ++ c3, by rw [List.length_append]; exact hown, .snoc hr hc⟩, fun x hx => ?_⟩
  rcases List.mem_append.1 hx with e | e
  · exact hl x e
  · simp at e; rw [e]; exact hul
theorem ArR.form {W wr : World} {X : Nat → Prop} {v : Value} {l : List Vl} (h : ArR W wr X v l) (hX : ∀ k, X k → k < W.heap.size) : ∃ A c, v = .slice A l.length c ∧ VlsX wr X A l := by
  obtain ⟨cs, ho, hr⟩ := h.own
  exact vlsX_of_own ho (hr.map fun c x hc => VlC.le (Le.of_fr (Fr.of_below h.hb X) (fun _ _ e => e) fun _ _ e => e) c x hc) (fun g e e2 => by have := (own_ty ho g e).1; have := hX g e2; omega)

/-- find, of a name that is there. -/
def RetF1 (W0 : World) (g : Af) (w : World) (e : Ending) (w' : World) : Prop := ∃ Ap cp Aτ cτ Ab cb, e = .returned (.tuple #[.agg #[.string g.name, .slice Ap g.params.length cp, .bool g.list, .slice Aτ g.temps.length cτ, .slice Ab g.body.length cb, .string g.result], .bool true]) ∧ AfC W0 (fun _ => False) [.string g.name, .slice Ap g.params.length cp, .bool g.list, .slice Aτ g.temps.length cτ, .slice Ab g.body.length cb, .string g.result] g ∧ Below w.heap.size w w'
theorem find_some {W0 w : World} (hb0 : Below W0.heap.size W0 w) {A : Option Addr} {lib : List Af} (hL : AfsAt W0 A lib) (cap : Nat) (s : ByteArray) (hln : lib.length ≤ 1000000) {g : Af} (hg : findA lib s = some g) : Calls Tryd.prog 34 #[.slice A lib.length cap, .string s] w (RetF1 W0 g w) := by
  refine (afind_any hb0 hL cap s hln).mono ?_
  rintro e w' ⟨hb, ⟨hn, _⟩ | ⟨g', cs, h1, rfl, hc⟩⟩
  · rw [hn] at hg; cases hg
  · rw [h1] at hg; cases hg
    have hc2 := hc
    obtain ⟨Ap, cp, Aτ, cτ, Ab, cb, rfl, _⟩ := hc
    exact ⟨Ap, cp, Aτ, cτ, Ab, cb, rfl, hc2, hb⟩
/-- The function's box. -/
def Vf (W0 W2 wc : World) (g : Af) (P : Nat) : Prop := Below W2.heap.size W2 wc ∧ W2.heap.size ≤ P ∧ ∃ Ap cp Aτ cτ Ab cb, AfC W0 (fun _ => False) [.string g.name, .slice Ap g.params.length cp, .bool g.list, .slice Aτ g.temps.length cτ, .slice Ab g.body.length cb, .string g.result] g ∧ Bx wc P #[.string g.name, .slice Ap g.params.length cp, .bool g.list, .slice Aτ g.temps.length cτ, .slice Ab g.body.length cb, .string g.result]
theorem vf_a {W0 W2 W' w5 : World} {g : Af} {Ap Aτ Ab : Option Addr} {cp cτ cb : Nat} {u0 u1 u2 u3 u4 u5 : Value} (hb : Below W2.heap.size W2 W') (hx : Bx W' W2.heap.size #[u0, u1, u2, u3, u4, u5]) (hb5 : Below W'.heap.size W' w5) (hc : AfC W0 (fun _ => False) [.string g.name, .slice Ap g.params.length cp, .bool g.list, .slice Aτ g.temps.length cτ, .slice Ab g.body.length cb, .string g.result] g) :
    Vf W0 W2 ((((((w5.setCell ⟨W2.heap.size, 0, none⟩ (.string g.name)).setCell ⟨W2.heap.size, 1, none⟩ (.slice Ap g.params.length cp)).setCell ⟨W2.heap.size, 2, none⟩ (.bool g.list)).setCell ⟨W2.heap.size, 3, none⟩ (.slice Aτ g.temps.length cτ)).setCell ⟨W2.heap.size, 4, none⟩ (.slice Ab g.body.length cb)).setCell ⟨W2.heap.size, 5, none⟩ (.string g.result)) g W2.heap.size :=
  ⟨(Fr.set6 w5 W2.heap.size _ _ _ _ _ _).toBelow (below_step hb hb.size hb5) (by have := hb.size; have := hb5.size; omega) (fun k e => by have e' : k = W2.heap.size := e; omega), Nat.le_refl _, Ap, cp, Aτ, cτ, Ab, cb, hc, (hx.below hb5).put6 _ _ _ _ _ _⟩
theorem vf_b {W0 W2 W' w5 : World} {g : Af} {Ap Aτ Ab : Option Addr} {cp cτ cb : Nat} (hb : Below W2.heap.size W2 W') (hb5 : Below W'.heap.size W' w5) (hc : AfC W0 (fun _ => False) [.string g.name, .slice Ap g.params.length cp, .bool g.list, .slice Aτ g.temps.length cτ, .slice Ab g.body.length cb, .string g.result] g) :
    Vf W0 W2 (w5.alloc (Obj.cells #[.string g.name, .slice Ap g.params.length cp, .bool g.list, .slice Aτ g.temps.length cτ, .slice Ab g.body.length cb, .string g.result] 39)) g w5.heap.size :=
  ⟨below_step (below_step hb hb.size hb5) (by have := hb.size; have := hb5.size; omega) (below_box w5 _), by have := hb.size; have := hb5.size; omega, Ap, cp, Aτ, cτ, Ab, cb, hc, bx_new w5 _ _⟩

set_option maxRecDepth 100000 in
set_option maxHeartbeats 8000000 in
theorem ebind_of {W0 : World} {A : Option Addr} {cap : Nat} {lib : List Af} {bv d : Nat} (hok : EcOk W0 A lib) (hR : RunC W0 A cap lib bv d) (hC : CallC W0 A cap lib bv d) : BindEC W0 A cap lib bv d := by
  intro X act t vars f F w cs bm n hp hXb hXl henv hbm hc hfit har hnf
  obtain ⟨Aa, ca, At, ct, Ae, ce, rfl, hsA, hsT, hsE⟩ := hc
  have HOK := Lib.hid hok
  have HR := Lib.hid hR
  have HC := Lib.hid hC
  have HDA := Lib.hid (And.intro hsA (And.intro hsT hsE))
  have HF := Lib.hid hfit.facts
  have HAR := Lib.hid har.facts
  have HXB := Lib.hid hXb
  have HXL := Lib.hid hXl
  have HEQ := Lib.hid (aBind.eq_def apR lib (aRun apR lib d) act t vars f)
  have hbx := below_box w (Obj.cells #[.string t.to, .bool t.list, .int .u8 t.op, .int .i64 t.num, .string t.name, .slice Aa t.args.length ca, .slice At t.thn.length ct, .slice Ae t.els.length ce] 67)
  have HBX := Lib.hid hbx
  have HRX := Lib.hid (bx_new w #[.string t.to, .bool t.list, .int .u8 t.op, .int .i64 t.num, .string t.name, .slice Aa t.args.length ca, .slice At t.thn.length ct, .slice Ae t.els.length ce] 67)
  have HP := Lib.hid hp
  have HENV := Lib.hid (henv.belowA hbx)
  have HPW := Lib.hid (show EvPre W0 _ bv A cap lib F act d f from ⟨below_step hp.bw hp.bw.size hbx, Bx.below hp.ev hbx, hp.vl, hp.ff, hp.fd, hp.fm, hp.am⟩)
  have HNE := Lib.hid (show bm ≠ bv ∧ bv < w.heap.size ∧ bm < w.heap.size from ⟨fun e => henv.1 (by rw [e]; exact hXb), Bx.lt hp.ev, henv.ltm⟩)
  have hal := HAR.out.2.1.1
  have HBL := Lib.hid HAR.out.2.1.2
  clear hok hR hC hsA hsT hsE hfit har hXb hXl hbx hp henv
  go_enter Tryd.func74, Tryd.ntmps74
  go_upto_region 1 with fail
  generalize w.alloc _ = W at HBX HRX HENV HPW ⊢
  obtain ⟨a0, a1, a2, a3, a4, a5, a6, a7⟩ := HRX.out.eight.1
  have hlb := HRX.out.lt
  obtain ⟨i0, hi0, hz0, hz1, hz2⟩ := info_parts info_val
  have HI := Lib.hid (And.intro hi0 (And.intro hz0 (And.intro hz1 hz2)))
  clear hi0 hz0 hz1 hz2
  go_wp2_with fail
  clear a0 a1 a2 a3 a4 a5 a6 a7 hlb
  go_loopw [7, 17] (fun v i wr => ∃ k : Nat, k ≤ t.args.length ∧ i = .int .i64 k ∧ Hid (ArR W wr X v (argsV (t.args.take k) vars))) (fun _ i _ => t.args.length - (intOf i).toNat)
  case atStart => exact ⟨0, by omega, rfl, Lib.hid (by rw [List.take_zero]; exact ArR.start W X)⟩
  case round =>
    obtain ⟨k, hk, rfl, har⟩ := hrel
    by_cases hin : k < t.args.length
    · have HB0 := Lib.hid (below_step HPW.out.bw HPW.out.bw.size har.out.hb)
      obtain ⟨b1, o1, rfl, _, c0⟩ := HDA.out.1 k _ (List.getElem?_eq_getElem hin)
      have c1 := below_cell HB0.out c0
      have hasz := HF.out.2.2.1 _ (List.getElem_mem hin)
      have HST := Lib.hid (argsV_step hin vars)
      obtain ⟨cs, ho, hr⟩ := har.out.own
      have hlk : (argsV (t.args.take k) vars).length = k := by rw [argsV_len, List.length_take]; omega
      have hszW := har.out.hb.size
      obtain ⟨raw, hM, A', c', hval, hint, hvl⟩ := HENV.out.get t.args[k]
      have k1 := mapV_look (t := 129) Tryd.underlying129 (hM.fr (Fr.of_below har.out.hb fun _ => False) id) t.args[k] (by unfold maxLen; omega)
      rw [hval] at k1
      generalize (vars t.args[k]).getD zeroV = u at *
      have HPU := Lib.hid (fun (v v' : Value) (w9 : World) (o : Obj) (h1 : wr.ownsRow W.heap.size 46 3 v (argsV (t.args.take k) vars).length cs) h2 h3 => ArR.push (o := o) (v := v) (v' := v') (w9 := w9) (u := u) har.out.hb h1 hr har.out.len ⟨A', c', rfl, hint⟩ hvl h2 h3)
      have HOW := Lib.hid ho
      rw [hlk] at ho
      obtain ⟨Av, cv, rfl, hcv, hqq⟩ := own_formB ho
      have HOK2 := Lib.hid ho
      have hls := block_lt_of_cell c1
      have rk1 : (0 : Int) ≤ k := by omega
      clear c0 hqq har ho hr hM hval hint hvl
      generalize t.args[k] = ak at *
      go_wp2_with (at_builtin; go_loud (refine wpList_app _ rfl _ _ 41 rfl W.heap.size 46 i0 (.agg #[.bool false, .int .i64 0, .slice none 0 0]) 3 40 Tryd.underlying41 HI.out.1 HI.out.2.1 HI.out.2.2.1 HI.out.2.2.2 rfl (by decide) (.slice Av k cv) k cs rfl (own_below HOK2.out (below_box wr _)) (some ⟨wr.heap.size, 0, none⟩) 1 1 [.bool u.list, .int .i64 u.n, .slice A' u.l.length c'] rfl rfl (cells_newC wr rfl _ _) (fun x hx => by simp at hx; rcases hx with rfl | rfl | rfl <;> rfl) (by unfold maxLen; omega) (by omega) (by simp; omega) ?_; intro v' w9 hown' hgrow hat))
      have hpu := HPU.out (.slice Av k cv) v' w9 _ HOW.out (by rw [hlk]; exact hown') hgrow
      rw [← HST.out] at hpu
      exact ⟨⟨k + 1, by omega, by go_num, Lib.hid hpu⟩, by simp [intOf]; omega⟩
    · obtain rfl : k = t.args.length := by omega
      rw [List.take_length] at har
      have HLK := Lib.hid (argsV_len t.args vars)
      obtain ⟨Al, cl, rfl, hvls⟩ := har.out.form (fun j e => by have := HXL.out j e; have := HBX.out.size; omega)
      have HVL := Lib.hid (And.intro hvls har.out.len)
      have HBr := Lib.hid har.out.hb
      have HBY := Lib.hid (below_box wr (Obj.cells #[.bool false, .int .i64 0, .slice none 0 0] 46))
      have HRY := Lib.hid (bx_new wr #[.bool false, .int .i64 0, .slice none 0 0] 46)
      have HSY := Lib.hid (show (wr.alloc (Obj.cells #[.bool false, .int .i64 0, .slice none 0 0] 46)).heap.size = wr.heap.size + 1 by simp)
      have HBWY := Lib.hid (below_step HBr.out HBr.out.size HBY.out)
      have HPY := Lib.hid (show EvPre W0 _ bv A cap lib F act d f from ⟨below_step HPW.out.bw HPW.out.bw.size HBWY.out, Bx.below HPW.out.ev HBWY.out, HP.out.vl, HP.out.ff, HP.out.fd, HP.out.fm, HP.out.am⟩)
      have HENVY := Lib.hid (HENV.out.belowA HBWY.out)
      have HRXY := Lib.hid (HRX.out.below HBWY.out)
      have HVLY := Lib.hid (VlsX.le hvls (Le.of_fr (X' := X) (Fr.of_below HBY.out X) (fun _ _ e => e) fun _ _ e => e))
      have HFY := Lib.hid (show Fr w _ (fun k => k = bv ∨ k = bm) from Fr.of_below (below_step HBX.out HBX.out.size HBWY.out) _)
      have HWR := Lib.hid (show w.heap.size < wr.heap.size by have := HBr.out.size; have := HRX.out.lt; omega)
      clear har hvls
      go_upto_region 9 with fail
      generalize wr.alloc _ = W2 at HBY HRY HSY HBWY HPY HENVY HRXY HVLY HFY ⊢
      obtain ⟨a0, a1, a2, a3, a4, a5, a6, a7⟩ := HRXY.out.eight.1
      have hlb := HRXY.out.lt
      by_cases h83 : t.op = 83
      · have h1 : ((t.op : Int) == 83) = true := by rw [h83]; rfl
        have HEQ2 := Lib.hid (HEQ.out.trans (if_pos h83))
        have hone : t.args.length = 1 := by
          rcases HAR.out.1 with e | ⟨e, _⟩ | ⟨e, _⟩ | ⟨_, e⟩ | ⟨e, _⟩ | e | ⟨e, _⟩ | ⟨e, _⟩
          · omega
          · omega
          · omega
          · exact e
          · omega
          · omega
          · omega
          · omega
        obtain ⟨x, hx⟩ := lone (HLK.out.trans hone)
        have hv0 := HVLY.out 0 x (by rw [hx]; rfl)
        obtain ⟨b, o, A0, c0, rfl, _, e0, e1, e2, hi⟩ := hv0
        simp only [Nat.zero_mul, Nat.add_zero] at e0 e1 e2
        have hlt := block_lt_of_cell e0
        have hpos : (0 : Int) < (argsV t.args vars).length := by rw [HLK.out, hone]; decide
        have HEQ3 := Lib.hid (HEQ2.out.trans (show _ = if x.n ≠ 0 then aRun apR lib d act t.thn vars f else aRun apR lib d act t.els vars f by rw [hx]; rfl))
        clear h83 hone hx hi HEQ2
        by_cases hx0 : x.n = 0
        · have hxb : (x.n != 0) = false := by rw [hx0]; rfl
          have HEQ4 := Lib.hid (HEQ3.out.trans (if_neg (fun h => h hx0)))
          have HCB := Lib.hid (HR.out X act t.els vars f F W2 Ae ce bm n HPY.out HXB.out (fun j e => by have h1 := HXL.out j e; have h2 := HFY.out.size; omega) HENVY.out hbm HDA.out.2.2 HF.out.2.2.2.2.2 HAR.out.2.2.2 (by have := HBL.out; omega) (by omega))
          clear hx0
          go_wp2_with fail
          refine HCB.out.mono ?_
          clear HCB a0 a1 a2 a3 a4 a5 a6 a7 hlb
          rintro e w6 ⟨hf6, n6, env6, F6, hev6, hex6, hr6⟩
          have HF6 := Lib.hid (HFY.out.trans hf6 fun _ _ e => e)
          rcases hr6 with ⟨c, q1, q2, rfl⟩ | ⟨f', q1, q2, q3, q4, rfl⟩
          · have HE := Lib.hid (show RetRn X A cap lib bv bm act (n + f + 1) (aBind apR lib (aRun apR lib d) act t vars f) w (.returned (.int .i64 c)) w6 from ⟨HF6.out, n6, env6, F6, hev6, hex6, .inl ⟨c, by rw [HEQ4.out, q1], q2, rfl⟩⟩)
            clear hf6 hev6 hex6 q1 q2
            go_wp2_with fail
            go_ret
            exact HE.out
          · have HE := Lib.hid (show RetRn X A cap lib bv bm act (n + f + 1) (aBind apR lib (aRun apR lib d) act t vars f) w (.returned (.int .i64 0)) w6 from ⟨HF6.out, n6, env6, F6, hev6, hex6, .inr ⟨f', by rw [HEQ4.out, q1], q2, q3, by omega, rfl⟩⟩)
            clear hf6 hev6 hex6 q1 q2
            go_wp2_with fail
            go_ret
            exact HE.out
        · have hxb : (x.n != 0) = true := bne_iff_ne.2 hx0
          have HEQ4 := Lib.hid (HEQ3.out.trans (if_pos hx0))
          have HCB := Lib.hid (HR.out X act t.thn vars f F W2 At ct bm n HPY.out HXB.out (fun j e => by have h1 := HXL.out j e; have h2 := HFY.out.size; omega) HENVY.out hbm HDA.out.2.1 HF.out.2.2.2.2.1 HAR.out.2.2.1 (by have := HBL.out; omega) (by omega))
          clear hx0
          go_wp2_with fail
          refine HCB.out.mono ?_
          clear HCB a0 a1 a2 a3 a4 a5 a6 a7 hlb
          rintro e w6 ⟨hf6, n6, env6, F6, hev6, hex6, hr6⟩
          have HF6 := Lib.hid (HFY.out.trans hf6 fun _ _ e => e)
          rcases hr6 with ⟨c, q1, q2, rfl⟩ | ⟨f', q1, q2, q3, q4, rfl⟩
          · have HE := Lib.hid (show RetRn X A cap lib bv bm act (n + f + 1) (aBind apR lib (aRun apR lib d) act t vars f) w (.returned (.int .i64 c)) w6 from ⟨HF6.out, n6, env6, F6, hev6, hex6, .inl ⟨c, by rw [HEQ4.out, q1], q2, rfl⟩⟩)
            clear hf6 hev6 hex6 q1 q2
            go_wp2_with fail
            go_ret
            exact HE.out
          · have HE := Lib.hid (show RetRn X A cap lib bv bm act (n + f + 1) (aBind apR lib (aRun apR lib d) act t vars f) w (.returned (.int .i64 0)) w6 from ⟨HF6.out, n6, env6, F6, hev6, hex6, .inr ⟨f', by rw [HEQ4.out, q1], q2, q3, by omega, rfl⟩⟩)
            clear hf6 hev6 hex6 q1 q2
            go_wp2_with fail
            go_ret
            exact HE.out
      have n83 : ((t.op : Int) == 83) = false := kindF h83
      have HEQ2 := Lib.hid (HEQ.out.trans (if_neg h83))
      have HENVZ := Lib.hid (show EnvX W2 (fun k => X k ∨ k = wr.heap.size) bm n vars from (HENV.out.belowA HBr.out).fr (Fr.of_below HBY.out fun _ => False) (fun _ _ e => e.elim) fun j hj e => by rcases e with e | e; exact e; omega)
      have HVLZ := Lib.hid (show VlsX W2 (fun k => X k ∨ k = wr.heap.size) Al (argsV t.args vars) from VlsX.le HVL.out.1 (Le.of_fr (Fr.of_below HBY.out X) (fun _ _ e => e) fun j hj e => by rcases e with e | e; exact e; omega))
      have HXLZ := Lib.hid (show ∀ k, (X k ∨ k = wr.heap.size) → k < W2.heap.size from fun j e => by have h1 := HSY.out; rcases e with e | e; (have h2 := HXL.out j e; have := HWR.out; omega); omega)
      by_cases h85 : t.op = 85
      · have h1 : ((t.op : Int) == 85) = true := by rw [h85]; rfl
        obtain ⟨g, hg, hgl⟩ : ∃ g, findA lib t.name = some g ∧ t.args.length = g.params.length := by
          rcases HAR.out.1 with e | ⟨e, _⟩ | ⟨e, _⟩ | ⟨e, _⟩ | ⟨_, e⟩ | e | ⟨e, _⟩ | ⟨e, _⟩
          · omega
          · omega
          · omega
          · omega
          · exact e
          · omega
          · omega
          · omega
        have HEQ3 := Lib.hid (show aBind apR lib (aRun apR lib d) act t vars f = match aCall (aRun apR lib d) act g (argsV t.args vars) f with
            | .err e => .err e
            | .ok v f' => .ok (setV vars t.to v) f' by rw [HEQ2.out, if_pos h85, hg]; rfl)
        have HG := Lib.hid (And.intro hg hgl)
        have HBZ := Lib.hid (And.intro (below_box W2 (Obj.cells #[.string ⟨#[]⟩, .slice none 0 0, .bool false, .slice none 0 0, .slice none 0 0, .string ⟨#[]⟩] 39)) (bx_new W2 #[.string ⟨#[]⟩, .slice none 0 0, .bool false, .slice none 0 0, .slice none 0 0, .string ⟨#[]⟩] 39))
        have HCA := Lib.hid (find_some (below_step HPY.out.bw HPY.out.bw.size (belowDrawnP HBZ.out.1)) HOK.out.at_ cap t.name (by have := HOK.out.len; omega) hg)
        have HCB := Lib.hid (find_some (below_step HPY.out.bw HPY.out.bw.size (belowDrawnP (Below.refl _ W2))) HOK.out.at_ cap t.name (by have := HOK.out.len; omega) hg)
        clear h83 h85 hg hgl HEQ HEQ2
        go_upto_region 16 with fail
        try rw [n83]
        try rw [h1]
        obtain ⟨v0, v1, v2, z0, z1, z2⟩ := HPY.out.ev.three
        have hlv := Bx.lt HPY.out.ev
        go_cut [12, 13] (fun p b wc => ∃ P : Nat, p = .pointer (some ⟨P, 0, none⟩) ∧ Hid (Vf W0 W2 wc g P))
        case first =>
          go_region_law (first
            | (go_simp; go_at_call 34; refine HCA.out.mono ?_; rintro e w5 ⟨Ap, cp, Aτ, cτ, Ab, cb, rfl, hc5, hb5⟩; have HE := Lib.hid (vf_a (belowDrawnP HBZ.out.1) (HBZ.out.2.below (belowDrawnP (Below.refl _ _))) hb5 hc5); have HX5 := Lib.hid ((HBZ.out.2.below (belowDrawnP (Below.refl _ _))).below hb5); obtain ⟨⟨g0, g1, g2, g3, g4, g5⟩, f0, f1, f2, f3, f4, f5⟩ := HX5.out.six'; have hl5 := HX5.out.lt; clear hc5 hb5; dsimp only)
            | (go_simp; go_at_call 34; refine HCB.out.mono ?_; rintro e w5 ⟨Ap, cp, Aτ, cτ, Ab, cb, rfl, hc5, hb5⟩; have HE := Lib.hid (vf_b (belowDrawnP (Below.refl _ W2)) hb5 hc5); clear hc5 hb5; dsimp only)
            | fail)
          all_goals
            go_simp
            go_wp2_with fail
            go_meet
            with_reducible exact ⟨_, rfl, Lib.hid HE.out⟩
        case rest =>
          obtain ⟨P, rfl, hvf⟩ := hcut
          obtain ⟨W3, rfl⟩ : ∃ y, y = wc := ⟨_, rfl⟩
          obtain ⟨Ap, cp, Aτ, cτ, Ab, cb, hcf, hbf⟩ := hvf.out.2.2
          have HB3 := Lib.hid hvf.out.1
          have HP3 := Lib.hid (show EvPre W0 W3 bv A cap lib F act d f from ⟨below_step HPY.out.bw HPY.out.bw.size HB3.out, Bx.below HPY.out.ev HB3.out, HP.out.vl, HP.out.ff, HP.out.fd, HP.out.fm, HP.out.am⟩)
          have HCC := Lib.hid (HC.out (fun k => X k ∨ k = wr.heap.size) act g (argsV t.args vars) f F W3 _ Al cl HP3.out (.inl HXB.out) (fun j e => by have := HXLZ.out j e; have := HB3.out.size; omega) (List.mem_of_find?_eq_some HG.out.1) (by rw [HLK.out]; exact HG.out.2) HVL.out.2 hcf (VlsX.le HVLZ.out (Le.of_fr (X' := fun k => X k ∨ k = wr.heap.size) (Fr.of_below HB3.out (fun _ => False)) (fun _ _ e => e.elim) fun _ _ e => e)) (by have := HP.out.ff; have := HP.out.fm; omega))
          have HRX3 := Lib.hid (HRXY.out.below HB3.out)
          have HRY3 := Lib.hid (HRY.out.below HB3.out)
          have HF3 := Lib.hid (HFY.out.trans (Fr.of_below HB3.out (fun j => j = bv ∨ j = bm)) fun _ _ e => e)
          have HEN3 := Lib.hid (HENVZ.out.belowA HB3.out)
          obtain ⟨⟨g0, g1, g2, g3, g4, g5⟩, _⟩ := hbf.six'
          have hlg := hbf.lt
          clear hvf hcf hbf HCA HCB v0 v1 v2 z0 z1 z2 hlv a0 a1 a2 a3 a4 a5 a6 a7 hlb
          go_wp2_with fail
          refine HCC.out.mono ?_
          clear HCC g0 g1 g2 g3 g4 g5 hlg
          rintro e w6 ⟨hf6, F6, hev6, hr6⟩
          have HF6 := Lib.hid (HF3.out.trans hf6 (fun j _ e => .inl e))
          have HEV6 := Lib.hid hev6
          have HEN6 := Lib.hid (show EnvX w6 (fun k => X k ∨ k = wr.heap.size) bm n vars from HEN3.out.fr hf6 (fun j _ e => by have e' : j = bv := e; rw [e']; exact .inl HXB.out) fun _ _ e => e)
          have HRX6 := Lib.hid (HRX3.out.fr hf6 (fun e => by have e' : w.heap.size = bv := e; have := HNE.out; omega))
          have HRY6 := Lib.hid (HRY3.out.fr hf6 (fun e => by have e' : wr.heap.size = bv := e; have := HNE.out; have := HWR.out; omega))
          clear hf6 hev6
          rcases hr6 with ⟨c, b6, n6, A6, m6, c6, q1, q2, rfl⟩ | ⟨v6, f6, A6, c6, q1, q2, q3, rfl, q4, q5⟩
          · have HRQ := Lib.hid (show aBind apR lib (aRun apR lib d) act t vars f = .err c by rw [HEQ3.out, q1])
            clear q1
            have HSX := Lib.hid (Fr.set3 w6 wr.heap.size (.bool b6) (.int .i64 n6) (.slice A6 m6 c6))
            have HFZ := Lib.hid (HF6.out.trans HSX.out (fun j hj e => by have e' : j = wr.heap.size := e; have := HWR.out; omega))
            have HEVZ := Lib.hid (show EvB _ bv A cap lib F6 act from Bx.fr HEV6.out HSX.out (fun e => by have e' : bv = wr.heap.size := e; have := HWR.out; have := HNE.out; omega))
            have HENZ := Lib.hid (show EnvX _ X bm n vars from HEN6.out.fr HSX.out (fun j _ e => .inr e) fun j _ e => .inl e)
            have HRXZ := Lib.hid (HRX6.out.fr HSX.out (fun e => by have e' : w.heap.size = wr.heap.size := e; have := HWR.out; omega))
            have HRYZ := Lib.hid (HRY6.out.set3 (.bool b6) (.int .i64 n6) (.slice A6 m6 c6))
            obtain ⟨y0, y1, y2, f0, f1, f2⟩ := Bx.three HRY6.out
            have hly := HRY6.out.lt
            go_upto_region 18 with fail
            clear y0 y1 y2 f0 f1 f2 hly
            generalize World.setCell _ _ _ = WY at HFZ HEVZ HENZ HRXZ HRYZ ⊢
            have HE := Lib.hid (show RetRn X A cap lib bv bm act (n + f + 1) (aBind apR lib (aRun apR lib d) act t vars f) w (.returned (.int .i64 c)) WY from ⟨HFZ.out, n, vars, F6, HEVZ.out, HENZ.out, .inl ⟨c, HRQ.out, q2, rfl⟩⟩)
            have hcb : (c == 0) = false := beq_eq_false_iff_ne.2 q2
            go_wp2_with fail
            go_ret
            exact HE.out
          · have HRQ := Lib.hid (show aBind apR lib (aRun apR lib d) act t vars f = .ok (setV vars t.to v6) f6 by rw [HEQ3.out, q1])
            have hfle := aBind_le (aRun_le d) HRQ.out
            have HIX := Lib.hid q4
            clear q1 q4
            have HSX := Lib.hid (Fr.set3 w6 wr.heap.size (.bool v6.list) (.int .i64 v6.n) (.slice A6 v6.l.length c6))
            have HFZ := Lib.hid (HF6.out.trans HSX.out (fun j hj e => by have e' : j = wr.heap.size := e; have := HWR.out; omega))
            have HEVZ := Lib.hid (show EvB _ bv A cap lib F6 act from Bx.fr HEV6.out HSX.out (fun e => by have e' : bv = wr.heap.size := e; have := HWR.out; have := HNE.out; omega))
            have HENZ := Lib.hid (show EnvX _ X bm n vars from HEN6.out.fr HSX.out (fun j _ e => .inr e) fun j _ e => .inl e)
            have HRXZ := Lib.hid (HRX6.out.fr HSX.out (fun e => by have e' : w.heap.size = wr.heap.size := e; have := HWR.out; omega))
            have HRYZ := Lib.hid (HRY6.out.set3 (.bool v6.list) (.int .i64 v6.n) (.slice A6 v6.l.length c6))
            obtain ⟨y0, y1, y2, f0, f1, f2⟩ := Bx.three HRY6.out
            have hly := HRY6.out.lt
            have HIZ := Lib.hid (HIX.out.le (X' := X) (Le.of_fr HSX.out (fun j _ e => .inr e) fun j _ e => .inl e))
            go_upto_region 18 with fail
            clear y0 y1 y2 f0 f1 f2 hly
            generalize World.setCell _ _ _ = WY at HFZ HEVZ HENZ HRXZ HRYZ HIZ ⊢
            obtain ⟨hX, raw, hM, h3, h4⟩ := HENZ.out
            obtain ⟨w9, hput, hM9, hT9⟩ := mapV_put (t := 129) Tryd.underlying129 hM (by unfold maxLen; omega) t.to (by have := HF.out.1; unfold maxLen; omega) (.agg #[.bool v6.list, .int .i64 v6.n, .slice A6 v6.l.length c6])
            have hN := EnvX.put (v := v6) hX h3 h4 (Le.of_turned hT9 _) HIZ.out q5 hM9
            have HE := Lib.hid (show RetRn X A cap lib bv bm act (n + f + 1) (aBind apR lib (aRun apR lib d) act t vars f) w (.returned (.int .i64 0)) w9 from ⟨HFZ.out.trans (Fr.of_turned hT9) (fun j _ e => .inr e), n + 1, _, F6, Bx.fr HEVZ.out (Fr.of_turned hT9) (fun e => HNE.out.1 e.symm), hN, .inr ⟨f6, HRQ.out, q2, q3, by omega, rfl⟩⟩)
            obtain ⟨a0, a1, a2, a3, a4, a5, a6, a7⟩ := HRXZ.out.eight.1
            have hlb := HRXZ.out.lt
            obtain ⟨y0, y1, y2, _⟩ := Bx.three HRYZ.out
            have hly := HRYZ.out.lt
            clear hX hM h3 h4 hM9 hT9 hN
            go_wp2_with fail
            go_ret
            exact HE.out
      have n85 : ((t.op : Int) == 85) = false := kindF h85
      have HOP := Lib.hid (aop_any t HAR.out.1 h83 h85 Aa At Ae ca ct ce (argsV t.args vars) HLK.out Al cl (fun k => X k ∨ k = wr.heap.size) W2 HVLZ.out HXLZ.out HVL.out.2)
      have HEQ3 := Lib.hid (HEQ2.out.trans (if_neg h85))
      have HLO := Lib.hid (opA_len t.op t.num (argsV t.args vars) HVL.out.2)
      clear h83 h85 HEQ HEQ2
      generalize opA apR t.op t.num (argsV t.args vars) = r at HOP HEQ3 HLO
      go_wp2_with fail
      refine HOP.out.mono ?_
      clear HOP a0 a1 a2 a3 a4 a5 a6 a7 hlb
      rintro e w6 hro
      obtain ⟨hb6, hcases⟩ : Below W2.heap.size W2 w6 ∧ ((r.2 = 0 ∧ ∃ A6 c6, e = .returned (.tuple #[.agg #[.bool r.1.list, .int .i64 r.1.n, .slice A6 r.1.l.length c6], .int .i64 0]) ∧ IntsC w6 (fun k => X k ∨ k = wr.heap.size) A6 c6 r.1.l) ∨ (r.2 ≠ 0 ∧ ∃ (b : Bool) (n : Int) (A : Option Addr) (m c : Nat), e = .returned (.tuple #[.agg #[.bool b, .int .i64 n, .slice A m c], .int .i64 r.2]))) := by
        rcases hro with ⟨h0, A6, c6, h1, h2, h3⟩ | ⟨h0, b, n, A6, m, c6, h1, h3⟩
        · exact ⟨h3, .inl ⟨h0, A6, c6, h1, h2⟩⟩
        · exact ⟨h3, .inr ⟨h0, b, n, A6, m, c6, h1⟩⟩
      have HF6 := Lib.hid (HFY.out.trans (Fr.of_below hb6 (fun j => j = bv ∨ j = bm)) fun _ _ e => e)
      have HEV6 := Lib.hid (show EvB w6 bv A cap lib F act from Bx.below HPY.out.ev hb6)
      have HEN6 := Lib.hid (HENVZ.out.belowA hb6)
      have HRX6 := Lib.hid (HRXY.out.below hb6)
      have HRY6 := Lib.hid (HRY.out.below hb6)
      clear hb6 hro
      rcases hcases with ⟨h0, A6, c6, rfl, hint⟩ | ⟨h0, b6, n6, A6, m6, c6, rfl⟩
      · have HRQ := Lib.hid (show aBind apR lib (aRun apR lib d) act t vars f = .ok (setV vars t.to r.1) f from HEQ3.out.trans (if_pos h0))
        have HIX := Lib.hid hint
        have hrl := HLO.out
        have hff := HP.out.ff
        have hfm := HP.out.fm
        clear h0 hint HEQ3
        have HSX := Lib.hid (Fr.set3 w6 wr.heap.size (.bool r.1.list) (.int .i64 r.1.n) (.slice A6 r.1.l.length c6))
        have HFZ := Lib.hid (HF6.out.trans HSX.out (fun j hj e => by have e' : j = wr.heap.size := e; have := HWR.out; omega))
        have HEVZ := Lib.hid (show EvB _ bv A cap lib F act from Bx.fr HEV6.out HSX.out (fun e => by have e' : bv = wr.heap.size := e; have := HWR.out; have := HNE.out; omega))
        have HENZ := Lib.hid (show EnvX _ X bm n vars from HEN6.out.fr HSX.out (fun j _ e => .inr e) fun j _ e => .inl e)
        have HRXZ := Lib.hid (HRX6.out.fr HSX.out (fun e => by have e' : w.heap.size = wr.heap.size := e; have := HWR.out; omega))
        have HRYZ := Lib.hid (HRY6.out.set3 (.bool r.1.list) (.int .i64 r.1.n) (.slice A6 r.1.l.length c6))
        obtain ⟨y0, y1, y2, f0, f1, f2⟩ := Bx.three HRY6.out
        have hly := HRY6.out.lt
        have HIZ := Lib.hid (HIX.out.le (X' := X) (Le.of_fr HSX.out (fun j _ e => .inr e) fun j _ e => .inl e))
        go_upto_region 18 with fail
        clear y0 y1 y2 f0 f1 f2 hly
        generalize World.setCell _ _ _ = WY at HFZ HEVZ HENZ HRXZ HRYZ HIZ ⊢
        obtain ⟨hX, raw, hM, h3, h4⟩ := HENZ.out
        obtain ⟨w9, hput, hM9, hT9⟩ := mapV_put (t := 129) Tryd.underlying129 hM (by unfold maxLen; omega) t.to (by have := HF.out.1; unfold maxLen; omega) (.agg #[.bool r.1.list, .int .i64 r.1.n, .slice A6 r.1.l.length c6])
        have hN := EnvX.put (v := r.1) hX h3 h4 (Le.of_turned hT9 _) HIZ.out hrl hM9
        have HE := Lib.hid (show RetRn X A cap lib bv bm act (n + f + 1) (aBind apR lib (aRun apR lib d) act t vars f) w (.returned (.int .i64 0)) w9 from ⟨HFZ.out.trans (Fr.of_turned hT9) (fun j _ e => .inr e), n + 1, _, F, Bx.fr HEVZ.out (Fr.of_turned hT9) (fun e => HNE.out.1 e.symm), hN, .inr ⟨f, HRQ.out, hff, hfm, by omega, rfl⟩⟩)
        obtain ⟨a0, a1, a2, a3, a4, a5, a6, a7⟩ := HRXZ.out.eight.1
        have hlb := HRXZ.out.lt
        obtain ⟨y0, y1, y2, _⟩ := Bx.three HRYZ.out
        have hly := HRYZ.out.lt
        clear hX hM h3 h4 hM9 hT9 hN
        go_wp2_with fail
        go_ret
        exact HE.out
      · have HRQ := Lib.hid (show aBind apR lib (aRun apR lib d) act t vars f = .err r.2 from HEQ3.out.trans (if_neg h0))
        clear HEQ3
        have HSX := Lib.hid (Fr.set3 w6 wr.heap.size (.bool b6) (.int .i64 n6) (.slice A6 m6 c6))
        have HFZ := Lib.hid (HF6.out.trans HSX.out (fun j hj e => by have e' : j = wr.heap.size := e; have := HWR.out; omega))
        have HEVZ := Lib.hid (show EvB _ bv A cap lib F act from Bx.fr HEV6.out HSX.out (fun e => by have e' : bv = wr.heap.size := e; have := HWR.out; have := HNE.out; omega))
        have HENZ := Lib.hid (show EnvX _ X bm n vars from HEN6.out.fr HSX.out (fun j _ e => .inr e) fun j _ e => .inl e)
        have HRXZ := Lib.hid (HRX6.out.fr HSX.out (fun e => by have e' : w.heap.size = wr.heap.size := e; have := HWR.out; omega))
        have HRYZ := Lib.hid (HRY6.out.set3 (.bool b6) (.int .i64 n6) (.slice A6 m6 c6))
        obtain ⟨y0, y1, y2, f0, f1, f2⟩ := Bx.three HRY6.out
        have hly := HRY6.out.lt
        go_upto_region 18 with fail
        clear y0 y1 y2 f0 f1 f2 hly
        generalize World.setCell _ _ _ = WY at HFZ HEVZ HENZ HRXZ HRYZ ⊢
        have HE := Lib.hid (show RetRn X A cap lib bv bm act (n + f + 1) (aBind apR lib (aRun apR lib d) act t vars f) w (.returned (.int .i64 r.2)) WY from ⟨HFZ.out, n, vars, F, HEVZ.out, HENZ.out, .inl ⟨r.2, HRQ.out, h0, rfl⟩⟩)
        have hcb : (r.2 == 0) = false := beq_eq_false_iff_ne.2 h0
        go_wp2_with fail
        go_ret
        exact HE.out

end Go.Proofs.YtcoeakdpcigogaaDoor

namespace Go.Proofs.YtcoeakdpcigogaaDoor

theorem eval_all {W0 : World} {A : Option Addr} {cap : Nat} {lib : List Af} {bv : Nat} (hok : EcOk W0 A lib) : ∀ n d, d ≤ n → RunC W0 A cap lib bv d ∧ BindEC W0 A cap lib bv d
  | 0, d, h => by
    have hr : RunC W0 A cap lib bv d := run_of fun d' hd => by omega
    exact ⟨hr, ebind_of hok hr (ecall_of hok hr)⟩
  | n + 1, d, h => by
    have hr : RunC W0 A cap lib bv d := run_of fun d' hd => (eval_all hok n d' (by omega)).2
    exact ⟨hr, ebind_of hok hr (ecall_of hok hr)⟩
theorem ecall_any {W0 : World} {A : Option Addr} {cap : Nat} {lib : List Af} {bv d : Nat} (hok : EcOk W0 A lib) : CallC W0 A cap lib bv d := ecall_of hok (eval_all hok d d (Nat.le_refl _)).1

end Go.Proofs.YtcoeakdpcigogaaDoor
