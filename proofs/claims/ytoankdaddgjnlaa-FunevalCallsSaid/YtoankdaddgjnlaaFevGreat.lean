/-
  The law's Great: what is known when it answers 0.
-/
import Derived.Test.YtoankdaddgjnlaaFevOps
import Derived.Test.YtoankdaddgjnlaaFunVT
namespace Go.Proofs.Ytoankdaddgjnlaa
open Go.ChangeShapes Go.WideShapes Go.ChangeAt Go.RowKit Go.Sort Go.Maps

def RetSm (x : Nd) (bl : Nat) (L : Int) (w : World) (e : Ending) (w' : World) : Prop := ∃ (r : Bool) (L' : Int), e = .returned (.bool r) ∧ Bx w' bl #[.int .i64 L'] ∧ Fr w w' (fun k => k = bl) ∧ (r = true → 0 ≤ L' ∧ (sizeT x : Int) + L' = L)

set_option maxRecDepth 100000 in
set_option maxHeartbeats 1000000 in
theorem small_any (W0 : World) (bl : Nat) (hbl : W0.heap.size ≤ bl) (d : Nat) : ∀ (x : Nd), d ≤ 1000 → NdFit x → ∀ (A : Option Addr) (cap : Nat) (L : Int) (w : World), NdsAt W0 A x.kids → Below W0.heap.size W0 w → Bx w bl #[.int .i64 L] → 0 ≤ L → L ≤ 100000 →
    Calls Try.prog 26 #[.agg #[.int .u8 x.kind, .int .i64 x.num, .string x.name, .slice A x.kids.length cap], .int .i64 d, .pointer (some ⟨bl, 0, none⟩)] w (RetSm x bl L w) := by
  induction d with
  | zero =>
    intro x hd hfit A cap L w hK hb hB hL0 hL1
    have f1 := Fr.of_set w ⟨bl, 0, none⟩ (.int .i64 (L - 1))
    have b1 := hB.set 0 (.int .i64 (L - 1))
    have hs : (w.setCell ⟨bl, 0, none⟩ (.int .i64 (L - 1))).heap.size = w.heap.size := by simp
    have bb := below_box (w.setCell ⟨bl, 0, none⟩ (.int .i64 (L - 1))) (Obj.cells #[.int .u8 x.kind, .int .i64 x.num, .string x.name, .slice A x.kids.length cap] 41)
    have HF := Lib.hid (show RetSm x bl L w (.returned (.bool false)) ((w.setCell ⟨bl, 0, none⟩ (.int .i64 (L - 1))).alloc (Obj.cells #[.int .u8 x.kind, .int .i64 x.num, .string x.name, .slice A x.kids.length cap] 41)) from ⟨false, L - 1, rfl, b1.below bb, f1.trans (Fr.of_below bb (fun _ => False)) (fun _ _ e => e.elim), fun e => by cases e⟩)
    have l0 := hB.cell (j := 0) rfl
    have l1 := hB.free 0
    have hlt := hB.lt
    clear f1 b1 bb hK
    by_cases hL : L - 1 < 0
    · go_enter Try.func26, Try.ntmps26
      go_wp2_with fail
      go_ret
      exact HF.out
    · go_enter Try.func26, Try.ntmps26
      go_wp2_with fail
      go_ret
      exact HF.out
  | succ d ih =>
    intro x hd hfit A cap L w hK hb hB hL0 hL1
    obtain ⟨hf1, hf2, hf3, hf4⟩ := hfit.facts
    have f1 := Fr.of_set w ⟨bl, 0, none⟩ (.int .i64 (L - 1))
    have b1 := hB.set 0 (.int .i64 (L - 1))
    have hs : (w.setCell ⟨bl, 0, none⟩ (.int .i64 (L - 1))).heap.size = w.heap.size := by simp
    have bb := below_box (w.setCell ⟨bl, 0, none⟩ (.int .i64 (L - 1))) (Obj.cells #[.int .u8 x.kind, .int .i64 x.num, .string x.name, .slice A x.kids.length cap] 41)
    have fW := f1.trans (Fr.of_below bb (fun _ => False)) (fun _ _ e => e.elim)
    have bW := b1.below bb
    have HF := Lib.hid (show RetSm x bl L w (.returned (.bool false)) ((w.setCell ⟨bl, 0, none⟩ (.int .i64 (L - 1))).alloc (Obj.cells #[.int .u8 x.kind, .int .i64 x.num, .string x.name, .slice A x.kids.length cap] 41)) from ⟨false, L - 1, rfl, bW, fW, fun e => by cases e⟩)
    have l0 := hB.cell (j := 0) rfl
    have l1 := hB.free 0
    have hlt := hB.lt
    obtain ⟨D, hD⟩ : ∃ D : Int, D = ((d + 1 : Nat) : Int) := ⟨_, rfl⟩
    rw [← hD]
    have hD1 : (D == 0) = false := by simp; omega
    have hD2 : D ≤ 1001 := by omega
    have hD3 : 1 ≤ D := by omega
    have HD := Lib.hid (show D - 1 = (d : Int) by omega)
    have HSE := Lib.hid (sizeT_eq x)
    have HK := Lib.hid hK
    clear f1 b1 bb hK hD
    by_cases hL : L - 1 < 0
    · go_enter Try.func26, Try.ntmps26
      go_wp2_with fail
      go_ret
      exact HF.out
    by_cases hnm : 40 < x.name.size
    · have hn1 : decide (40 < x.name.size) = true := by simpa using hnm
      go_enter Try.func26, Try.ntmps26
      go_wp2_with fail
      go_ret
      exact HF.out
    have hn1 : decide (40 < x.name.size) = false := by simpa using hnm
    clear HF
    go_enter Try.func26, Try.ntmps26
    go_wp2_with fail
    clear l0 l1 hn1 hD1
    generalize World.alloc _ _ = W at fW bW ⊢
    have hbW := fW.below hb (fun k e => by omega)
    go_loopw [31] (fun i wr => ∃ (k : Nat) (M : Int), k ≤ x.kids.length ∧ i = .int .i64 k ∧ 0 ≤ M ∧ Hid (Bx wr bl #[.int .i64 M]) ∧ Hid (Fr w wr (fun k => k = bl)) ∧ Hid (((1 + sizeTL (x.kids.take k) : Nat) : Int) + M = L)) (fun i _ => x.kids.length - (intOf i).toNat)
    case atStart => exact ⟨0, L - 1, by omega, rfl, by omega, bW, fW, (by simp [sizeTL]; omega : ((1 + sizeTL (x.kids.take 0) : Nat) : Int) + (L - 1) = L)⟩
    case round =>
      obtain ⟨k, M, hk, rfl, hM, hBM, hFM, hsum⟩ := hrel
      have hbr := hFM.out.below hb (fun k e => by omega)
      by_cases hin : k < x.kids.length
      · have hz1 := sizeTL_step hin
        obtain ⟨b, o, A', cap', rfl, hltb, c0, c1, c2, c3, hK'⟩ := (HK.out).kid hin
        have d0 := below_cell hbr c0
        have d1 := below_cell hbr c1
        have d2 := below_cell hbr c2
        have d3 := below_cell hbr c3
        have hget : x.kids[k]? = some x.kids[k] := List.getElem?_eq_getElem hin
        have hfy := hfit.kid hget
        generalize x.kids[k] = y at *
        have HZ1 := Lib.hid hz1
        have hlt2 : b < wr.heap.size := block_lt_of_cell d0
        have bb := below_box wr (Obj.cells #[.int .u8 y.kind, .int .i64 y.num, .string y.name, .slice A' y.kids.length cap'] 41)
        have B2 := Lib.hid (hBM.out.below bb)
        have F2 := Lib.hid (hFM.out.trans (Fr.of_below bb (fun _ => False)) (fun _ _ e => e.elim))
        have hb2 := below_step hbr hbr.size bb
        have hML : M ≤ 100000 := by have := hsum.out; omega
        clear hget hz1 c0 c1 c2 c3 bb
        go_wp2_with fail
        rw [HD.out]
        clear d0 d1 d2 d3
        generalize wr.alloc _ = W2 at B2 F2 hb2 ⊢
        refine (ih y (by omega) hfy A' cap' M W2 hK' hb2 B2.out hM hML).mono ?_
        rintro e w3 ⟨r, M', rfl, B3, F3, hr⟩
        have F4 := Lib.hid (F2.out.trans F3 (fun _ _ e => e))
        have HB3 := Lib.hid B3
        cases r with
        | false =>
          have HF := Lib.hid (show RetSm x bl L w (.returned (.bool false)) w3 from ⟨false, M', rfl, B3, F4.out, fun e => by cases e⟩)
          clear B3 F3 hr
          go_wp2_with fail
          go_ret
          exact HF.out
        | true =>
          obtain ⟨h1, h2⟩ := hr rfl
          have HN := Lib.hid (show ((1 + sizeTL (x.kids.take (k + 1)) : Nat) : Int) + M' = L by rw [HZ1.out]; have := hsum.out; omega)
          clear B3 F3 h2 hsum
          go_wp2_with fail
          exact ⟨⟨k + 1, M', by omega, by go_num, h1, HB3, F4, HN⟩, by simp [intOf]; omega⟩
      · obtain rfl : k = x.kids.length := by omega
        rw [List.take_length] at hsum
        have HF := Lib.hid (show RetSm x bl L w (.returned (.bool true)) wr from ⟨true, M, rfl, hBM.out, hFM.out, fun _ => ⟨hM, by rw [HSE.out]; exact hsum.out⟩⟩)
        clear hsum
        go_wp2_with fail
        go_ret
        exact HF.out

/-- What the count answers. -/
def RetGr (x : Nd) (w : World) (e : Ending) (w' : World) : Prop := ∃ g : Bool, e = .returned (.bool g) ∧ (g = false → sizeT x ≤ 200) ∧ Below w.heap.size w w'

set_option maxRecDepth 100000 in
set_option maxHeartbeats 1000000 in
theorem great5_any (x : Nd) (hfit : NdFit x) (A : Option Addr) (cap : Nat) (w : World) (hK : NdsAt w A x.kids) :
    Calls Try.prog 20 #[.agg #[.int .u8 x.kind, .int .i64 x.num, .string x.name, .slice A x.kids.length cap]] w (RetGr x w) := by
  have b2 := two_box w (Obj.cells #[.int .u8 x.kind, .int .i64 x.num, .string x.name, .slice A x.kids.length cap] 41) (Obj.cells #[.int .i64 200] 3)
  have lb := bx_new (w.alloc (Obj.cells #[.int .u8 x.kind, .int .i64 x.num, .string x.name, .slice A x.kids.length cap] 41)) #[.int .i64 200] 3
  rw [show (w.alloc (Obj.cells #[.int .u8 x.kind, .int .i64 x.num, .string x.name, .slice A x.kids.length cap] 41)).heap.size = w.heap.size + 1 by simp] at lb
  go_enter Try.func20, Try.ntmps20
  go_wp2_with fail
  generalize World.alloc _ _ = W at b2 lb ⊢
  refine (small_any w (w.heap.size + 1) (by omega) 24 x (by omega) hfit A cap 200 W hK b2 lb (by omega) (by omega)).mono ?_
  rintro e w3 ⟨r, M, rfl, B3, F3, hr⟩
  have q3 := Lib.hid (F3.toBelow b2 b2.size (fun k e => by omega))
  have HF := Lib.hid (show RetGr x w (.returned (.bool (!r))) w3 from ⟨!r, rfl, fun e => by
    have h1 := hr (by cases r <;> simp_all)
    omega, q3.out⟩)
  clear hr B3 F3
  go_wp2_with fail
  go_ret
  exact HF.out

def RetG1 (x : Nd) (w : World) (e : Ending) (w' : World) : Prop := ∃ g : Bool, e = .returned (.int .i64 (if g = true then 1 else 0)) ∧ (g = false → sizeT x ≤ 200) ∧ Below w.heap.size w w'

set_option maxRecDepth 100000 in
set_option maxHeartbeats 1000000 in
theorem Great5_any (x : Nd) (hfit : NdFit x) (A : Option Addr) (cap : Nat) (w : World) (hK : NdsAt w A x.kids) :
    Calls Try.prog 13 #[.agg #[.slice none 0 0, .slice none 0 0, .int .u8 x.kind, .int .i64 x.num, .string x.name, .slice A x.kids.length cap]] w (RetG1 x w) := by
  have b1 := below_box w (Obj.cells #[.slice none 0 0, .slice none 0 0, .int .u8 x.kind, .int .i64 x.num, .string x.name, .slice A x.kids.length cap] 58)
  have pb := bx_new w #[.slice none 0 0, .slice none 0 0, .int .u8 x.kind, .int .i64 x.num, .string x.name, .slice A x.kids.length cap] 58
  have HK := Lib.hid (hK.mono b1)
  clear hK
  go_enter Try.func13, Try.ntmps13
  go_wp2_with fail
  generalize World.alloc _ _ = W at b1 pb HK ⊢
  refine (great5_any x hfit A cap W HK.out).mono ?_
  rintro e w3 ⟨g, rfl, hg, hb3⟩
  have q3 := Lib.hid (below_step b1 b1.size hb3)
  have pb3 := pb.below hb3
  obtain ⟨⟨p0, p1, _⟩, _⟩ := pb3.six
  have HG := Lib.hid hg
  clear hg hb3
  cases g with
  | true =>
    go_wp2_with fail
    go_ret
    exact ⟨true, rfl, (fun e => by cases e), q3.out⟩
  | false =>
    have HF := Lib.hid (show RetG1 x w (.returned (.int .i64 0)) w3 from ⟨false, rfl, HG.out, q3.out⟩)
    go_wp2_with fail
    go_loop [27] (fun i => i = .int .i64 0) (fun _ => 0)
    case atStart => rfl
    case round =>
      subst hrel
      go_wp2_with fail
      go_loop [39] (fun i => i = .int .i64 0) (fun _ => 0)
      case atStart => rfl
      case round =>
        subst hrel
        go_wp2_with fail
        go_ret
        exact HF.out

/-- What the law considers. -/
structure SmallV (lib : List Fn1) (args : List Vl) : Prop where
  l : lib.length ≤ 6
  a : args.length ≤ 8
  f : ∀ (k : Nat) (g : Fn1), lib[k]? = some g → g.params.length ≤ 10 ∧ sizeT g.body ≤ 200
  v : ∀ (k : Nat) (u : Vl), args[k]? = some u → u.l.length ≤ 40
def RetGreat (lib : List Fn1) (args : List Vl) (w : World) (e : Ending) (w' : World) : Prop := ∃ g : Bool, e = .returned (.int .i64 (if g = true then 1 else 0)) ∧ (g = false → SmallV lib args) ∧ Below w.heap.size w w'
theorem RetGreat.one {lib : List Fn1} {args : List Vl} {w w' : World} (h : Below w.heap.size w w') : RetGreat lib args w (.returned (.int .i64 1)) w' := ⟨true, rfl, (fun e => by cases e), h⟩

set_option maxRecDepth 100000 in
set_option maxHeartbeats 2000000 in
theorem Great_any (lib : List Fn1) (A : Option Addr) (cap : Nat) (args : List Vl) (Aa : Option Addr) (ca : Nat) (w : World) (hL : LibAt w A lib) (hF : LibFit lib) (hV : VlsX w (fun _ => False) Aa args) (hvl : ∀ v ∈ args, v.l.length ≤ 9223372036854775807) (hal : args.length ≤ 9223372036854775807) :
    Calls Try.prog 5 #[.slice A lib.length cap, .slice Aa args.length ca] w (RetGreat lib args w) := by
  have hl := hF.1
  have HL := Lib.hid hL
  have HV := Lib.hid hV
  have HVL := Lib.hid hvl
  have HLF := Lib.hid hF.2
  clear hL hV hvl hF
  by_cases h6 : 6 < lib.length
  · have h1 : decide (6 < lib.length) = true := by simpa using h6
    go_enter Try.func5, Try.ntmps5
    go_wp2_with fail
    go_ret
    exact RetGreat.one (Below.refl _ _)
  have h1 : decide (6 < lib.length) = false := by simpa using h6
  by_cases h8 : 8 < args.length
  · have h2 : decide (8 < args.length) = true := by simpa using h8
    go_enter Try.func5, Try.ntmps5
    go_wp2_with fail
    go_ret
    exact RetGreat.one (Below.refl _ _)
  have h2 : decide (8 < args.length) = false := by simpa using h8
  go_enter Try.func5, Try.ntmps5
  go_wp2_with fail
  clear h1 h2
  go_loopw [21] (fun i wr => ∃ k : Nat, k ≤ lib.length ∧ i = .int .i64 k ∧ Hid (Below w.heap.size w wr) ∧ Hid (∀ (j : Nat) (g : Fn1), j < k → lib[j]? = some g → g.params.length ≤ 10 ∧ sizeT g.body ≤ 200)) (fun i _ => lib.length - (intOf i).toNat)
  case atStart => exact ⟨0, by omega, rfl, Below.refl _ _, fun j _ hj => by omega⟩
  case round =>
    obtain ⟨k, hk, rfl, hb, hall⟩ := hrel
    by_cases hin : k < lib.length
    · have hget : lib[k]? = some lib[k] := List.getElem?_eq_getElem hin
      obtain ⟨b, o, rfl, hfo⟩ := HL.out.at_ hin
      obtain ⟨hfn, hfp, hfb⟩ := HLF.out k _ hget
      have HGET := Lib.hid hget
      generalize lib[k] = g at *
      obtain ⟨A1, cp1, c1', hps⟩ := hfo.ps
      obtain ⟨A3, cp3, d0', d1', d2', d3', hks⟩ := hfo.body.open_
      have c0 := below_cell hb.out hfo.c0
      have c1 := below_cell hb.out c1'
      have c2 := below_cell hb.out hfo.c2
      have d0 := below_cell hb.out d0'
      have d1 := below_cell hb.out d1'
      have d2 := below_cell hb.out d2'
      have d3 := below_cell hb.out d3'
      have hlt : b < wr.heap.size := block_lt_of_cell c0
      have fb := fnB_box wr 47 g A1 cp1 A3 cp3 (hps.mono hb.out) (hks.mono hb.out)
      have bb := below_box wr (Obj.cells #[.string g.name, .slice A1 g.params.length cp1, .bool g.list, .int .u8 g.body.kind, .int .i64 g.body.num, .string g.body.name, .slice A3 g.body.kids.length cp3] 47)
      have q1 := Lib.hid (below_step hb.out hb.out.size bb)
      have HPS := Lib.hid hps
      have hfpl := hfp.1
      have HFP := Lib.hid hfp.2
      clear hget hfo c1' d0' d1' d2' d3' hps bb hfp
      by_cases hp : 10 < g.params.length
      · have h1 : decide (10 < g.params.length) = true := by simpa using hp
        go_wp2_with fail
        go_ret
        exact RetGreat.one q1.out
      have h1 : decide (10 < g.params.length) = false := by simpa using hp
      by_cases hn : 40 < g.name.size
      · have h2 : decide (40 < g.name.size) = true := by simpa using hn
        go_wp2_with fail
        go_ret
        exact RetGreat.one q1.out
      have h2 : decide (40 < g.name.size) = false := by simpa using hn
      have HKS := Lib.hid (hks.mono q1.out)
      clear hks
      go_wp2_with fail
      generalize wr.alloc _ = W1 at fb q1 HKS ⊢
      clear c0 c1 c2 d0 d1 d2 d3
      refine (Great5_any g.body hfb A3 cp3 W1 HKS.out).mono ?_
      rintro e w2 ⟨gg, rfl, hgg, hb2⟩
      have fb2 := fb.mono hb2
      have q2 := Lib.hid (below_step q1.out q1.out.size hb2)
      have HGG := Lib.hid hgg
      clear hgg hb2 fb
      cases gg with
      | true =>
        go_wp2_with fail
        go_ret
        exact RetGreat.one q2.out
      | false =>
        have hall2 := Lib.hid (fun (j : Nat) (f : Fn1) (hj : j < k + 1) (hf : lib[j]? = some f) => show f.params.length ≤ 10 ∧ sizeT f.body ≤ 200 from by
          by_cases e : j = k
          · rw [e, HGET.out] at hf
            have := Option.some.inj hf
            subst this
            exact ⟨by omega, HGG.out rfl⟩
          · exact hall.out j f (by omega) hf)
        obtain ⟨t0, t1, t2, t3, t4, t5, t6, _⟩ := fb2
        clear hall HGG HGET
        go_wp2_with fail
        clear t0 t1 t2 t3 t4 t5 t6
        obtain ⟨wo, rfl⟩ : ∃ wo : World, wo = wr := ⟨_, rfl⟩
        go_loopw [45] (fun i wr => ∃ m : Nat, m ≤ g.params.length ∧ i = .int .i64 m ∧ Hid (Below w.heap.size w wr)) (fun i _ => g.params.length - (intOf i).toNat)
        case atStart => exact ⟨0, by omega, rfl, q2⟩
        case round =>
          obtain ⟨m, hm, rfl, hbm⟩ := hrel
          by_cases hin2 : m < g.params.length
          · obtain ⟨bp, op, rfl, e0, e1⟩ := (HPS.out.mono hbm.out).at_ hin2
            have hpn := HFP.out m _ (List.getElem?_eq_getElem hin2)
            generalize g.params[m] = p at *
            have hltp : bp < wr.heap.size := block_lt_of_cell e0
            have bbp := below_box wr (Obj.cells #[.string p.name, .bool p.list] 44)
            have qp := Lib.hid (below_step hbm.out hbm.out.size bbp)
            clear bbp
            by_cases hpn4 : 40 < p.name.size
            · have h3 : decide (40 < p.name.size) = true := by simpa using hpn4
              go_wp2_with fail
              go_ret
              exact RetGreat.one qp.out
            · have h3 : decide (40 < p.name.size) = false := by simpa using hpn4
              go_wp2_with fail
              exact ⟨⟨m + 1, by omega, by go_num, qp⟩, by simp [intOf]; omega⟩
          · go_wp2_with fail
            exact ⟨⟨k + 1, by omega, by go_num, hbm, hall2⟩, by simp [intOf]; omega⟩
    · obtain rfl : k = lib.length := by omega
      go_wp2_with fail
      obtain ⟨wo, rfl⟩ : ∃ wo : World, wo = wr := ⟨_, rfl⟩
      go_loopw [57] (fun i wr => ∃ m : Nat, m ≤ args.length ∧ i = .int .i64 m ∧ Hid (Below w.heap.size w wr) ∧ Hid (∀ (j : Nat) (u : Vl), j < m → args[j]? = some u → u.l.length ≤ 40)) (fun i _ => args.length - (intOf i).toNat)
      case atStart => exact ⟨0, by omega, rfl, hb, fun j _ hj => by omega⟩
      case round =>
        obtain ⟨m, hm, rfl, hbm, hall3⟩ := hrel
        by_cases hin2 : m < args.length
        · obtain ⟨ba', oa', A', c', rfl, _, d0, d1, d2, hi⟩ := (HV.out.le (X' := fun _ => False) (Le.of_fr (Fr.of_below hbm.out (fun _ => False)) (fun _ _ e => e) fun _ _ e => e)) m _ (List.getElem?_eq_getElem hin2)
          have g1 := Lib.hid (List.getElem?_eq_getElem hin2)
          have hul := HVL.out _ (List.getElem_mem hin2)
          generalize args[m] = u at *
          have hlt1 : ba' < wr.heap.size := block_lt_of_cell d0
          have rk1 : (0 : Int) ≤ m := by omega
          have rk2 : (m : Int) < args.length := by omega
          have bb := below_box wr (Obj.cells #[.bool u.list, .int .i64 u.n, .slice A' u.l.length c'] 28)
          have qp := Lib.hid (below_step hbm.out hbm.out.size bb)
          clear bb hi
          by_cases hu4 : 40 < u.l.length
          · have h3 : decide (40 < u.l.length) = true := by simpa using hu4
            go_wp2_with fail
            go_ret
            exact RetGreat.one qp.out
          · have h3 : decide (40 < u.l.length) = false := by simpa using hu4
            have hall4 := Lib.hid (fun (j : Nat) (f : Vl) (hj : j < m + 1) (hf : args[j]? = some f) => show f.l.length ≤ 40 from by
              by_cases e : j = m
              · rw [e, g1.out] at hf
                have := Option.some.inj hf
                subst this
                omega
              · exact hall3.out j f (by omega) hf)
            go_wp2_with fail
            exact ⟨⟨m + 1, by omega, by go_num, qp, hall4⟩, by simp [intOf]; omega⟩
        · have HF := Lib.hid (show RetGreat lib args w (.returned (.int .i64 0)) wr from ⟨false, rfl, (fun _ => ⟨by omega, by omega, fun j f hf => hall.out j f (List.getElem?_eq_some_iff.1 hf).1 hf, fun j u hu => hall3.out j u (by have := (List.getElem?_eq_some_iff.1 hu).1; omega) hu⟩), hbm.out⟩)
          go_wp2_with fail
          go_ret
          exact HF.out

end Go.Proofs.Ytoankdaddgjnlaa
