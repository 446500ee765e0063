/-
  anf.Valid: a call.
  anf.Valid: a branch.
-/
import Derived.Test.YtcoeakdpcigogaaDoorAnfVl1
import Derived.Deep.RegionLaw
namespace Go.Proofs.YtcoeakdpcigogaaDoor
open Go.ChangeShapes Go.WideShapes Go.ChangeAt Go.RowKit Go.Sort Go.Maps

variable {W0 w w' : World} {V L T S B : Nat} {lib : ByteArray → Option Af} {tp : Sc} {nS nB : Nat} {sc : Sc} {bd : Bn}
/-- What looking a function up leaves. -/
def VcM (W0 W wc : World) (lib : ByteArray → Option Af) (s : ByteArray) (b : Value) : Prop := Below W.heap.size W wc ∧ ((lib s = none ∧ b = .bool false) ∨ ∃ f cs, lib s = some f ∧ b = .bool true ∧ AfC W0 (fun _ => False) cs f ∧ Bx wc W.heap.size cs.toArray)
theorem vcM_none {W0 W : World} {lib : ByteArray → Option Af} {s : ByteArray} (h : lib s = none) (o : Obj) : VcM W0 W (W.alloc o).drew lib s (.bool false) := ⟨belowDrawnP (below_box W o), .inl ⟨h, rfl⟩⟩
theorem vcM_some {W0 W : World} {lib : ByteArray → Option Af} {s : ByteArray} {f : Af} {cs : List Value} (h : lib s = some f) (hc : AfC W0 (fun _ => False) cs f) (T : TypeId) : VcM W0 W (W.alloc (Obj.cells cs.toArray T)).drew lib s (.bool true) := ⟨belowDrawnP (below_box W _), .inr ⟨f, cs, h, rfl, hc, (bx_new W cs.toArray T).below (belowDrawnP (Below.refl _ _))⟩⟩
set_option maxRecDepth 100000 in
set_option maxHeartbeats 4000000 in
theorem vcall_any (h : Ck W0 w V L T S B lib tp nS nB sc bd) (t : Bd) (hf : BdFit t) (Aa At Ae As : Option Addr) (ca ct ce cs : Nat) (ts : List Bool) (hA : StrsX W0 (fun _ => False) Aa t.args) (hT : BlsAt w As ts) (hl : ts.length = t.args.length) (hlib : ∀ f, lib t.name = some f → f.params.length ≤ 1000) :
    Calls Tryd.prog 70 #[.pointer (some ⟨V, 0, none⟩), .agg #[.string t.to, .bool t.list, .int .u8 t.op, .int .i64 t.num, .string t.name, .slice Aa t.args.length ca, .slice At t.thn.length ct, .slice Ae t.els.length ce], .slice As ts.length cs] w fun e w' => e = .returned (.bool (callB lib tp t ts)) ∧ Below w.heap.size w w' := by
  have HF := Lib.hid hf.facts
  have hbx := below_box w (Obj.cells #[.string t.to, .bool t.list, .int .u8 t.op, .int .i64 t.num, .string t.name, .slice Aa t.args.length ca, .slice At t.thn.length ct, .slice Ae t.els.length ce] 67)
  have rbx := bx_new w #[.string t.to, .bool t.list, .int .u8 t.op, .int .i64 t.num, .string t.name, .slice Aa t.args.length ca, .slice At t.thn.length ct, .slice Ae t.els.length ce] 67
  have HCK := Lib.hid (h.below hbx)
  have HBX := Lib.hid hbx
  have HRX := Lib.hid rbx
  have HAT := Lib.hid (And.intro hA hT)
  have HLN := Lib.hid hl
  have HLB := Lib.hid hlib
  clear h hf hbx rbx hA hT hl hlib
  go_enter Tryd.func70, Tryd.ntmps70
  go_upto_region 1 with fail
  generalize w.alloc _ = W at HCK HBX HRX ⊢
  obtain ⟨x0, x1, x2, x3, hlv⟩ := HCK.out.cells
  obtain ⟨⟨a0, a1, a2, a3, a4, a5, a6, a7⟩, _⟩ := HRX.out.eight
  have hlb := HRX.out.lt
  go_cut [7, 8] (fun p b wc => p = .pointer (some ⟨W.heap.size, 0, none⟩) ∧ Hid (VcM W0 W wc lib t.name b))
  case first =>
    rcases HCK.out.lm.look t.name HF.out.2.1 with ⟨hl0, hlk⟩ | ⟨f, cf, hl0, hcf, hlk⟩
    · have k1 := hlk _ (belowDrawnP (Below.refl _ W))
      have k2 := hlk _ (belowDrawnP (below_box W (Obj.cells #[.string ⟨#[]⟩, .slice none 0 0, .bool false, .slice none 0 0, .slice none 0 0, .string ⟨#[]⟩] 39)))
      have HM := Lib.hid (fun o => vcM_none (W0 := W0) (W := W) hl0 o)
      clear hlk hl0
      unfold zAf at k1 k2
      go_region_law (first
        | (fail))
      all_goals
        go_simp
        go_wp2_with fail
        go_meet
        with_reducible exact ⟨rfl, Lib.hid (HM.out _)⟩
    · have k1 := hlk _ (belowDrawnP (Below.refl _ W))
      have k2 := hlk _ (belowDrawnP (below_box W (Obj.cells #[.string ⟨#[]⟩, .slice none 0 0, .bool false, .slice none 0 0, .slice none 0 0, .string ⟨#[]⟩] 39)))
      have HM := Lib.hid (fun T => vcM_some (W := W) hl0 hcf T)
      obtain ⟨Ap, cp, Aτ, cτ, Ab, cb, rfl, _⟩ := hcf
      clear hlk hl0
      go_region_law (first
        | (fail))
      all_goals
        go_simp
        go_wp2_with fail
        go_meet
        with_reducible exact ⟨rfl, Lib.hid (HM.out _)⟩
  case rest =>
    obtain ⟨rfl, hvc⟩ := hcut
    obtain ⟨wo, rfl⟩ : ∃ y, y = wc := ⟨_, rfl⟩
    have HBW := Lib.hid (below_step HBX.out HBX.out.size hvc.out.1)
    rcases hvc.out.2 with ⟨hl0, rfl⟩ | ⟨f, cf, hl0, rfl, hcf, hbf⟩
    · have HE := Lib.hid (show callB lib tp t ts = false by unfold callB; rw [hl0])
      clear hvc hl0
      go_wp2_with fail
      go_ret
      exact ⟨ret_bool HE.out.symm, HBW.out⟩
    have HE := Lib.hid (show callB lib tp t ts = if f.list ≠ t.list ∨ ts.length ≠ f.params.length then false else argsB tp t.args ts f.params fun _ => false by unfold callB; rw [hl0])
    have HFP := Lib.hid (HLB.out f hl0)
    have HCKo := Lib.hid (HCK.out.below hvc.out.1)
    have HRXo := Lib.hid (HRX.out.below hvc.out.1)
    obtain ⟨Ap, cp, Aτ, cτ, Ab, cb, rfl, hps, _⟩ := hcf
    have HFX := Lib.hid (show Bx wo W.heap.size #[.string f.name, .slice Ap f.params.length cp, .bool f.list, .slice Aτ f.temps.length cτ, .slice Ab f.body.length cb, .string f.result] from hbf)
    have HPS := Lib.hid hps.1
    clear hvc hl0 hbf hps x0 x1 x2 x3 hlv a0 a1 a2 a3 a4 a5 a6 a7 hlb HCK HRX
    obtain ⟨x0, x1, x2, x3, hlv⟩ := HCKo.out.cells
    obtain ⟨⟨a0, a1, a2, a3, a4, a5, a6, a7⟩, _⟩ := HRXo.out.eight
    have hlb := HRXo.out.lt
    obtain ⟨⟨y0, y1, y2, y3, y4, y5⟩, _⟩ := HFX.out.six'
    have hlf := HFX.out.lt
    by_cases hbad : f.list ≠ t.list ∨ ts.length ≠ f.params.length
    · have HE2 := Lib.hid (HE.out.trans (if_pos hbad))
      by_cases hq1 : f.list = t.list
      · have hq2 : ((ts.length : Int) != f.params.length) = true := bne_iff_ne.2 (by rcases hbad with h | h; exact absurd hq1 h; omega)
        have hq1' : (f.list == t.list) = true := by rw [hq1]; simp
        clear hbad hq1
        go_wp2_with fail
        go_ret
        exact ⟨ret_bool HE2.out.symm, HBW.out⟩
      · have hq1' : (f.list == t.list) = false := beq_eq_false_iff_ne.2 hq1
        clear hbad hq1
        go_wp2_with fail
        go_ret
        exact ⟨ret_bool HE2.out.symm, HBW.out⟩
    have HE2 := Lib.hid (HE.out.trans (if_neg hbad))
    have hq1' : (f.list == t.list) = true := by
      by_cases e : f.list = t.list
      · rw [e]; simp
      · exact absurd (.inl e) hbad
    have hq2 : ((ts.length : Int) != f.params.length) = false := by
      by_cases e : ts.length = f.params.length
      · rw [e]; simp
      · exact absurd (.inr e) hbad
    have HLP := Lib.hid (show ts.length = f.params.length from by
      by_cases e : ts.length = f.params.length
      · exact e
      · exact absurd (.inr e) hbad)
    have hmm := @run_makeMap Tryd.prog
    have HLTS := Lib.hid (show L < wo.heap.size ∧ T < wo.heap.size ∧ S < wo.heap.size ∧ B < wo.heap.size from ⟨HCKo.out.lm.lt, (by obtain ⟨n, h⟩ := HCKo.out.tm; exact h.lt), HCKo.out.sm.lt, HCKo.out.bm.lt⟩)
    have HCKb := Lib.hid (HCKo.out.bw.size)
    have HMP := Lib.hid (show ScM (wo.alloc (.map #[] 0)) wo.heap.size 0 (fun _ => none) from ⟨0, mapG_made _ wo⟩)
    have HBM := Lib.hid (below_box wo (.map #[] 0))
    clear hbad HE
    go_wp2_with fail
    have HCK2 := Lib.hid (HCKo.out.below HBM.out)
    have HRX2 := Lib.hid (HRXo.out.below HBM.out)
    have HFX2 := Lib.hid (HFX.out.below HBM.out)
    have HSZ2 := Lib.hid (show (wo.alloc (.map #[] 0)).heap.size = wo.heap.size + 1 by simp)
    have HB02 := Lib.hid (below_step HBW.out HBW.out.size HBM.out)
    have HDIS := Lib.hid (And.intro hlv (And.intro hlb hlf))
    clear hmm x0 x1 x2 x3 hlv a0 a1 a2 a3 a4 a5 a6 a7 hlb y0 y1 y2 y3 y4 y5 hlf hq1' hq2 HCKo HRXo HFX
    generalize wo.alloc _ = W2 at HCK2 HRX2 HFX2 HSZ2 HB02 HMP HBM ⊢
    go_loopw [45] (fun i wr => ∃ (k : Nat) (sn : Sc), k ≤ t.args.length ∧ i = .int .i64 k ∧ Hid (Fr W2 wr (fun j => j = wo.heap.size)) ∧ Hid (ScM wr wo.heap.size k sn) ∧ Hid (callB lib tp t ts = argsB tp (t.args.drop k) (ts.drop k) (f.params.drop k) (fun q => (sn q).getD false))) (fun i _ => t.args.length - (intOf i).toNat)
    case atStart => exact ⟨0, fun _ => none, by omega, rfl, Lib.hid (Fr.refl _ _), Lib.hid HMP.out, Lib.hid HE2.out⟩
    case round =>
      obtain ⟨k, sn, hk, rfl, hfr, hsn, hE⟩ := hrel
      have q0 : Below wo.heap.size wo wr := hfr.out.toBelow HBM.out HBM.out.size (fun k e => by have e' : k = wo.heap.size := e; omega)
      have q1 : Below W2.heap.size W2 wr ∨ True := .inr trivial
      have HB0r := Lib.hid (below_step HBW.out HBW.out.size q0)
      by_cases hin : k < t.args.length
      · have hin2 : k < ts.length := by rw [HLN.out]; exact hin
        have hin3 : k < f.params.length := by rw [← HLP.out]; exact hin2
        have HST := Lib.hid (hE.out.trans (argsB_step hin hin2 hin3))
        have HCKr := Lib.hid (HCK2.out.bw)
        obtain ⟨b1, o1, rfl, _, c0⟩ := HAT.out.1 k _ (List.getElem?_eq_getElem hin)
        obtain ⟨b2, o2, rfl, c1⟩ := (HAT.out.2.mono HB0r.out).at_ hin2
        have hB0 : Below W0.heap.size W0 wr := hfr.out.toBelow HCK2.out.bw HCK2.out.bw.size (fun k e => by have e' : k = wo.heap.size := e; have := HBW.out.size; have := HCK2.out.bw.size; have := HDIS.out; have := HCKb.out; omega)
        obtain ⟨b3, o3, rfl, d0, d1⟩ := (HPS.out.mono hB0).at_ hin3
        have c0' := below_cell hB0 c0
        have c0'' := c0'
        have hCr := HCK2.out
        have hHr := hfr.out
        have HCr := Lib.hid (show Ck W0 wr V L T S B lib tp nS nB sc bd from by
          obtain ⟨n, ht⟩ := hCr.tm
          have l1 := HDIS.out
          have l2 : L < wo.heap.size := HLTS.out.1
          have l3 : T < wo.heap.size := HLTS.out.2.1
          have l4 : S < wo.heap.size := HLTS.out.2.2.1
          have l5 : B < wo.heap.size := HLTS.out.2.2.2
          have key : ∀ x, x < wo.heap.size → ¬ (fun j => j = wo.heap.size) x := fun x hx e => by have e' : x = wo.heap.size := e; omega
          exact ⟨hB0, hCr.vx.fr hHr (key _ l1.1), hCr.lm.fr hHr (key _ l2), ⟨n, ht.fr hHr (key _ l3)⟩, hCr.sm.fr hHr (key _ l4), hCr.bm.fr hHr (key _ l5), hCr.sl, hCr.bl, hCr.ne⟩)
        have HFr := Lib.hid (HFX2.out.fr hHr (fun e => by have e' : W.heap.size = wo.heap.size := e; have := HDIS.out; omega))
        obtain ⟨nT, htm⟩ := HCr.out.tm
        obtain ⟨x0, x1, x2, x3, hlv⟩ := HCr.out.cells
        obtain ⟨⟨y0, y1, y2, y3, y4, y5⟩, _⟩ := HFr.out.six'
        have hlf := HFr.out.lt
        have hasz := HF.out.2.2.1 _ (List.getElem_mem hin)
        have k1 := htm.look t.args[k] hasz
        have HSN := Lib.hid (hsn.out.below (belowDrawnP (Below.refl _ wr)))
        have k2 := HSN.out.get t.args[k] hasz
        have l1 := block_lt_of_cell c0'
        have l2 := block_lt_of_cell c1
        have l3 := block_lt_of_cell d0
        have rk1 : (0 : Int) ≤ k := by omega
        have rk2 : (k : Int) < ts.length := by omega
        have rk3 : (k : Int) < f.params.length := by omega
        have hk1000 : k < 1000 := by have := HFP.out; omega
        clear hE hCr hHr HCKr c0 c0'' hB0 htm q1
        generalize t.args[k] = ak at *
        generalize ts[k] = tk at *
        generalize f.params[k] = pk at *
        have HFAL := Lib.hid (fun (hbad : (tp ak).isSome = false ∨ (sn ak).getD false = true ∨ tk ≠ pk.list) => HST.out.trans (if_pos hbad))
        have HGO := Lib.hid (fun (hok : ¬ ((tp ak).isSome = false ∨ (sn ak).getD false = true ∨ tk ≠ pk.list)) => HST.out.trans (if_neg hok))
        clear HST
        by_cases e1 : (tp ak).isSome = true
        · by_cases e2 : (sn ak).getD false = true
          · have HE3 := Lib.hid (HFAL.out (.inr (.inl e2)))
            go_wp2_with fail
            go_region
            go_wp2_with fail
            go_ret
            exact ⟨ret_bool HE3.out.symm, belowDrawnP HB0r.out⟩
          · by_cases e3 : tk = pk.list
            · have e3' : (tk == pk.list) = true := by rw [e3]; simp
              have e2' : (sn ak).getD false = false := by simpa using e2
              have HE3 := Lib.hid (HGO.out (fun hb => by
                rcases hb with hb | hb | hb
                · rw [e1] at hb; cases hb
                · exact e2 hb
                · exact hb e3))
              obtain ⟨w5, hput, hsc5, hfr5⟩ := HSN.out.put (by omega) ak hasz true
              have HS5 := Lib.hid hsc5
              have HF5 := Lib.hid (hfr.out.trans ((Fr.of_below (belowDrawnP (Below.refl _ wr)) (fun j => j = wo.heap.size)).trans hfr5 fun _ _ e => e) fun _ _ e => e)
              have HEQ := Lib.hid (show (fun q => (setS sn ak (some true) q).getD false) = fun q => if q = ak then true else (sn q).getD false from by
                funext q
                unfold setS
                by_cases e : q = ak
                · rw [if_pos e, if_pos e]; rfl
                · rw [if_neg e, if_neg e])
              clear e2 e3 hsc5 hfr5
              go_wp2_with fail
              go_region
              go_wp2_with fail
              exact ⟨⟨k + 1, setS sn ak (some true), by omega, by go_num, HF5, HS5, Lib.hid (by rw [HEQ.out]; exact HE3.out)⟩, by simp [intOf]; omega⟩
            · have e3' : (tk == pk.list) = false := beq_eq_false_iff_ne.2 e3
              have e2' : (sn ak).getD false = false := by simpa using e2
              have HE3 := Lib.hid (HFAL.out (.inr (.inr e3)))
              clear e2 e3
              go_wp2_with fail
              go_region
              go_wp2_with fail
              go_ret
              exact ⟨ret_bool HE3.out.symm, belowDrawnP HB0r.out⟩
        · have e1' : (tp ak).isSome = false := by simpa using e1
          have HE3 := Lib.hid (HFAL.out (.inl e1'))
          clear e1
          go_wp2_with fail
          go_region
          go_wp2_with fail
          go_ret
          exact ⟨ret_bool HE3.out.symm, belowDrawnP HB0r.out⟩
      · obtain rfl : k = t.args.length := by omega
        have HE3 := Lib.hid (show callB lib tp t ts = true by rw [hE.out, List.drop_length, argsB])
        clear hE
        go_wp2_with fail
        go_ret
        exact ⟨ret_bool HE3.out.symm, HB0r.out⟩

end Go.Proofs.YtcoeakdpcigogaaDoor

namespace Go.Proofs.YtcoeakdpcigogaaDoor
open Go.ChangeShapes Go.WideShapes Go.ChangeAt Go.RowKit Go.Sort Go.Maps

def RetBd (W0 : World) (V L T S B : Nat) (lib : ByteArray → Option Af) (tp : Sc) (nS nB : Nat) (sc : Sc) (r : Option Bn) (sz : Nat) (w : World) (e : Ending) (w' : World) : Prop :=
  e = .returned (.bool r.isSome) ∧ Fr w w' (SB S B) ∧ ∀ bd', r = some bd' → ∃ nS' nB', nS' ≤ nS + sz ∧ nB' ≤ nB + sz ∧ Ck W0 w' V L T S B lib tp nS' nB' sc bd'
def BindC (W0 : World) (V L T S B : Nat) (lib : ByteArray → Option Af) (tp : Sc) (t : Bd) : Prop := ∀ (nS nB : Nat) (sc : Sc) (bd : Bn) (w : World) (cs : List Value), Ck W0 w V L T S B lib tp nS nB sc bd → BdC W0 (fun _ => False) cs t → BdFit t → nS + bszT t ≤ 1000000 → nB + bszT t ≤ 1000000 →
  Calls Tryd.prog 55 #[.pointer (some ⟨V, 0, none⟩), .agg cs.toArray] w (RetBd W0 V L T S B lib tp nS nB sc (bndB lib tp t sc bd) (bszL t.thn + bszL t.els) w)
def BranchC (W0 : World) (V L T S B : Nat) (lib : ByteArray → Option Af) (tp : Sc) (l : List Bd) : Prop := ∀ (tn : ByteArray) (nS nB : Nat) (sc : Sc) (bd : Bn) (w : World) (A : Option Addr) (c : Nat), Ck W0 w V L T S B lib tp nS nB sc bd → BdsX W0 (fun _ => False) A l → (∀ y ∈ l, BdFit y) → nS + bszL l ≤ 1000000 → nB + bszL l ≤ 1000000 →
  Calls Tryd.prog 72 #[.pointer (some ⟨V, 0, none⟩), .slice A l.length c, .string tn] w (RetBd W0 V L T S B lib tp nS nB sc (brB lib tp tn l sc bd) (bszL l) w)
theorem bszL_append (l r : List Bd) : bszL (l ++ r) = bszL l + bszL r := by
  induction l with
  | nil => rw [List.nil_append, bszL, Nat.zero_add]
  | cons b l ih => rw [List.cons_append, bszL, bszL, ih, Nat.add_assoc]
theorem bszL_step {l : List Bd} {k : Nat} (h : k < l.length) : bszL (l.take (k + 1)) = bszL (l.take k) + bszT l[k] := by
  rw [List.take_succ_eq_append_getElem h, bszL_append, bszL, bszL, Nat.add_zero]
theorem bszL_take (l : List Bd) (k : Nat) : bszL (l.take k) ≤ bszL l := by
  have := bszL_append (l.take k) (l.drop k)
  rw [List.take_append_drop] at this; omega
theorem bszL_len (l : List Bd) : l.length ≤ bszL l := by
  induction l with
  | nil => simp
  | cons b l ih => rw [bszL, List.length_cons, bszT_eq]; omega
theorem scL_step {l : List Bd} {k : Nat} (h : k < l.length) (sc : Sc) : scL (l.take (k + 1)) sc = setS (scL (l.take k) sc) l[k].to (some l[k].list) := by
  unfold scL
  rw [List.take_succ_eq_append_getElem h, List.foldl_append]; rfl
/-- What is left of a branch. -/
def brK (lib : ByteArray → Option Af) (tp : Sc) (tn : ByteArray) (l : List Bd) (sc : Sc) (bd : Bn) : Option Bn := if l = [] then some bd else brB lib tp tn l sc bd
theorem brK_step {lib : ByteArray → Option Af} {tp : Sc} {tn : ByteArray} {l : List Bd} {k : Nat} {sc : Sc} {bd : Bn} (h : k < l.length) : brK lib tp tn (l.drop k) sc bd = if (l[k].to = tn) ≠ (k + 1 = l.length) then none else match bndB lib tp l[k] sc bd with
    | none => none
    | some bd1 => brK lib tp tn (l.drop (k + 1)) (setS sc l[k].to (some l[k].list)) (if k + 1 = l.length then bd1 else incB bd1 l[k].to) := by
  have hd : (l.drop (k + 1) = []) = (k + 1 = l.length) := by
    apply propext
    rw [List.drop_eq_nil_iff]
    omega
  have hne : l[k] :: l.drop (k + 1) ≠ [] := fun e => by cases e
  unfold brK
  rw [List.drop_eq_getElem_cons h, if_neg hne, brB]
  by_cases h1 : (l[k].to = tn) ≠ (k + 1 = l.length)
  · rw [if_pos h1, if_pos (by rw [hd]; exact h1)]
  rw [if_neg h1, if_neg (by rw [hd]; exact h1)]
  cases bndB lib tp l[k] sc bd with
  | none => rfl
  | some bd1 =>
    by_cases h2 : k + 1 = l.length
    · have h3 : l.drop (k + 1) = [] := hd ▸ h2
      dsimp only
      rw [if_pos h3, if_pos h3, if_pos h2]
    · have h3 : l.drop (k + 1) ≠ [] := fun e => h2 (hd ▸ e)
      dsimp only
      rw [if_neg h3, if_neg h3, if_neg h2]
section
variable {w : World} {ops : Array Oper} {o : Oper} {a : Act} {K : Act → World → Prop} {Q : Exit → Act → World → Prop} {E : Prop}
theorem step_del_S (hgd : o.guard = none) (m x : Operand) (hop : o.op = Op.call { callee := Callee.builtin Builtin.delete, args := #[m, x], argTypes := #[122, 9] }) (b n : Nat) (sc : Sc)
    (hm : a.eval m = .map (some b)) (h : ScM w b n sc) (s : ByteArray) (hx : a.eval x = .string s) (hs : s.size ≤ maxLen)
    (hK : ∀ w', ScM w' b n (setS sc s none) → Fr w w' (fun k => k = b) → K (a.put o.dst (.tuple #[])) w') :
    if Region.wanted o (yielded ops a.tmps) = true then Oper.wp Tryd.prog o a w K Q else E := by
  have hw : Region.wanted o (yielded ops a.tmps) = true := by simp [Region.wanted, hgd]
  rw [if_pos hw]
  obtain ⟨sz, D, h1, _, h3⟩ := h
  obtain ⟨w', hrun, r1, r2⟩ := h1.drop strKeyed Tryd.underlying122 (WideMaps.keyOf_string_mk Tryd.underlying9 hs) o.type
  have hM : ScM w' b n (setS sc s none) := by
    refine ⟨_, _, r1, rfl, fun u => ?_⟩
    rw [show (fun t => (setS sc s none t).map Value.bool) = setG (fun s => (sc s).map Value.bool) s none from (ScM.map_set sc s none).symm]
    unfold setG
    by_cases e : u = s
    · subst e
      rw [if_pos rfl]
      exact ⟨Maps.has_del_same, Maps.atKey_del_same _⟩
    · rw [if_neg e]
      exact ⟨by rw [← (h3 u).1]; exact Maps.has_del_other (klit_ne e), by rw [← (h3 u).2]; exact Maps.atKey_del_other (klit_ne e) _⟩
  unfold Oper.wp
  simp [execOp, hop, resolve, invoke, builtin, hm, hx, hrun, Result.andThen]
  exact hK w' hM (Fr.of_turned r2)
end

set_option maxRecDepth 100000 in
set_option maxHeartbeats 4000000 in
theorem branch_of {W0 : World} {V L T S B : Nat} {lib : ByteArray → Option Af} {tp : Sc} (l : List Bd) (hk : ∀ y ∈ l, BindC W0 V L T S B lib tp y) : BranchC W0 V L T S B lib tp l := by
  intro tn nS nB sc bd w A c h hA hfit hsS hsB
  have HK := Lib.hid hk
  have HA := Lib.hid hA
  have HFIT := Lib.hid hfit
  have HCK := Lib.hid h
  have HLEN := Lib.hid (bszL_len l)
  clear hk hA hfit h
  by_cases hl0 : l = []
  · subst hl0
    have HE := Lib.hid (show RetBd W0 V L T S B lib tp nS nB sc (brB lib tp tn [] sc bd) (bszL []) w (.returned (.bool false)) w from ⟨by rw [brB]; rfl, Fr.refl _ _, fun bd' e => by rw [brB] at e; cases e⟩)
    go_enter Tryd.func72, Tryd.ntmps72
    go_wp2_with fail
    go_ret
    exact HE.out
  have hln : ((l.length : Int) == 0) = false := by
    have : l.length ≠ 0 := fun e => hl0 (List.length_eq_zero_iff.1 e)
    exact beq_eq_false_iff_ne.2 (by omega)
  have HBK := Lib.hid (show brB lib tp tn l sc bd = brK lib tp tn (l.drop 0) (scL (l.take 0) sc) bd by unfold brK; rw [List.drop_zero, if_neg hl0]; rfl)
  have hlmax : l.length ≤ 1000000 := by have := HLEN.out; omega
  go_enter Tryd.func72, Tryd.ntmps72
  go_wp2_with fail
  go_loopw [17] (fun i wr => ∃ (k nS' nB' : Nat) (bdk : Bn), k ≤ l.length ∧ i = .int .i64 k ∧ nS' ≤ nS + bszL (l.take k) ∧ nB' ≤ nB + bszL (l.take k) ∧ Hid (Ck W0 wr V L T S B lib tp nS' nB' (scL (l.take k) sc) bdk) ∧ Hid (Fr w wr (SB S B)) ∧ Hid (brB lib tp tn l sc bd = brK lib tp tn (l.drop k) (scL (l.take k) sc) bdk)) (fun i _ => l.length - (intOf i).toNat)
  case atStart => exact ⟨0, nS, nB, bd, by omega, rfl, by omega, by omega, Lib.hid HCK.out, Lib.hid (Fr.refl _ _), HBK⟩
  case round =>
    obtain ⟨k, nS', nB', bdk, hk, rfl, hnS, hnB, hck, hfr, hE⟩ := hrel
    by_cases hin : k < l.length
    · have HST := Lib.hid (hE.out.trans (brK_step hin))
      have HTK := Lib.hid (bszL_step hin)
      have hbt := bszL_take l (k + 1)
      rw [HTK.out] at hbt
      have HSC := Lib.hid (scL_step hin sc)
      have HBC := Lib.hid (HK.out _ (List.getElem_mem hin))
      have HFT := Lib.hid (HFIT.out _ (List.getElem_mem hin))
      obtain ⟨b, o, rfl, hbo⟩ := HA.out k _ (List.getElem?_eq_getElem hin)
      have hcl := List.getElem?_eq_getElem hin
      generalize l[k] = t at *
      have hbt2 := bszT_eq t
      obtain ⟨cs, hcs, _, hcell⟩ := hbo.open_
      have HCS := Lib.hid hcs
      obtain ⟨Aa, ca, At, ct, Ae, ce, rfl, _⟩ := hcs
      have hbw := hck.out.bw
      have c0 := below_cell hbw (hcell 0 _ rfl)
      have c1 := below_cell hbw (hcell 1 _ rfl)
      have c2 := below_cell hbw (hcell 2 _ rfl)
      have c3 := below_cell hbw (hcell 3 _ rfl)
      have c4 := below_cell hbw (hcell 4 _ rfl)
      have c5 := below_cell hbw (hcell 5 _ rfl)
      have c6 := below_cell hbw (hcell 6 _ rfl)
      have c7 := below_cell hbw (hcell 7 _ rfl)
      rw [Nat.add_zero] at c0
      have hlb := block_lt_of_cell c0
      have HBX := Lib.hid (below_box wr (Obj.cells #[.string t.to, .bool t.list, .int .u8 t.op, .int .i64 t.num, .string t.name, .slice Aa t.args.length ca, .slice At t.thn.length ct, .slice Ae t.els.length ce] 67))
      have HRX := Lib.hid (bx_new wr #[.string t.to, .bool t.list, .int .u8 t.op, .int .i64 t.num, .string t.name, .slice Aa t.args.length ca, .slice At t.thn.length ct, .slice Ae t.els.length ce] 67)
      have HCK1 := Lib.hid (hck.out.below HBX.out)
      have rk1 : (0 : Int) ≤ k := by omega
      have HCKL := Lib.hid (And.intro hck.out.sm.lt hck.out.bm.lt)
      clear hck hE hbo hcell hbw hcl
      go_upto_region 6 with fail
      clear c0 c1 c2 c3 c4 c5 c6 c7 hlb
      generalize wr.alloc _ = W at HBX HRX HCK1 ⊢
      go_upto_region 7 with fail
      have hlast : ((k : Int) == (l.length : Int) - 1) = decide (k + 1 = l.length) := by
        by_cases e : k + 1 = l.length
        · rw [decide_eq_true e]; exact beq_iff_eq.2 (by omega)
        · rw [decide_eq_false e]; exact beq_eq_false_iff_ne.2 (by omega)
      generalize ((k : Int) == (l.length : Int) - 1) = lb at hlast ⊢
      have HLB := Lib.hid hlast
      clear hlast
      obtain ⟨⟨a0, a1, a2, a3, a4, a5, a6, a7⟩, _⟩ := HRX.out.eight
      have hlb := HRX.out.lt
      have HSE := Lib.hid (strEq t.to tn)
      by_cases hgood : (t.to.toList == tn.toList) = lb
      · have HOK := Lib.hid (show ¬ ((t.to = tn) ≠ (k + 1 = l.length)) from fun hne => hne (by
          have h1 := hgood
          rw [HSE.out, HLB.out] at h1
          apply propext
          constructor
          · intro e; have h2 : decide (k + 1 = l.length) = true := by rw [← h1]; exact decide_eq_true e
            exact of_decide_eq_true h2
          · intro e; have h2 : decide (t.to = tn) = true := by rw [h1]; exact decide_eq_true e
            exact of_decide_eq_true h2))
        have HST2 := Lib.hid (HST.out.trans (if_neg HOK.out))
        have HCB := Lib.hid (HBC.out _ _ _ _ _ _ HCK1.out HCS.out HFT.out (by omega) (by omega))
        have HLT := Lib.hid (And.intro HCK1.out.sm.lt HCK1.out.bm.lt)
        clear HST HOK HSE
        go_wp2_with fail
        refine HCB.out.mono ?_
        clear HCB a0 a1 a2 a3 a4 a5 a6 a7 hlb
        rintro e w5 ⟨rfl, hf5, hr5⟩
        have HF5 := Lib.hid (hfr.out.trans ((Fr.of_below HBX.out (SB S B)).trans hf5 fun _ _ e => e) fun _ _ e => e)
        cases hb : bndB lib tp t (scL (l.take k) sc) bdk with
        | none =>
          rw [hb] at HST2
          have HE := Lib.hid (show RetBd W0 V L T S B lib tp nS nB sc (brB lib tp tn l sc bd) (bszL l) w (.returned (.bool false)) w5 from ⟨by rw [HST2.out]; rfl, HF5.out, fun bd' e => by rw [HST2.out] at e; cases e⟩)
          clear hf5 hr5 hb
          go_wp2_with fail
          go_ret
          exact HE.out
        | some bd1 =>
          obtain ⟨nS2, nB2, hn1, hn2, hck5⟩ := hr5 bd1 hb
          rw [hb] at HST2
          have HST3 := Lib.hid (HST2.out)
          dsimp only at HST3
          rw [← HSC.out] at HST3
          have HCK5 := Lib.hid hck5
          have HRX5 := Lib.hid (HRX.out.fr hf5 (fun e => by
            have h1 := HCKL.out
            rcases e with e | e <;> (have e' : wr.heap.size = _ := e; omega)))
          clear hf5 hr5 hb hck5 HST2
          cases lb with
          | true =>
            have hke : k + 1 = l.length := of_decide_eq_true HLB.out.symm
            rw [if_pos hke] at HST3
            have HSM := Lib.hid (HCK5.out.sm.below (belowDrawnP (Below.refl _ w5)))
            obtain ⟨w7, hput, hsc7, hfr7⟩ := HSM.out.put (by omega) t.to HFT.out.facts.1 t.list
            have HF7 := Lib.hid (((Fr.of_below (belowDrawnP (Below.refl _ w5)) (fun j => j = S)).trans hfr7 fun _ _ e => e))
            have HCK7 := Lib.hid (HCK5.out.scope HF7.out hsc7)
            rw [← HSC.out] at HCK7
            obtain ⟨x0, x1, x2, x3, hlv⟩ := HCK5.out.cells
            obtain ⟨⟨a0, a1, a2, a3, a4, a5, a6, a7⟩, _⟩ := HRX5.out.eight
            have hlb := HRX5.out.lt
            clear hsc7 hfr7
            go_wp2_with fail
            go_region
            go_wp2_with fail
            exact ⟨⟨k + 1, _, _, _, by omega, by go_num, by rw [HTK.out]; omega, by rw [HTK.out]; omega, HCK7, Lib.hid (HF5.out.trans (HF7.out.mono (fun j _ e => .inl e)) fun _ _ e => e), HST3⟩, by simp [intOf]; omega⟩
          | false =>
            have hke : ¬ (k + 1 = l.length) := of_decide_eq_false HLB.out.symm
            rw [if_neg hke] at HST3
            have HBM := Lib.hid (HCK5.out.bm.below (belowDrawnP (Below.refl _ w5)))
            have k1 := HBM.out.look t.to HFT.out.facts.1
            obtain ⟨q1, q2⟩ := HBM.out.le t.to
            obtain ⟨w6, hput6, hbd6, hfr6⟩ := HBM.out.inc (by omega) t.to HFT.out.facts.1
            have HF6 := Lib.hid (((Fr.of_below (belowDrawnP (Below.refl _ w5)) (fun j => j = B)).trans hfr6 fun _ _ e => e))
            have HCK6 := Lib.hid (HCK5.out.bound HF6.out hbd6)
            have HRX6 := Lib.hid (HRX5.out.fr HF6.out (fun e => by have h1 := HCKL.out; have e' : wr.heap.size = B := e; omega))
            have HF56 := Lib.hid (HF5.out.trans (HF6.out.mono (fun j _ e => .inr e)) fun _ _ e => e)
            obtain ⟨x0, x1, x2, x3, hlv⟩ := HCK5.out.cells
            obtain ⟨⟨a0, a1, a2, a3, a4, a5, a6, a7⟩, _⟩ := HRX5.out.eight
            have hlb := HRX5.out.lt
            clear hbd6 hfr6
            go_wp2_with fail
            go_region
            clear x0 x1 x2 x3 hlv a0 a1 a2 a3 a4 a5 a6 a7 hlb k1 hput6
            have HSM := Lib.hid (HCK6.out.sm.below (belowDrawnP (Below.refl _ w6)))
            obtain ⟨w7, hput, hsc7, hfr7⟩ := HSM.out.put (by omega) t.to HFT.out.facts.1 t.list
            have HF7 := Lib.hid (((Fr.of_below (belowDrawnP (Below.refl _ w6)) (fun j => j = S)).trans hfr7 fun _ _ e => e))
            have HCK7 := Lib.hid (HCK6.out.scope HF7.out hsc7)
            rw [← HSC.out] at HCK7
            obtain ⟨x0, x1, x2, x3, hlv⟩ := HCK6.out.cells
            obtain ⟨⟨a0, a1, a2, a3, a4, a5, a6, a7⟩, _⟩ := HRX6.out.eight
            have hlb := HRX6.out.lt
            clear hsc7 hfr7
            go_wp2_with fail
            go_region
            go_wp2_with fail
            exact ⟨⟨k + 1, _, _, _, by omega, by go_num, by rw [HTK.out]; omega, by rw [HTK.out]; omega, HCK7, Lib.hid (HF56.out.trans (HF7.out.mono (fun j _ e => .inl e)) fun _ _ e => e), HST3⟩, by simp [intOf]; omega⟩
      · have HOK := Lib.hid (show (t.to = tn) ≠ (k + 1 = l.length) from fun heq => hgood (by
          rw [HSE.out, HLB.out, Bool.eq_iff_iff]
          simp only [decide_eq_true_eq]
          exact iff_of_eq heq))
        have HST2 := Lib.hid (HST.out.trans (if_pos HOK.out))
        have HE := Lib.hid (show RetBd W0 V L T S B lib tp nS nB sc (brB lib tp tn l sc bd) (bszL l) w (.returned (.bool false)) W from ⟨by rw [HST2.out]; rfl, hfr.out.trans (Fr.of_below HBX.out (SB S B)) fun _ _ e => e, fun bd' e => by rw [HST2.out] at e; cases e⟩)
        have hgood' : ((t.to.toList == tn.toList) != lb) = true := bne_iff_ne.2 hgood
        clear HST HOK HSE
        go_wp2_with fail
        go_ret
        exact HE.out
    · obtain rfl : k = l.length := by omega
      rw [List.take_length] at hck hnS hnB hE
      have HR := Lib.hid (show brB lib tp tn l sc bd = some bdk by rw [hE.out, List.drop_length]; unfold brK; rw [if_pos rfl])
      have HFS := Lib.hid (brB_fresh HR.out)
      have HCK2 := Lib.hid hck.out
      have HFR2 := Lib.hid hfr.out
      obtain ⟨wo, rfl⟩ : ∃ y, y = wr := ⟨_, rfl⟩
      clear hck hfr hE
      go_wp2_with fail
      go_loopw [60] (fun i wr => ∃ k : Nat, k ≤ l.length ∧ i = .int .i64 k ∧ Hid (Fr wo wr (fun j => j = S)) ∧ Hid (ScM wr S nS' (scDel (scL l sc) l k))) (fun i _ => l.length - (intOf i).toNat)
      case atStart => exact ⟨0, by omega, rfl, Lib.hid (Fr.refl _ _), Lib.hid (by rw [scDel_zero]; exact HCK2.out.sm)⟩
      case round =>
        obtain ⟨k, hk, rfl, hfr, hsc⟩ := hrel
        by_cases hin : k < l.length
        · have HCKr := Lib.hid (HCK2.out.scope hfr.out hsc.out)
          have HDS := Lib.hid (scDel_step (sc := scL l sc) (List.getElem?_eq_getElem hin))
          have HFT := Lib.hid (HFIT.out _ (List.getElem_mem hin)).facts.1
          obtain ⟨b, o, rfl, hbo⟩ := HA.out k _ (List.getElem?_eq_getElem hin)
          generalize l[k] = t at *
          obtain ⟨cs, hcs, _, hcell⟩ := hbo.open_
          obtain ⟨Aa, ca, At, ct, Ae, ce, rfl, _⟩ := hcs
          have hbw := HCKr.out.bw
          have c0 := below_cell hbw (hcell 0 _ rfl)
          have c1 := below_cell hbw (hcell 1 _ rfl)
          have c2 := below_cell hbw (hcell 2 _ rfl)
          have c3 := below_cell hbw (hcell 3 _ rfl)
          have c4 := below_cell hbw (hcell 4 _ rfl)
          have c5 := below_cell hbw (hcell 5 _ rfl)
          have c6 := below_cell hbw (hcell 6 _ rfl)
          have c7 := below_cell hbw (hcell 7 _ rfl)
          rw [Nat.add_zero] at c0
          have hlb := block_lt_of_cell c0
          have HBX := Lib.hid (below_box wr (Obj.cells #[.string t.to, .bool t.list, .int .u8 t.op, .int .i64 t.num, .string t.name, .slice Aa t.args.length ca, .slice At t.thn.length ct, .slice Ae t.els.length ce] 67))
          have HRX := Lib.hid (bx_new wr #[.string t.to, .bool t.list, .int .u8 t.op, .int .i64 t.num, .string t.name, .slice Aa t.args.length ca, .slice At t.thn.length ct, .slice Ae t.els.length ce] 67)
          have HCK1 := Lib.hid (HCKr.out.below HBX.out)
          have rk1 : (0 : Int) ≤ k := by omega
          clear hbo hcell hbw hsc
          go_upto_region 16 with fail
          clear c0 c1 c2 c3 c4 c5 c6 c7 hlb
          generalize wr.alloc _ = W at HBX HRX HCK1 ⊢
          obtain ⟨x0, x1, x2, x3, hlv⟩ := HCK1.out.cells
          obtain ⟨⟨a0, a1, a2, a3, a4, a5, a6, a7⟩, _⟩ := HRX.out.eight
          have hlb := HRX.out.lt
          have HSM := Lib.hid (HCK1.out.sm.below (belowDrawnP (Below.refl _ W)))
          go_region_law (first
            | (refine step_del_S (by rfl) (.tmp 67) (.tmp 69) (by rfl) S nS' (scDel (scL l sc) l k) (by first | (simp [Act.eval]; done) | (simp [Act.eval, Act.put]; done)) HSM.out t.to (by first | (simp [Act.eval]; done) | (simp [Act.eval, Act.put]; done)) (by unfold maxLen; have := HFT.out; omega) ?_; intro w10 hsc10 hf10; rw [HDS.out] at hsc10; have HSC := Lib.hid hsc10; have HF10 := Lib.hid (hfr.out.trans (((Fr.of_below HBX.out (fun j => j = S)).trans (Fr.of_below (belowDrawnP (Below.refl _ W)) (fun j => j = S)) fun _ _ e => e).trans hf10 fun _ _ e => e) fun _ _ e => e); clear hsc10 hf10; dsimp only)
            | fail)
          all_goals
            go_wp2_with fail
            exact ⟨⟨k + 1, by omega, by go_num, HF10, HSC⟩, by simp [intOf]; omega⟩
        · obtain rfl : k = l.length := by omega
          rw [scDel_end HFS.out] at hsc
          have HE := Lib.hid (show RetBd W0 V L T S B lib tp nS nB sc (brB lib tp tn l sc bd) (bszL l) w (.returned (.bool true)) wr from ⟨by rw [HR.out]; rfl, HFR2.out.trans (hfr.out.mono fun j _ e => .inl e) fun _ _ e => e, fun bd' e => by
            rw [HR.out] at e
            cases e
            exact ⟨nS', nB', hnS, hnB, HCK2.out.scope hfr.out hsc.out⟩⟩)
          go_wp2_with fail
          go_ret
          exact HE.out

end Go.Proofs.YtcoeakdpcigogaaDoor
