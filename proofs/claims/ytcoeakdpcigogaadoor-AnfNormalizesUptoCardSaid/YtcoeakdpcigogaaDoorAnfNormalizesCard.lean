/-
  The reference's Normalize: plain parts.
  The reference's Normalize: the walk.
  The walk of the law AnfNormalizes.
  Proved here: for every input, the law AnfNormalizes of layer 38 returns true (Normalize returns the specified functions, or the error of fun.Valid), and its arguments read afterwards as before.
  Conditions: the row's own: what the arguments hold is of bulk at most 1048576, and the listed variables of Go's library are as their initialisers lay them (the card ties that to the program's text).
-/
import Derived.Test.YtcoeakdpcigogaaDoorAnfRA
import Derived.BigRegion
import Derived.Test.YtcoeakdpcigogaaDoorAnfLib
import Derived.Test.YtcoeakdpcigogaaDoorAnfPl
import Derived.Test.YtcoeakdpcigogaaDoorAnfOpen
namespace Go.Proofs.YtcoeakdpcigogaaDoor
open Go.ChangeShapes Go.WideShapes Go.ChangeAt Go.RowKit Go.Sort Go.Maps

/-- A function's parameters as the reference's variables. -/
def vrP (l : List Pm) : List Vr := l.map fun p => (p.name, p)
theorem lastE_vrP (l : List Pm) : lastE (vrP l) = envP l := by unfold lastE envP vrP; rw [List.foldl_map]
theorem vrP_len (l : List Pm) : (vrP l).length = l.length := by unfold vrP; simp
theorem vrP_snoc (l : List Pm) (p : Pm) : vrCs (vrP (l ++ [p])) = vrCs (vrP l) ++ [.string p.name, .string p.name, .bool p.list] := by
  unfold vrP
  rw [List.map_append, List.map_cons, List.map_nil, vrCs_snoc]; rfl
theorem tyE_P (l : List Pm) : TyE (envF l) (lastE (vrP l)) := fun s t ht => by
  rw [lastE_vrP]
  obtain ⟨e1, e2, e3⟩ := envs_P l s
  cases hp : envP l s with
  | none => rw [hp, ht] at e2; cases e2
  | some p => rw [hp, ht] at e2; exact ⟨p, rfl, by simpa using e2⟩
/-- What a valid library says of a function. -/
theorem valid_body {lib : List Fn1} (h : (validR lib).2 = 0) {i : Nat} {f : Fn1} (hf : lib[i]? = some f) : formT f.body = true ∧ chkT lib f.body (envF f.params) = (f.list, 0) ∧ f.params.length ≤ 8 ∧ sizeT f.body ≤ 2000 := by
  obtain ⟨_, _, _, h4, h5, _, h7, h8⟩ := one_facts (valid_facts h hf)
  obtain ⟨p1, p2, p3⟩ := pm_facts h4
  exact ⟨h5, h8, by omega, by omega⟩

/-- The temporaries' row lies in new memory. -/
theorem own_far {w : World} {base n m c sz b o : Nat} {e : TypeId} {cs : List Value} {A : Option Addr} (h : w.ownsRow base e sz (.slice A m c) n cs) (hA : A = some ⟨b, o, none⟩) : base ≤ b := by
  rcases id h.2 with ⟨e0, h0⟩ | ⟨g, cap, cur, e0, hg, hh, hc1, hc2, hc3, hc4⟩
  · cases e0; cases hA
  · cases e0; cases hA; exact hg
/-- A function's cells after its body was normalized. -/
theorem rn_made {w wq wr w6 : World} {G BT n k cp : Nat} {v u6 v6 : Value} {cs : List Value} {f : Fn1} {r : Nr} {Ap : Option Addr} (hbq : Below w.heap.size w wq) (ho : wq.ownsRow w.heap.size 72 6 v k cs) (hbr : Below wq.heap.size wq wr) (hG : wq.heap.size ≤ G) (hps : PmsAt w Ap f.params)
    (hg6 : GnAt w6 G BT r.ts u6) (hGB : wq.heap.size ≤ BT) (hBT : BT ≤ wr.heap.size) (hf6 : Fr wr w6 (Hs G (.slice none 0 0))) (hb6 : Bo w6 wr.heap.size G u6 v6 r.bs) (hn : n = wq.heap.size) :
    Below wq.heap.size wq w6 ∧ Fr wr w6 (fun k => k = G) ∧ ∃ At ct Ab cb, u6 = .slice At r.ts.length ct ∧ v6 = .slice Ab r.bs.length cb ∧ w6.cell? ⟨G, 0, none⟩ = some (.slice At r.ts.length ct) ∧ AfC w6 (fun k => v.ownBlock = some k) [.string f.name, .slice Ap f.params.length cp, .bool f.list, .slice At r.ts.length ct, .slice Ab r.bs.length cb, .string r.p.name] ⟨f.name, f.params, f.list, r.ts, r.bs, r.p.name⟩ := by
  have hmW : ∀ k, Hs G (.slice none 0 0) k → k = G := fun k e => e.elim id (fun q => by cases q)
  have hB6 : Below wq.heap.size wq w6 := hf6.toBelow hbr hbr.size fun k e => by have := hmW k e; omega
  have hBw6 : Below w.heap.size w w6 := below_step hbq hbq.size hB6
  obtain ⟨Ab, cb, rfl⟩ := hb6.form
  obtain ⟨At, ct, rfl, hpt⟩ := pms_of_own hg6.own
  have hq := hbq.size
  have hr := hbr.size
  have hown : ∀ k, v.ownBlock = some k → w.heap.size ≤ k ∧ k < wq.heap.size := fun k e => ⟨(own_ty ho k e).1, (ho.lt k e).2⟩
  refine ⟨hB6, hf6.mono fun k _ e => hmW k e, At, ct, Ab, cb, rfl, rfl, hg6.g.cell rfl, Ap, cp, At, ct, Ab, cb, rfl, ⟨hps.mono hBw6, fun b o e h0 hk => ?_⟩, ⟨hpt, fun b o e h0 hk => ?_⟩, ?_⟩
  · obtain ⟨b1, o1, e1, h1, _⟩ := hps 0 _ (List.getElem?_eq_getElem h0)
    rw [e] at e1
    cases e1
    have h7 : b < w.heap.size := block_lt_of_cell h1
    have := (hown b hk).1
    omega
  · have := own_far hg6.own e
    have := (hown b hk).2
    omega
  · exact hb6.bds (fun k _ e => .inl (by have := (hown k e).2; omega)) (hb6.far hg6 hBT)

end Go.Proofs.YtcoeakdpcigogaaDoor

namespace Go.Proofs.YtcoeakdpcigogaaDoor
open Go.ChangeShapes Go.WideShapes Go.ChangeAt Go.RowKit Go.Sort Go.Maps

/-- The variables so far. -/
def VrR (W wr : World) (v : Value) (n : Nat) (l : List Vr) : Prop := Below W.heap.size W wr ∧ wr.ownsRow W.heap.size 79 3 v n (vrCs l)
theorem VrR.start (W : World) : VrR W W (.slice none 0 0) 0 (vrP []) := ⟨Below.refl _ _, rfl, .inl ⟨rfl, rfl⟩⟩
theorem VrR.cel {W wr : World} {v : Value} {n G : Nat} {u : Value} {l : List Vr} (h : VrR W wr v n l) (hn : n = l.length) (hG : G < W.heap.size) (hu : u.ownBlock = none) : ∃ A c, v = .slice A n c ∧ CelX wr (Hs G u) A (vrCs l) := by
  obtain ⟨A, c, e, _, h2⟩ := rcells_own h.2 (by rw [vrCs_len, hn])
  exact ⟨A, c, e, fun j x hj => by
    obtain ⟨b, o, e1, h0, h1⟩ := h2 j x hj
    exact ⟨b, o, e1, fun q => q.elim (fun q => by omega) (fun q => by rw [hu] at q; cases q), h1⟩⟩
theorem VrR.push {W wr wm w9 : World} {v v' : Value} {n : Nat} {l l' : List Vr} {cs : List Value} (h : VrR W wr v n l) (hbm : Below wr.heap.size wr wm) (hown' : w9.ownsRow W.heap.size 79 3 v' (n + 1) cs) (hg : wm.grownBy w9 v.ownBlock) (he : cs = vrCs l') : VrR W w9 v' (n + 1) l' := by
  have hb := below_step h.1 h.1.size hbm
  exact ⟨hb.grown hg hb.size (fun j hj => (h.2.lt j hj).1), he ▸ hown'⟩
set_option maxRecDepth 100000 in
set_option maxHeartbeats 8000000 in
theorem rnorm_any {lib : List Fn1} (hv : (validR lib).2 = 0) (hl : lib.length ≤ 1000) {A : Option Addr} (cap : Nat) {w : World} (hL : LibAt w A lib) :
    Calls Tryd.prog 15 #[.slice A lib.length cap] w fun e w' => Below w.heap.size w w' ∧ ∃ A' c', e = .returned (.slice A' (normL lib).length c') ∧ AfsAt w' A' (normL lib) := by
  have HV := Lib.hid (fun (i : Nat) (f : Fn1) (hf : lib[i]? = some f) => valid_body hv hf)
  have HL := Lib.hid hL
  obtain ⟨i0, hi0, hz0, hz1, hz2⟩ := info_parts info_rf
  have HI := Lib.hid (And.intro hi0 (And.intro hz0 (And.intro hz1 hz2)))
  clear hi0 hz0 hz1 hz2
  obtain ⟨j0, hi0, hz0, hz1, hz2⟩ := info_parts info_rv38
  have HI2 := Lib.hid (And.intro hi0 (And.intro hz0 (And.intro hz1 hz2)))
  clear hi0 hz0 hz1 hz2 hv hL
  go_enter Tryd.func15, Tryd.ntmps15
  go_wp2_with fail
  go_loopw [3, 4] (fun v i wr => ∃ k : Nat, k ≤ lib.length ∧ i = .int .i64 k ∧ Hid (PlR w wr v ((normL lib).take k))) (fun _ i _ => lib.length - (intOf i).toNat)
  case atStart => exact ⟨0, by omega, rfl, Lib.hid (PlR.start w)⟩
  case round =>
    obtain ⟨k, hk, rfl, HR⟩ := hrel
    by_cases hin : k < lib.length
    · have HSTP0 := normL_step hin
      obtain ⟨f, hf, hfk⟩ : ∃ f, lib[k]? = some f ∧ lib[k] = f := ⟨_, List.getElem?_eq_getElem hin, rfl⟩
      rw [hfk] at HSTP0
      have HSTP := Lib.hid HSTP0
      clear HSTP0 hfk
      have hlen : ((normL lib).take k).length = k := by rw [List.length_take]; unfold normL; rw [List.length_map]; omega
      have HHL := Lib.hid hlen
      obtain ⟨hb0, cs0, ho0, hr0⟩ := HR.out
      rw [hlen] at ho0
      obtain ⟨Aq, cq, rfl, hcq, hqq⟩ := own_formB ho0
      have HO0 := Lib.hid ho0
      have HR0 := Lib.hid hr0
      clear hb0 ho0 hr0 hqq hlen
      obtain ⟨hfm, hchk, hp8, hz2⟩ := HV.out k f hf
      obtain ⟨b, o, rfl, hfo⟩ := HL.out k f hf
      have hfw := hfo.mono HR.out.1
      obtain ⟨Ap, cp, c1', hpa⟩ := hfo.ps
      have c1 := below_cell HR.out.1 c1'
      have HPW := Lib.hid hpa
      have HPA := Lib.hid (hpa.mono HR.out.1)
      clear hpa c1'
      have c0 := hfw.c0
      have c2 := hfw.c2
      obtain ⟨Ak, ck, d3, d4, d5, d6, hnd⟩ := hfo.body.open_
      have c3 := below_cell HR.out.1 d3
      have c4 := below_cell HR.out.1 d4
      have c5 := below_cell HR.out.1 d5
      have c6 := below_cell HR.out.1 d6
      have HND := Lib.hid hnd
      clear d3 d4 d5 d6 hnd
      have hlb := hfw.lt
      have r0 : (0 : Int) ≤ k := by omega
      have r1 : (k : Int) < lib.length := by omega
      clear hfw
      go_upto_region 6 with fail
      have HRX := Lib.hid (bx_new wr #[.string f.name, .slice Ap f.params.length cp, .bool f.list, .int .u8 f.body.kind, .int .i64 f.body.num, .string f.body.name, .slice Ak f.body.kids.length ck] 55)
      have HBX := Lib.hid (below_box wr (Obj.cells #[.string f.name, .slice Ap f.params.length cp, .bool f.list, .int .u8 f.body.kind, .int .i64 f.body.num, .string f.body.name, .slice Ak f.body.kids.length ck] 55))
      have hsz1 : (wr.alloc (Obj.cells #[.string f.name, .slice Ap f.params.length cp, .bool f.list, .int .u8 f.body.kind, .int .i64 f.body.num, .string f.body.name, .slice Ak f.body.kids.length ck] 55)).heap.size = wr.heap.size + 1 := by simp
      clear c0 c1 c2 c3 c4 c5 c6 hlb
      generalize wr.alloc _ = W1 at HRX HBX hsz1 ⊢
      have HGX := Lib.hid (bx_new W1 #[.slice none 0 0] 76)
      have HBG := Lib.hid (below_box W1 (Obj.cells #[.slice none 0 0] 76))
      have hsz2 : (W1.alloc (Obj.cells #[.slice none 0 0] 76)).heap.size = W1.heap.size + 1 := by simp
      go_upto_region 7 with fail
      generalize W1.alloc _ = W at HGX HBG hsz2 ⊢
      have HRX2 := Lib.hid (HRX.out.below HBG.out)
      have HBW := Lib.hid (below_step HBX.out HBX.out.size HBG.out)
      have HGN := Lib.hid (show GnAt W W1.heap.size W.heap.size [] (.slice none 0 0) from ⟨HGX.out, ⟨rfl, .inl ⟨rfl, rfl⟩⟩, by omega, Nat.le_refl _⟩)
      go_wp2_with fail
      obtain ⟨wq, rfl⟩ : ∃ y, y = wr := ⟨_, rfl⟩
      go_loopw [7, 8] (fun v i w2 => ∃ j : Nat, j ≤ f.params.length ∧ i = .int .i64 j ∧ Hid (VrR W w2 v j (vrP (f.params.take j)))) (fun _ i _ => f.params.length - (intOf i).toNat)
      case atStart => exact ⟨0, by omega, rfl, Lib.hid (VrR.start W)⟩
      case round =>
        obtain ⟨j, hj, rfl, HV2⟩ := hrel
        have HX2 := Lib.hid (HRX2.out.below HV2.out.1)
        by_cases hjn : j < f.params.length
        · obtain ⟨p, hp⟩ : ∃ p, f.params[j]? = some p := ⟨_, List.getElem?_eq_getElem hjn⟩
          have HBr2 := Lib.hid (below_step HBW.out HBW.out.size HV2.out.1)
          obtain ⟨pb, po, rfl, n0, n1⟩ := (HPA.out.mono HBr2.out) j p hp
          have HST := Lib.hid (show vrCs (vrP (f.params.take j)) ++ [.string p.name, .string p.name, .bool p.list] = vrCs (vrP (f.params.take (j + 1))) by
            obtain ⟨q1, q2⟩ := List.getElem?_eq_some_iff.1 hp
            rw [List.take_succ_eq_append_getElem q1, q2, vrP_snoc])
          obtain ⟨Av, cv, rfl, _, _⟩ := own_formB HV2.out.2
          have y1 : wr.cell? ⟨wq.heap.size, 1, none⟩ = some (.slice (some ⟨pb, po, none⟩) f.params.length cp) := HX2.out.cell rfl
          have hlt := HX2.out.lt
          have hlp := block_lt_of_cell n0
          have r2 : (0 : Int) ≤ j := by omega
          have r3 : (j : Int) < f.params.length := by omega
          have hbP := Below.refl wr.heap.size wr
          have HSZ := Lib.hid HV2.out.1.size
          have KS := Lib.hid (fun (Y : World) (hY : Below wr.heap.size wr Y) => show Y.cell? ⟨wq.heap.size, 1, none⟩ = some (.slice (some ⟨pb, po, none⟩) f.params.length cp) ∧ Y.cell? ⟨pb, po + j * 2, none⟩ = some (.string p.name) ∧ Y.cell? ⟨pb, po + j * 2 + 1, none⟩ = some (.bool p.list) from ⟨below_cell hY y1, below_cell hY n0, below_cell hY n1⟩)
          have KG := Lib.hid (fun (wm Y : World) (hm : Below wr.heap.size wr wm) (hg : wm.grownBy Y (Value.slice Av j cv).ownBlock) (hlx : ∀ g, (Value.slice Av j cv).ownBlock = some g → g ≠ wq.heap.size ∧ g ≠ pb) => show Y.cell? ⟨wq.heap.size, 1, none⟩ = some (.slice (some ⟨pb, po, none⟩) f.params.length cp) ∧ Y.cell? ⟨pb, po + j * 2, none⟩ = some (.string p.name) ∧ Y.cell? ⟨pb, po + j * 2 + 1, none⟩ = some (.bool p.list) from ⟨(Fr.of_grown hg).cell (below_cell hm y1) (fun e => (hlx _ e.symm).1 rfl), (Fr.of_grown hg).cell (below_cell hm n0) (fun e => (hlx _ e.symm).2 rfl), (Fr.of_grown hg).cell (below_cell hm n1) (fun e => (hlx _ e.symm).2 rfl)⟩)
          have hpw : pb < wq.heap.size := by
            obtain ⟨b1, o1, e1, h1, _⟩ := HPA.out j p hp
            cases e1
            exact block_lt_of_cell h1
          have HLX := Lib.hid (show ∀ g, (Value.slice Av j cv).ownBlock = some g → g ≠ wq.heap.size ∧ g ≠ pb from fun g hg => by
            have := (HV2.out.2.lt g hg).1
            constructor <;> omega)
          go_upto_region 11 with fail
          have HO := Lib.hid HV2.out.2
          have HPB := Lib.hid HV2
          go_region_held3 (fun w' => w'.cell? ⟨wq.heap.size, 1, none⟩ = some (.slice (some ⟨pb, po, none⟩) f.params.length cp) ∧ w'.cell? ⟨pb, po + j * 2, none⟩ = some (.string p.name) ∧ w'.cell? ⟨pb, po + j * 2 + 1, none⟩ = some (.bool p.list))
            (first | exact S9.out | (refine KS.out _ ?_; (repeat first | exact hbP | refine belowDrewRl ?_ | refine Below.alloc ?_ (by first | exact Nat.le_refl _ | exact hbP.size | simp) _); done))
            (first
            | (refine step_app _ (by rfl) (.tmp 30) (.tmp 50) 77 (by rfl) W.heap.size 79 j0 (.agg #[.string ⟨#[]⟩, .string ⟨#[]⟩, .bool false]) 3 40 Tryd.underlying77 HI2.out.1 HI2.out.2.1 HI2.out.2.2.1 HI2.out.2.2.2 rfl (by decide) (.slice Av j cv) j (vrCs (vrP (f.params.take j))) (by first | (simp [Act.eval]; done) | (simp [Act.eval, Act.put]; done)) (HO.out.alloc _) (some ⟨wr.heap.size, 0, none⟩) 1 1 [.string p.name, .string p.name, .bool p.list] (by first | (simp [Act.eval]; done) | (simp [Act.eval, Act.put]; done)) rfl (cells_newRl wr rfl [.string p.name, .string p.name, .bool p.list] _) (fun u hu => by simp at hu; rcases hu with rfl | rfl | rfl <;> rfl) (by unfold maxLen; omega) (by omega) (by simp; have := HSZ.out; omega) ?_; intro v' w9 hown' hgrow hat; obtain ⟨A9, c9, rfl, _, _⟩ := own_formB hown'; have S9 := Lib.hid (KG.out _ w9 (belowDrewRl (below_box wr _)) hgrow HLX.out); have HV9 := Lib.hid (VrR.push HPB.out.out (belowDrewRl (below_box wr _)) hown' hgrow HST.out); clear hown' hgrow hat)
            | fail)
          all_goals
            go_wp2_with fail
            exact ⟨⟨j + 1, by omega, by go_num, HV9⟩, by first | (simp [intOf]; done) | (simp [intOf]; omega)⟩
        · obtain rfl : j = f.params.length := by omega
          rw [List.take_length] at HV2
          obtain ⟨Av, cv, rfl, hcx⟩ := HV2.out.cel (G := W1.heap.size) (u := .slice none 0 0) (by rw [vrP_len]) (by omega) rfl
          have HWr := Lib.hid (below_step HBW.out HBW.out.size HV2.out.1)
          have HWw := Lib.hid (below_step HR.out.1 HR.out.1.size HWr.out)
          have HS0 := Lib.hid HR.out.1.size
          have hs0 := HS0.out
          have HPRE := Lib.hid (show RPre w wr W1.heap.size W.heap.size [] (.slice none 0 0) Av (vrP f.params) from ⟨HWw.out, HGN.out.below HV2.out.1, by omega, hcx⟩)
          have HREX1 : lib.length ≤ 9223372036854775807 := by omega
          have HREX2 : ∀ (N : Nat) (x : Nd), SizeOf.sizeOf x ≤ N → formT x = true → RexC w lib _ cap W1.heap.size W.heap.size x := rex_any HL.out HREX1
          have HREX : RexC w lib _ cap W1.heap.size W.heap.size f.body := HREX2 _ f.body (Nat.le_refl _) hfm
          have HCE0 := HREX (envF f.params) f.list (vrP f.params) [] (.slice none 0 0) wr Av Ak cv ck hchk (tyE_P _) HPRE.out HND.out (by simp; omega) (by rw [vrP_len]; omega)
          rw [vrP_len, lastE_vrP, hsz1] at HCE0
          have HCE := Lib.hid HCE0
          clear HCE0 HREX HPRE
          have y1 : wr.cell? ⟨wq.heap.size, 1, none⟩ = some (.slice Ap f.params.length cp) := HX2.out.cell rfl
          have y3 : wr.cell? ⟨wq.heap.size, 3, none⟩ = some (.int .u8 f.body.kind) := HX2.out.cell rfl
          have y4 : wr.cell? ⟨wq.heap.size, 4, none⟩ = some (.int .i64 f.body.num) := HX2.out.cell rfl
          have y5 : wr.cell? ⟨wq.heap.size, 5, none⟩ = some (.string f.body.name) := HX2.out.cell rfl
          have y6 : wr.cell? ⟨wq.heap.size, 6, none⟩ = some (.slice Ak f.body.kids.length ck) := HX2.out.cell rfl
          have hlt := HX2.out.lt
          have hsW := HV2.out.1.size
          have HNM := Lib.hid (show normF lib f = ⟨f.name, f.params, f.list, (nE lib f.body (envP f.params) []).ts, (nE lib f.body (envP f.params) []).bs, (nE lib f.body (envP f.params) []).p.name⟩ from rfl)
          generalize nE lib f.body (envP f.params) [] = r at HCE HNM
          have hd : decide ((f.params.length : Int) < f.params.length) = false := decide_eq_false (by omega)
          clear hchk hfm hp8 hz2 hcx
          go_upto_region 12 with fail
          go_wp2_with fail
          refine HCE.out.mono ?_
          clear HCE y1 y3 y4 y5 y6 hlt
          rintro e w6 ⟨u6, v6, rfl, hg6, hf6, hn6, hb6⟩
          obtain ⟨hB6, hF6, At6, ct6, Ab6, cb6, rfl, rfl, hcG, hac⟩ := rn_made (cp := cp) HR.out.1 HO0.out HWr.out (by omega) HPW.out hg6 (by omega) hsW hf6 hb6 rfl
          have HX6 := Lib.hid (HX2.out.fr hF6 (fun e => absurd (show wq.heap.size = wq.heap.size + 1 from e) (by omega)))
          have HB6 := Lib.hid hB6
          have HAC := Lib.hid hac
          have HO6 := Lib.hid (own_below (own_below HO0.out hB6) (below_box w6 (Obj.cells #[.string f.name, .slice Ap f.params.length cp, .bool f.list, .slice At6 r.ts.length ct6, .slice Ab6 r.bs.length cb6, .string r.p.name] 72)))
          have x0 : w6.cell? ⟨wq.heap.size, 0, none⟩ = some (.string f.name) := HX6.out.cell rfl
          have x1 : w6.cell? ⟨wq.heap.size, 1, none⟩ = some (.slice Ap f.params.length cp) := HX6.out.cell rfl
          have x2 : w6.cell? ⟨wq.heap.size, 2, none⟩ = some (.bool f.list) := HX6.out.cell rfl
          have hlx := HX6.out.lt
          have hlg := block_lt_of_cell hcG
          have hszs : w.heap.size ≤ w6.heap.size := by have := HR.out.1.size; have := hB6.size; omega
          clear hg6 hf6 hn6 hb6 hF6 hac hB6
          go_wp2_with (at_builtin; go_loud (refine wpList_app _ rfl _ _ 32 rfl w.heap.size 72 i0 (.agg #[.string ⟨#[]⟩, .slice none 0 0, .bool false, .slice none 0 0, .slice none 0 0, .string ⟨#[]⟩]) 6 112 Tryd.underlying32 HI.out.1 HI.out.2.1 HI.out.2.2.1 HI.out.2.2.2 rfl (by decide) (.slice Aq k cq) k cs0 rfl HO6.out (some ⟨w6.heap.size, 0, none⟩) 1 1 [.string f.name, .slice Ap f.params.length cp, .bool f.list, .slice At6 r.ts.length ct6, .slice Ab6 r.bs.length cb6, .string r.p.name] rfl rfl (cells_newC w6 rfl _ _) (fun u hu => by simp at hu; rcases hu with rfl | rfl | rfl | rfl | rfl | rfl <;> rfl) (by unfold maxLen; omega) (by omega) (by simp; omega) ?_; intro v' w9 hown' hgrow hat))
          have hpu := PlR.push (l := (normL lib).take k) HR.out.1 (by rw [HHL.out]; exact HO0.out) HR0.out HB6.out HAC.out (by rw [HHL.out]; exact hown') hgrow hat
          rw [← HNM.out, ← HSTP.out] at hpu
          exact ⟨⟨k + 1, by omega, by go_num, Lib.hid hpu⟩, by simp [intOf]; omega⟩
    · obtain rfl : k = lib.length := by omega
      have hnl : (normL lib).length = lib.length := by unfold normL; rw [List.length_map]
      rw [List.take_of_length_le (by omega)] at HR
      obtain ⟨A5, c5, rfl, h5⟩ := HR.out.done
      have HE := Lib.hid (show Below w.heap.size w wr ∧ ∃ A' c', Ending.returned (.slice A5 (normL lib).length c5) = .returned (.slice A' (normL lib).length c') ∧ AfsAt wr A' (normL lib) from ⟨HR.out.1, A5, c5, rfl, h5⟩)
      clear HR h5
      go_wp2_with fail
      go_ret
      exact HE.out

end Go.Proofs.YtcoeakdpcigogaaDoor

namespace Go.Proofs.YtcoeakdpcigogaaDoor
open Go.ChangeShapes Go.WideShapes Go.ChangeAt Go.RowKit Go.Sort Go.Maps

set_option maxRecDepth 100000 in
set_option maxHeartbeats 8000000 in
theorem law_normalizes {w : World} (lib : List Fn1) (A : Option Addr) (c : Nat) (hO : LibOp w A lib) :
    Calls Tryd.prog 3 #[.slice A lib.length c] w fun e w' => e = .returned (.bool true) ∧ Below w.heap.size w w' := by
  have HO := Lib.hid hO
  have HAW := Lib.hid (awake_any hO.W)
  clear hO
  go_enter Tryd.func3, Tryd.ntmps3
  go_wp2_with fail
  refine HAW.out.mono ?_
  clear HAW
  rintro e w1 ⟨rfl, hb1⟩
  have HB1 := Lib.hid hb1
  have HSM := Lib.hid ((HO.out.below hb1).small c)
  clear hb1
  go_wp2_with fail
  refine HSM.out.mono ?_
  clear HSM
  rintro e w3 ⟨rfl, hb2⟩
  have HB3 := Lib.hid (below_step HB1.out HB1.out.size hb2)
  clear hb2
  cases hsm : smallB lib with
  | false =>
    rw [oneB_f rfl]
    go_wp2_with fail
    go_ret
    exact ⟨rfl, HB3.out⟩
  | true =>
    rw [oneB_t rfl]
    have HSB := Lib.hid hsm
    have h8 := (small_facts hsm).1
    have HNA := Lib.hid (Normalize_cap (cap := c) (HO.out.W.below HB3.out) (HO.out.L.mono HB3.out) HO.out.F HO.out.P HO.out.N (by omega))
    have HVA := Lib.hid (fun (V : World) (hV : Below w3.heap.size w3 V) => valid_any lib A c V (HO.out.L.mono (below_step HB3.out HB3.out.size hV)) HO.out.F HO.out.P HO.out.N)
    clear hsm
    go_wp2_with fail
    refine HNA.out.mono ?_
    clear HNA
    rintro e w5 ⟨hb5, h5⟩
    have HB5 := Lib.hid (below_step HB3.out HB3.out.size hb5)
    have HC5 := Lib.hid (HVA.out w5 hb5)
    clear hb5 HVA
    rcases h5 with ⟨hv, rfl⟩ | ⟨hv, A5, c5, rfl, hc5, hA5⟩
    · have n1 : ((validR lib).2 != 0) = true := by simpa using hv
      have n2 : ((validR lib).2 == 0) = false := by simpa using hv
      clear hv
      generalize (validR lib).2 = v1 at *
      generalize (validR lib).1 = v0 at *
      go_wp2_with fail
      refine HC5.out.mono ?_
      clear HC5
      rintro e w7 ⟨rfl, hb7⟩
      have HB7 := Lib.hid (below_step HB5.out HB5.out.size hb7)
      clear hb7
      go_wp2_with fail
      go_ret
      exact ⟨rfl, HB7.out⟩
    · have HFT := Lib.hid (norm_fit HO.out.F HSB.out hv)
      have HLN := Lib.hid (normL_len lib)
      have HA5 := Lib.hid hA5
      have HRN := Lib.hid (fun (V : World) (hV : Below w.heap.size w V) => rnorm_any hv (by omega) c (HO.out.L.mono hV))
      rw [hv] at HC5
      clear hv hA5
      generalize (validR lib).1 = v0 at *
      go_wp2_with fail
      refine HC5.out.mono ?_
      clear HC5
      rintro e w7 ⟨rfl, hb7⟩
      have HB7 := Lib.hid (below_step HB5.out HB5.out.size hb7)
      have HA7 := Lib.hid (HA5.out.below hb7)
      clear hb7 HA5
      have hln : (normL lib).length = lib.length := HLN.out
      rw [← hln]
      rw [← hln] at HRN
      have hn8 : (normL lib).length ≤ 8 := by omega
      have HPX := Lib.hid (fun (V : World) (hV : Below w7.heap.size w7 V) => plain_any (normL lib) A5 c5 V (HA7.out.below hV) (fun g hg => by have := (HFT.out g hg).1.bl; omega) (by omega))
      have HSA := Lib.hid (fun (w' : World) (Aa Ab : Option Addr) (ca cb : Nat) (h1 : AfsAt w' Aa (normL lib)) (h2 : AfsAt w' Ab (normL lib)) => rsame_same (normL lib) Aa Ab ca cb w' h1 h2 (fun g hg => (HFT.out g hg).1) (by omega))
      have HRY := Lib.hid (fun (V : World) (hV : Below w7.heap.size w7 V) => HRN.out V (below_step HB7.out HB7.out.size hV))
      have HC1 := Lib.hid (HPX.out w7 (Below.refl _ w7))
      clear HRN HLN hln h8
      generalize normL lib = l at *
      go_wp2_with fail
      refine HC1.out.mono ?_
      clear HC1
      rintro e w8 ⟨hb8, Ax, cx, rfl, hax⟩
      have HC2 := Lib.hid (HRY.out w8 hb8)
      have HX8 := Lib.hid hax
      have HB8 := Lib.hid (below_step HB7.out HB7.out.size hb8)
      clear hb8 hax
      go_wp2_with fail
      refine HC2.out.mono ?_
      clear HC2
      rintro e w9 ⟨hb9, Ay, cy, rfl, hay⟩
      have HC3 := Lib.hid (HSA.out w9 Ax Ay cx cy (HX8.out.below hb9) hay)
      have HB9 := Lib.hid (below_step HB8.out HB8.out.size hb9)
      clear hb9 hay
      go_wp2_with fail
      refine HC3.out.mono ?_
      clear HC3
      rintro e w10 ⟨rfl, hb10⟩
      have HB10 := Lib.hid (below_step HB9.out HB9.out.size hb10)
      clear hb10
      go_wp2_with fail
      go_ret
      exact ⟨rfl, HB10.out⟩

end Go.Proofs.YtcoeakdpcigogaaDoor

namespace Go.Proofs.YtcoeakdpcigogaaDoor
open Go.ChangeShapes Go.WideShapes Go.ChangeAt Go.RowKit
open Go.ChangeMaps (open_string)

set_option maxRecDepth 100000 in
theorem contract_anfNormalizes (H : Type) (enc : TypeId × Value → H) (W : World) (base : Nat) (args : Array Value) (ds gs : List (DataW H)) (before : List MemPlace)
    (hval : ∀ (j : Nat) t v, Tryd.f3.params[j]? = some t → args[j]? = some v → Value.okWide Tryd.prog W .any base t v)
    (hW : DataW.Whole enc Tryd.prog Tryd.f3.params.toList Rows.anfNormalizesSpec.vars false W args.toList ds gs before) (hcond : Rows.uptoSmall H (ds ++ gs) = true) (hL : laidMetH Tryd.prog Rows.anfNormalizesUptoRow.laid W) :
    Calls Tryd.prog 3 args W fun e W' => ∃ v, e = .returned v ∧ Rows.anfNormalizesSpec.post enc Tryd.prog Tryd.f3 false true false false W args v W' := by
  have hW' := hW
  obtain ⟨p, q, hA0, hV, rfl, hfz, hnd⟩ := hW
  have hA : DataW.TrodAll enc Tryd.prog W 0 (fun _ => true) true Tryd.f3.params.toList args.toList ds p := hA0
  rw [Tryd.params3] at hA hval
  obtain ⟨v0, vs0, d0, ds0, p0, q0, hargs0, rfl, rfl, h0, r0⟩ := trodAll_cons hA
  obtain ⟨rfl, rfl, rfl⟩ := trodAll_nil r0
  obtain rfl : args = #[v0] := by cases args; simp_all
  obtain ⟨A0, lib0, c0, rfl, hL0, hF0, hX0⟩ := open_libM (hval 0 _ v0 rfl rfl) h0
  have hbk : Rows.uptoBulk d0 ≤ 1048576 := by
    simp only [Rows.uptoSmall, List.cons_append, Rows.uptoBulkAll, decide_eq_true_eq] at hcond
    omega
  exact law_post (tb := 4) laidOut (by kernel_rfl) (by kernel_rfl) Tryd.underlying4 rfl hW' ⟨rfl, rfl, rfl⟩
    (law_normalizes lib0 A0 c0 ⟨wld_of_laid hL, hL0, hF0, fun k f hk => by have := (hX0 k f hk).1; omega, fun k f hk => by have := (hX0 k f hk).2; omega⟩)

theorem laid_met_anfNormalizes (os : Os) : laidMet Tryd.prog Rows.anfNormalizesUptoRow.laid ((World.laidAll Tryd.prog os Rows.anfNormalizesUptoRow.laid).forCall (fun _ _ => 0) ⟨#[], #[.slice none 0 0], []⟩).memory :=
  laidMet_laidAll _ (by kernel_rfl) (by kernel_rfl)
theorem reads_anfNormalizes (os : Os) {H : Type} (enc : TypeId × Value → H) : ∃ places, DataW.whole enc Tryd.prog ((World.laidAll Tryd.prog os Rows.anfNormalizesUptoRow.laid).forCall (fun _ _ => 0) ⟨#[], #[.slice none 0 0], []⟩).memory Tryd.f3.params.toList Rows.anfNormalizesSpec.vars false (#[.slice none 0 0] : Array Value).toList 8 = some ([.nil], [], places) :=
  ⟨[], by kernel_rfl⟩

set_option maxRecDepth 100000 in
theorem lifted_anfNormalizes (os : Os) (started : os.Started) (H : Type) (enc : TypeId × Value → H) (F : Stop.Interp) :
    ReturnsInHanded {} Tryd.checked os 3 .any ((Rows.OpenSpec.upto Rows.anfNormalizesSpec).preRow enc Tryd.prog Tryd.f3 Rows.anfNormalizesUptoRow.domain false Rows.anfNormalizesUptoRow.laid) (((Rows.OpenSpec.upto Rows.anfNormalizesSpec).at F).post enc Tryd.prog Tryd.f3 false true false false) := by
  obtain ⟨places, hx⟩ := reads_anfNormalizes os enc
  refine returnsInHanded_of_row (C := Tryd.checked) (s := Rows.OpenSpec.upto Rows.anfNormalizesSpec) own started (by kernel_rfl) Tryd.func3
    (witness_row_atRef (enc := enc) (C := Tryd.checked) false (World.laidAll Tryd.prog os Rows.anfNormalizesUptoRow.laid) #[.slice none 0 0] (World.laidAll_os _ _ _) (by kernel_rfl) (by kernel_rfl) (by kernel_rfl)
      (OpenSpec.preRow_of_cond 8 hx (by kernel_rfl) (fun k hk => by cases hk; kernel_rfl) (by kernel_rfl) (by rw [MakeChecks.laidMetH_plain _ _ _ (by kernel_rfl)]; exact laid_met_anfNormalizes os))) ?_
  intro W base args ds gs before hval hW _ hcond _ hL _ _
  exact contract_anfNormalizes H enc W base args ds gs before hval hW (hcond _ rfl) hL

theorem said_anfNormalizes : Rows.AnfNormalizesUptoSaid :=
  OpenClaim.holds_of_cond 3 Tryd.f3 rfl rfl rfl rfl rfl rfl rfl ⟨rfl, rfl, rfl, rfl, rfl⟩ rfl rfl rfl rfl rfl (by kernel_rfl) Tryd.func3 (by kernel_rfl)
    (of_decide_eq_true (by kernel_rfl)) (by unfold Func.isWrapper; first | (rw [if_pos (by decide +kernel)]; kernel_rfl) | (rw [if_neg (by decide +kernel)]; exact ⟨rfl, rfl⟩))
    (fun os started H enc _ F => by rw [OpenClaim.pre_eq_preRow]; exact lifted_anfNormalizes os started H enc F)

theorem plain_anfNormalizes (f : FuncId) (fn : Func) (hf : Tryd.pinned.checked.prog.funcNamed "backstep/backsteplaw38.AnfNormalizes" = some f) (hfn : Tryd.pinned.checked.prog.funcs[f]? = some fn) :
    true = Tryd.pinned.checked.prog.looks [] ∧ ∀ (j : Nat) t, fn.params[j]? = some t → Tryd.pinned.checked.prog.wantsStandIn t = false := by
  obtain rfl : f = 3 := Option.some.inj ((show Tryd.prog.funcNamed "backstep/backsteplaw38.AnfNormalizes" = some 3 by kernel_rfl).symm.trans hf) |>.symm
  obtain rfl : fn = Tryd.f3 := (Option.some.inj (Tryd.func3.symm.trans hfn)).symm
  refine ⟨by kernel_rfl, fun j t ht => ?_⟩
  have hall : Tryd.f3.params.all (fun t => !Tryd.prog.wantsStandIn t) = true := by kernel_rfl
  have := Array.all_eq_true'.1 hall t (Array.mem_of_getElem? ht)
  exact (show Tryd.prog.wantsStandIn t = false by simpa using this)

/-- The card: the law's statement. -/
theorem card_anfNormalizes : Rows.AnfNormalizesUptoCardSaid :=
  Claim7.holds_tied_plain_at .later [] _ _ _ _ said_anfNormalizes (fun _ h => by cases h) (by kernel_rfl) (fun _ h => by cases h) anfNormalizesUpto_row_tie rfl ⟨rfl, rfl⟩ (by kernel_rfl) rfl plain_anfNormalizes (by kernel_rfl)

end Go.Proofs.YtcoeakdpcigogaaDoor
