/-
  The reference's Params, Strings, Binds, Same, of equal things.
  The reference's Binds and Same, of equal things.
-/
import Derived.Test.YtcoeakdpcigogaaDoorAnfVl4
import Derived.Test.YtcoeakdpcigogaaDoorAnfVl6
namespace Go.Proofs.YtcoeakdpcigogaaDoor
open Go.ChangeShapes Go.WideShapes Go.ChangeAt Go.RowKit Go.Sort Go.Maps

set_option maxRecDepth 100000 in
set_option maxHeartbeats 4000000 in
theorem rparams_same (l : List Pm) (A B : Option Addr) (c d : Nat) (w : World) (hA : PmsAt w A l) (hB : PmsAt w B l) (hl : l.length ≤ 1000000) :
    Calls Tryd.prog 29 #[.slice A l.length c, .slice B l.length d] w fun e w' => e = .returned (.bool true) ∧ Below w.heap.size w w' := by
  have HA := Lib.hid (And.intro hA hB)
  clear hA hB
  go_enter Tryd.func29, Tryd.ntmps29
  go_wp2_with fail
  go_loopw [5] (fun i wr => ∃ k : Nat, k ≤ l.length ∧ i = .int .i64 k ∧ Hid (Below w.heap.size w wr)) (fun i _ => l.length - (intOf i).toNat)
  case atStart => exact ⟨0, by omega, rfl, Lib.hid (Below.refl _ _)⟩
  case round =>
    obtain ⟨k, hk, rfl, hb⟩ := hrel
    by_cases hin : k < l.length
    · obtain ⟨b1, o1, rfl, c0, c1⟩ := (HA.out.1.mono hb.out).at_ hin
      obtain ⟨b2, o2, rfl, d0, d1⟩ := (HA.out.2.mono hb.out).at_ hin
      generalize l[k] = p at *
      have hl1 := block_lt_of_cell c0
      have hl2 := block_lt_of_cell d0
      have rk1 : (0 : Int) ≤ k := by omega
      have HB2 := Lib.hid (belowDrawnP hb.out)
      clear hb
      go_wp2_with fail
      go_region
      go_wp2_with fail
      exact ⟨⟨k + 1, by omega, by go_num, HB2⟩, by simp [intOf]; omega⟩
    · obtain rfl : k = l.length := by omega
      go_wp2_with fail
      go_ret
      exact ⟨rfl, hb.out⟩

set_option maxRecDepth 100000 in
set_option maxHeartbeats 4000000 in
theorem rstrings_same (l : List ByteArray) (A B : Option Addr) (c d : Nat) (w : World) (hA : StrsX w (fun _ => False) A l) (hB : StrsX w (fun _ => False) B l) (hl : l.length ≤ 100000000000000) :
    Calls Tryd.prog 51 #[.slice A l.length c, .slice B l.length d] w fun e w' => e = .returned (.bool true) ∧ Below w.heap.size w w' := by
  have HA := Lib.hid (And.intro hA hB)
  clear hA hB
  go_enter Tryd.func51, Tryd.ntmps51
  go_wp2_with fail
  go_loopw [5] (fun i wr => ∃ k : Nat, k ≤ l.length ∧ i = .int .i64 k ∧ Hid (Below w.heap.size w wr)) (fun i _ => l.length - (intOf i).toNat)
  case atStart => exact ⟨0, by omega, rfl, Lib.hid (Below.refl _ _)⟩
  case round =>
    obtain ⟨k, hk, rfl, hb⟩ := hrel
    by_cases hin : k < l.length
    · obtain ⟨b1, o1, rfl, _, c0⟩ := HA.out.1 k _ (List.getElem?_eq_getElem hin)
      obtain ⟨b2, o2, rfl, _, d0⟩ := HA.out.2 k _ (List.getElem?_eq_getElem hin)
      generalize l[k] = s at *
      have c1 := below_cell hb.out c0
      have d1 := below_cell hb.out d0
      have hl1 := block_lt_of_cell c1
      have hl2 := block_lt_of_cell d1
      have hse := strEq s s
      rw [decide_eq_true rfl] at hse
      have rk1 : (0 : Int) ≤ k := by omega
      have HB2 := Lib.hid (belowDrawnP hb.out)
      clear hb c0 d0
      go_wp2_with fail
      go_region
      go_wp2_with fail
      exact ⟨⟨k + 1, by omega, by go_num, HB2⟩, by simp [intOf]; omega⟩
    · obtain rfl : k = l.length := by omega
      go_wp2_with fail
      go_ret
      exact ⟨rfl, hb.out⟩

end Go.Proofs.YtcoeakdpcigogaaDoor

namespace Go.Proofs.YtcoeakdpcigogaaDoor
open Go.ChangeShapes Go.WideShapes Go.ChangeAt Go.RowKit Go.Sort Go.Maps

theorem Bx.ofSize {w : World} {n : Nat} {cs : Array Value} {T : TypeId} (h : w.heap.size = n) : Bx (w.alloc (Obj.cells cs T)) n cs := by subst h; exact bx_new w cs T
/-- Two boxes. -/
def TwoB (w w' : World) (P Q : Nat) (c1 c2 : Array Value) : Prop := Below w.heap.size w w' ∧ Bx w' P c1 ∧ Bx w' Q c2
theorem two_ab (w : World) (c1 c2 : Array Value) (T : TypeId) : TwoB w (((w.alloc (Obj.cells c1 T)).alloc (Obj.cells c2 T)).drew) w.heap.size (w.heap.size + 1) c1 c2 := by
  have b1 := below_box w (Obj.cells c1 T)
  have b2 := below_box (w.alloc (Obj.cells c1 T)) (Obj.cells c2 T)
  have b3 := belowDrawnP (Below.refl ((w.alloc (Obj.cells c1 T)).alloc (Obj.cells c2 T)).heap.size ((w.alloc (Obj.cells c1 T)).alloc (Obj.cells c2 T)))
  have h2 := below_step b1 b1.size b2
  exact ⟨below_step h2 h2.size b3, ((bx_new w c1 T).below b2).below b3, (Bx.ofSize (w := w.alloc (Obj.cells c1 T)) (by simp)).below b3⟩
theorem two_ba (w : World) (c1 c2 : Array Value) (T : TypeId) : TwoB w (((w.alloc (Obj.cells c2 T)).alloc (Obj.cells c1 T)).drew) (w.heap.size + 1) w.heap.size c1 c2 := by
  obtain ⟨h1, h2, h3⟩ := two_ab w c2 c1 T
  exact ⟨h1, h3, h2⟩
set_option maxRecDepth 100000 in
set_option maxHeartbeats 8000000 in
theorem rbinds_same : ∀ (N : Nat) (l : List Bd), bszL l < N → N ≤ 2000000 → (∀ y ∈ l, BdFit y) → ∀ (A B : Option Addr) (c d : Nat) (w : World), BdsX w (fun _ => False) A l → BdsX w (fun _ => False) B l →
    Calls Tryd.prog 30 #[.slice A l.length c, .slice B l.length d] w fun e w' => e = .returned (.bool true) ∧ Below w.heap.size w w' := by
  intro N
  induction N with
  | zero =>
    intro l hl; omega
  | succ N ih =>
    intro l hl hN hfit A B c d w hA hB
    have HFT := Lib.hid hfit
    have HA := Lib.hid (And.intro hA hB)
    have HIH := Lib.hid ih
    have hll := bszL_len l
    clear ih hA hB hfit
    go_enter Tryd.func30, Tryd.ntmps30
    go_wp2_with fail
    go_loopw [5] (fun i wr => ∃ k : Nat, k ≤ l.length ∧ i = .int .i64 k ∧ Hid (Below w.heap.size w wr)) (fun i _ => l.length - (intOf i).toNat)
    case atStart => exact ⟨0, by omega, rfl, Lib.hid (Below.refl _ _)⟩
    case round =>
      obtain ⟨k, hk, rfl, hb⟩ := hrel
      by_cases hin : k < l.length
      · have HTK := Lib.hid (bszL_step hin)
        have hbt := bszL_take l (k + 1)
        rw [HTK.out] at hbt
        obtain ⟨b1, o1, rfl, hbo1⟩ := HA.out.1 k _ (List.getElem?_eq_getElem hin)
        obtain ⟨b2, o2, rfl, hbo2⟩ := HA.out.2 k _ (List.getElem?_eq_getElem hin)
        have HFK := Lib.hid (HFT.out _ (List.getElem_mem hin)).facts
        generalize l[k] = t at *
        obtain ⟨cs1, ⟨Aa, ca, At, ct, Ae, ce, rfl, hS1, hT1, hE1⟩, _, hcell1⟩ := hbo1.open_
        obtain ⟨cs2, ⟨Ba, da, Bt, dt, Be, de, rfl, hS2, hT2, hE2⟩, _, hcell2⟩ := hbo2.open_
        have hz := bszT_eq t
        have HS := Lib.hid (And.intro hS1 hS2)
        have HT := Lib.hid (And.intro hT1 hT2)
        have HE := Lib.hid (And.intro hE1 hE2)
        have c0 := below_cell hb.out (hcell1 0 _ rfl)
        have c1 := below_cell hb.out (hcell1 1 _ rfl)
        have c2 := below_cell hb.out (hcell1 2 _ rfl)
        have c3 := below_cell hb.out (hcell1 3 _ rfl)
        have c4 := below_cell hb.out (hcell1 4 _ rfl)
        have c5 := below_cell hb.out (hcell1 5 _ rfl)
        have c6 := below_cell hb.out (hcell1 6 _ rfl)
        have c7 := below_cell hb.out (hcell1 7 _ rfl)
        have e0 := below_cell hb.out (hcell2 0 _ rfl)
        have e1 := below_cell hb.out (hcell2 1 _ rfl)
        have e2 := below_cell hb.out (hcell2 2 _ rfl)
        have e3 := below_cell hb.out (hcell2 3 _ rfl)
        have e4 := below_cell hb.out (hcell2 4 _ rfl)
        have e5 := below_cell hb.out (hcell2 5 _ rfl)
        have e6 := below_cell hb.out (hcell2 6 _ rfl)
        have e7 := below_cell hb.out (hcell2 7 _ rfl)
        rw [Nat.add_zero] at c0 e0
        have hl1 : b1 < wr.heap.size := block_lt_of_cell c0
        have hl2 : b2 < wr.heap.size := block_lt_of_cell e0
        have hl1' : b1 < wr.heap.size + 1 := by omega
        have hl2' : b2 < wr.heap.size + 1 := by omega
        have hl1'' : b1 < wr.heap.size + 1 + 1 := by omega
        have hl2'' : b2 < wr.heap.size + 1 + 1 := by omega
        have rk1 : (0 : Int) ≤ k := by omega
        clear hbo1 hbo2 hcell1 hcell2 hS1 hS2 hT1 hT2 hE1 hE2
        go_upto_region 6 with fail
        go_cut [6, 7] (fun p q wc => ∃ P Q : Nat, p = .pointer (some ⟨P, 0, none⟩) ∧ q = .pointer (some ⟨Q, 0, none⟩) ∧ Hid (TwoB wr wc P Q #[.string t.to, .bool t.list, .int .u8 t.op, .int .i64 t.num, .string t.name, .slice Aa t.args.length ca, .slice At t.thn.length ct, .slice Ae t.els.length ce] #[.string t.to, .bool t.list, .int .u8 t.op, .int .i64 t.num, .string t.name, .slice Ba t.args.length da, .slice Bt t.thn.length dt, .slice Be t.els.length de]))
        case first =>
          have SS := Lib.hid (fun (w' : World) (hb' : Below wr.heap.size wr w') => And.intro (below_cell hb' c0) (And.intro (below_cell hb' c1) (And.intro (below_cell hb' c2) (And.intro (below_cell hb' c3) (And.intro (below_cell hb' c4) (And.intro (below_cell hb' c5) (And.intro (below_cell hb' c6) (And.intro (below_cell hb' c7) (And.intro (below_cell hb' e0) (And.intro (below_cell hb' e1) (And.intro (below_cell hb' e2) (And.intro (below_cell hb' e3) (And.intro (below_cell hb' e4) (And.intro (below_cell hb' e5) (And.intro (below_cell hb' e6) (below_cell hb' e7))))))))))))))))
          have HBA := Lib.hid (fun (o : Obj) => below_step (belowDrawnP (Below.refl wr.heap.size wr)) (Nat.le_refl _) (below_box wr.drew o))
          have HBB := Lib.hid (fun (o o' : Obj) => below_step (below_step (belowDrawnP (Below.refl wr.heap.size wr)) (Nat.le_refl _) (below_box wr.drew o)) (by simp) (below_box (wr.drew.alloc o) o'))
          have HT1 := Lib.hid (fun c1 c2 => Lib.hid (two_ab wr c1 c2 92))
          have HT2 := Lib.hid (fun c1 c2 => Lib.hid (two_ba wr c1 c2 92))
          go_region_held3 (fun w' => w'.cell? ⟨b1, o1 + k * 8, none⟩ = some (.string t.to) ∧ w'.cell? ⟨b1, o1 + k * 8 + 1, none⟩ = some (.bool t.list) ∧ w'.cell? ⟨b1, o1 + k * 8 + 2, none⟩ = some (.int .u8 t.op) ∧ w'.cell? ⟨b1, o1 + k * 8 + 3, none⟩ = some (.int .i64 t.num) ∧ w'.cell? ⟨b1, o1 + k * 8 + 4, none⟩ = some (.string t.name) ∧ w'.cell? ⟨b1, o1 + k * 8 + 5, none⟩ = some (.slice Aa t.args.length ca) ∧ w'.cell? ⟨b1, o1 + k * 8 + 6, none⟩ = some (.slice At t.thn.length ct) ∧ w'.cell? ⟨b1, o1 + k * 8 + 7, none⟩ = some (.slice Ae t.els.length ce) ∧ w'.cell? ⟨b2, o2 + k * 8, none⟩ = some (.string t.to) ∧ w'.cell? ⟨b2, o2 + k * 8 + 1, none⟩ = some (.bool t.list) ∧ w'.cell? ⟨b2, o2 + k * 8 + 2, none⟩ = some (.int .u8 t.op) ∧ w'.cell? ⟨b2, o2 + k * 8 + 3, none⟩ = some (.int .i64 t.num) ∧ w'.cell? ⟨b2, o2 + k * 8 + 4, none⟩ = some (.string t.name) ∧ w'.cell? ⟨b2, o2 + k * 8 + 5, none⟩ = some (.slice Ba t.args.length da) ∧ w'.cell? ⟨b2, o2 + k * 8 + 6, none⟩ = some (.slice Bt t.thn.length dt) ∧ w'.cell? ⟨b2, o2 + k * 8 + 7, none⟩ = some (.slice Be t.els.length de)) (first | exact SS.out _ (belowDrawnP (Below.refl _ wr)) | exact SS.out _ (HBA.out _) | exact SS.out _ (HBB.out _ _)) (first | fail)
          all_goals
            go_wp2_with fail
            go_meet
            first
              | with_reducible exact ⟨_, _, rfl, rfl, HT1.out _ _⟩
              | with_reducible exact ⟨_, _, rfl, rfl, HT2.out _ _⟩
        case rest =>
          obtain ⟨P, Q, rfl, rfl, htw⟩ := hcut
          obtain ⟨W, rfl⟩ : ∃ y, y = wc := ⟨_, rfl⟩
          have HB := Lib.hid (below_step hb.out hb.out.size htw.out.1)
          have HXP := Lib.hid htw.out.2.1
          have HXQ := Lib.hid htw.out.2.2
          obtain ⟨⟨x0, x1, x2, x3, x4, x5, x6, x7⟩, _⟩ := HXP.out.eight
          obtain ⟨⟨y0, y1, y2, y3, y4, y5, y6, y7⟩, _⟩ := HXQ.out.eight
          have hlx := HXP.out.lt
          have hly := HXQ.out.lt
          clear htw hb c0 c1 c2 c3 c4 c5 c6 c7 e0 e1 e2 e3 e4 e5 e6 e7
          have hse1 := strEq t.to t.to
          have hse2 := strEq t.name t.name
          rw [decide_eq_true rfl] at hse1 hse2
          have HB1 := HB
          have HCS := Lib.hid (rstrings_same t.args Aa Ba ca da W (HS.out.1.le (Le.belowA HB1.out fun _ _ e => e)) (HS.out.2.le (Le.belowA HB1.out fun _ _ e => e)) HFK.out.2.2.2.1)
          have HCT := Lib.hid (fun (w' : World) (hb' : Below w.heap.size w w') => HIH.out t.thn (by omega) (by omega) HFK.out.2.2.2.2.1 At Bt ct dt w' (HT.out.1.le (Le.belowA hb' fun _ _ e => e)) (HT.out.2.le (Le.belowA hb' fun _ _ e => e)))
          have HCE := Lib.hid (fun (w' : World) (hb' : Below w.heap.size w w') => HIH.out t.els (by omega) (by omega) HFK.out.2.2.2.2.2 Ae Be ce de w' (HE.out.1.le (Le.belowA hb' fun _ _ e => e)) (HE.out.2.le (Le.belowA hb' fun _ _ e => e)))
          go_wp2_with fail
          refine HCS.out.mono ?_
          clear HCS x0 x1 x2 x3 x4 x5 y0 y1 y2 y3 y4 y5 x6 x7 y6 y7
          rintro e w5 ⟨rfl, hb5⟩
          have HB5 := Lib.hid (below_step HB.out HB.out.size hb5)
          have HXP5 := Lib.hid (HXP.out.below hb5)
          have HXQ5 := Lib.hid (HXQ.out.below hb5)
          obtain ⟨⟨x0, x1, x2, x3, x4, x5, x6, x7⟩, _⟩ := HXP5.out.eight
          obtain ⟨⟨y0, y1, y2, y3, y4, y5, y6, y7⟩, _⟩ := HXQ5.out.eight
          have hlx5 := HXP5.out.lt
          have hly5 := HXQ5.out.lt
          have HCT5 := Lib.hid (HCT.out w5 HB5.out)
          clear hb5
          go_wp2_with fail
          refine HCT5.out.mono ?_
          clear HCT5 x0 x1 x2 x3 x4 x5 y0 y1 y2 y3 y4 y5 x6 x7 y6 y7
          rintro e w6 ⟨rfl, hb6⟩
          have HB6 := Lib.hid (below_step HB5.out HB5.out.size hb6)
          have HXP6 := Lib.hid (HXP5.out.below hb6)
          have HXQ6 := Lib.hid (HXQ5.out.below hb6)
          obtain ⟨⟨x0, x1, x2, x3, x4, x5, x6, x7⟩, _⟩ := HXP6.out.eight
          obtain ⟨⟨y0, y1, y2, y3, y4, y5, y6, y7⟩, _⟩ := HXQ6.out.eight
          have hlx6 := HXP6.out.lt
          have hly6 := HXQ6.out.lt
          have HCE6 := Lib.hid (HCE.out w6 HB6.out)
          clear hb6
          go_wp2_with fail
          refine HCE6.out.mono ?_
          clear HCE6 x0 x1 x2 x3 x4 x5 y0 y1 y2 y3 y4 y5 x6 x7 y6 y7
          rintro e w7 ⟨rfl, hb7⟩
          have HB7 := Lib.hid (below_step HB6.out HB6.out.size hb7)
          clear hb7
          go_wp2_with fail
          exact ⟨⟨k + 1, by omega, by go_num, HB7⟩, by simp [intOf]; omega⟩
      · obtain rfl : k = l.length := by omega
        go_wp2_with fail
        go_ret
        exact ⟨rfl, hb.out⟩

set_option maxRecDepth 100000 in
set_option maxHeartbeats 8000000 in
theorem rsame_same (l : List Af) (A B : Option Addr) (c d : Nat) (w : World) (hA : AfsAt w A l) (hB : AfsAt w B l) (hfit : ∀ f ∈ l, AfFit f) (hl : l.length ≤ 1000000) :
    Calls Tryd.prog 13 #[.slice A l.length c, .slice B l.length d] w fun e w' => e = .returned (.bool true) ∧ Below w.heap.size w w' := by
  have HA := Lib.hid (And.intro hA hB)
  have HFT := Lib.hid hfit
  clear hA hB hfit
  go_enter Tryd.func13, Tryd.ntmps13
  go_wp2_with fail
  go_loopw [5] (fun i wr => ∃ k : Nat, k ≤ l.length ∧ i = .int .i64 k ∧ Hid (Below w.heap.size w wr)) (fun i _ => l.length - (intOf i).toNat)
  case atStart => exact ⟨0, by omega, rfl, Lib.hid (Below.refl _ _)⟩
  case round =>
    obtain ⟨k, hk, rfl, hb⟩ := hrel
    by_cases hin : k < l.length
    · obtain ⟨b1, o1, cs1, rfl, hc1, hcell1⟩ := HA.out.1 k _ (List.getElem?_eq_getElem hin)
      obtain ⟨b2, o2, cs2, rfl, hc2, hcell2⟩ := HA.out.2 k _ (List.getElem?_eq_getElem hin)
      have HFK := Lib.hid (HFT.out _ (List.getElem_mem hin))
      generalize l[k] = f at *
      obtain ⟨Ap, cp, At, ct, Ab, cb, rfl, hp1, ht1, hb1⟩ := hc1
      obtain ⟨Bp, dp, Bt, dt, Bb, db, rfl, hp2, ht2, hb2⟩ := hc2
      have HPT := Lib.hid (And.intro (And.intro hp1.1 hp2.1) (And.intro ht1.1 ht2.1))
      have HBB := Lib.hid (And.intro hb1 hb2)
      have HCE := Lib.hid (And.intro hcell1 hcell2)
      have hse1 := strEq f.name f.name
      have hse2 := strEq f.result f.result
      rw [decide_eq_true rfl] at hse1 hse2
      have rk1 : (0 : Int) ≤ k := by omega
      have HB := Lib.hid hb.out
      have HC1 := Lib.hid (fun (w' : World) (hb' : Below w.heap.size w w') => rparams_same f.params Ap Bp cp dp w' (HPT.out.1.1.mono hb') (HPT.out.1.2.mono hb') (by have := HFK.out.pl; omega))
      have HC2 := Lib.hid (fun (w' : World) (hb' : Below w.heap.size w w') => rparams_same f.temps At Bt ct dt w' (HPT.out.2.1.mono hb') (HPT.out.2.2.mono hb') (by have := HFK.out.tl; omega))
      have HC3 := Lib.hid (fun (w' : World) (hb' : Below w.heap.size w w') => rbinds_same 200000 f.body (by have := HFK.out.bl; omega) (by omega) HFK.out.bd Ab Bb cb db w' (HBB.out.1.le (Le.belowA hb' fun _ _ e => e)) (HBB.out.2.le (Le.belowA hb' fun _ _ e => e)))
      clear hcell1 hcell2 hp1 ht1 hb1 hp2 ht2 hb2 hb
      have HCA := Lib.hid (fun (w' : World) (hb' : Below w.heap.size w w') => And.intro (below_cell hb' (show w.cell? ⟨b1, o1 + k * 6, none⟩ = _ from HCE.out.1 0 _ rfl)) (And.intro (below_cell hb' (HCE.out.1 1 _ rfl)) (And.intro (below_cell hb' (HCE.out.1 2 _ rfl)) (And.intro (below_cell hb' (HCE.out.1 3 _ rfl)) (And.intro (below_cell hb' (HCE.out.1 4 _ rfl)) (below_cell hb' (HCE.out.1 5 _ rfl)))))))
      have HCB := Lib.hid (fun (w' : World) (hb' : Below w.heap.size w w') => And.intro (below_cell hb' (show w.cell? ⟨b2, o2 + k * 6, none⟩ = _ from HCE.out.2 0 _ rfl)) (And.intro (below_cell hb' (HCE.out.2 1 _ rfl)) (And.intro (below_cell hb' (HCE.out.2 2 _ rfl)) (And.intro (below_cell hb' (HCE.out.2 3 _ rfl)) (And.intro (below_cell hb' (HCE.out.2 4 _ rfl)) (below_cell hb' (HCE.out.2 5 _ rfl)))))))
      obtain ⟨c0, c1, c2, c3, c4, c5⟩ := HCA.out wr HB.out
      obtain ⟨d0, d1, d2, d3, d4, d5⟩ := HCB.out wr HB.out
      have hl1 := block_lt_of_cell c0
      have hl2 := block_lt_of_cell d0
      have g0 := cell_regrown c0
      have g1 := cell_regrown c1
      have g2 := cell_regrown c2
      have g3 := cell_regrown c3
      have g4 := cell_regrown c4
      have g5 := cell_regrown c5
      have e0 := cell_regrown d0
      have e1 := cell_regrown d1
      have e2 := cell_regrown d2
      have e3 := cell_regrown d3
      have e4 := cell_regrown d4
      have e5 := cell_regrown d5
      have HP1 := Lib.hid (fun (w' : World) (hb' : Below wr.heap.size wr w') => HC1.out w' (below_step HB.out HB.out.size hb'))
      have HP2 := Lib.hid (fun (w' : World) (hb' : Below wr.heap.size wr w') => HC2.out w' (below_step HB.out HB.out.size hb'))
      have HP3 := Lib.hid (fun (w' : World) (hb' : Below wr.heap.size wr w') => HC3.out w' (below_step HB.out HB.out.size hb'))
      clear HC1 HC2 HC3 HCA HCB
      go_wp2_with fail
      refine wp_region_quiet_below (by kernel_rfl) (by kernel_rfl) ?_
      repeat (first | go_big_quiet_step ((first | (go_at_call 29; first | with_reducible exact Calls.regrown_of (HP1.out _ (below_regrown _ _ _)) | with_reducible exact Calls.regrown_of (HP2.out _ (below_regrown _ _ _))) | (go_at_call 30; with_reducible exact Calls.regrown_of (HP3.out _ (below_regrown _ _ _))))) | quiet_step ((first | (go_at_call 29; first | with_reducible exact Calls.regrown_of (HP1.out _ (below_regrown _ _ _)) | with_reducible exact Calls.regrown_of (HP2.out _ (below_regrown _ _ _))) | (go_at_call 30; with_reducible exact Calls.regrown_of (HP3.out _ (below_regrown _ _ _))))))
      refine wpQuiet_nil ?_
      intro w3 hw'
      obtain ⟨⟨dq, osq⟩, hw''⟩ := hw'
      have hb3 := below_regrown wr dq osq
      rw [← hw''] at hb3
      clear hw''
      have HB7 := Lib.hid (below_step HB.out HB.out.size hb3)
      clear hb3
      go_wp2_with fail
      exact ⟨⟨k + 1, by omega, by go_num, HB7⟩, by simp [intOf]; omega⟩
    · obtain rfl : k = l.length := by omega
      go_wp2_with fail
      go_ret
      exact ⟨rfl, hb.out⟩

end Go.Proofs.YtcoeakdpcigogaaDoor
