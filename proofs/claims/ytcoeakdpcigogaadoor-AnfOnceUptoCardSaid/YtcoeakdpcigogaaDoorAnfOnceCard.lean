/-
  The law's called: it counts the calls of each function.
  The contracts of fun.Calls and of its closure: what it returns is new.
  The walk of the law AnfOnce.
  Proved here: for every input, the law AnfOnce of layer 38 returns true (in normalized functions every temporary is bound once, the arguments of a call are different temporaries, and there are as many calls of each function as in the original), and its arguments read afterwards as before.
  Conditions: the row's own: what the arguments hold is of bulk at most 1048576, and the listed variables of Go's library are as their initialisers lay them (the card ties that to the program's text).
-/
import Derived.Test.YtcoeakdpcigogaaDoorAnfSt2
import Derived.Test.YtcoeakdpcigogaaDoorAnfVl4
import Derived.Test.YtcoeakdpcigogaaDoorFunCheck
import Derived.Test.YtcoeakdpcigogaaDoorFunEq
import Derived.Test.YtcoeakdpcigogaaDoorAnfLib
import Derived.Laws.EntriesVeiled
import Derived.Maps.AppendAt
import Derived.OneCell
import Derived.StillTailTactics
import Derived.Lib.QuietBelow
import Derived.Test.YtcoeakdpcigogaaDoorAnfPl
import Derived.Test.YtcoeakdpcigogaaDoorAnfOpen
namespace Go.Proofs.YtcoeakdpcigogaaDoor
open Go.ChangeShapes Go.WideShapes Go.ChangeAt Go.RowKit Go.Sort Go.Maps

/-- The numbers of a slice of integers. -/
def arrC (n : Nat) (cnt : Nat → Int) : Array Value := ((List.range n).map fun k => Value.int .i64 (cnt k)).toArray
def CntA (w : World) (g n : Nat) (cnt : Nat → Int) : Prop := Bx w g (arrC n cnt)
theorem arrC_get {n : Nat} {cnt : Nat → Int} {j : Nat} (h : j < n) : (arrC n cnt)[j]? = some (.int .i64 (cnt j)) := by
  unfold arrC
  rw [List.getElem?_toArray, List.getElem?_map, List.getElem?_range h]; rfl
theorem CntA.get {w : World} {g n : Nat} {cnt : Nat → Int} (h : CntA w g n cnt) {j : Nat} (hj : j < n) : w.cell? ⟨g, j, none⟩ = some (.int .i64 (cnt j)) := Bx.cell h (arrC_get hj)
theorem arrC_set {n : Nat} {cnt : Nat → Int} {j : Nat} (x : Int) : (arrC n cnt).setIfInBounds j (.int .i64 x) = arrC n (fun k => if k = j then x else cnt k) := by
  apply Array.ext_getElem?
  intro i
  rw [Array.getElem?_setIfInBounds]
  by_cases hi : i < n
  · rw [arrC_get hi, arrC_get hi]
    by_cases e : j = i
    · rw [if_pos e, if_pos e.symm, if_pos (by unfold arrC; simp; omega)]
    · rw [if_neg e, if_neg (fun h => e h.symm)]
  · have h1 : (arrC n cnt)[i]? = none := by unfold arrC; simp; omega
    have h2 : (arrC n (fun k => if k = j then x else cnt k))[i]? = none := by unfold arrC; simp; omega
    rw [h1, h2]
    by_cases e : j = i
    · rw [if_pos e, if_neg (by unfold arrC; simp; omega)]
    · rw [if_neg e]
theorem CntA.set {w : World} {g n : Nat} {cnt : Nat → Int} (h : CntA w g n cnt) (j : Nat) (x : Int) : CntA (w.setCell ⟨g, j, none⟩ (.int .i64 x)) g n (fun k => if k = j then x else cnt k) := by
  have h2 := Bx.set h j (.int .i64 x)
  rw [arrC_set] at h2
  exact h2
theorem CntA.eq {w : World} {g n : Nat} {cnt cnt' : Nat → Int} (h : CntA w g n cnt) (he : ∀ k, k < n → cnt k = cnt' k) : CntA w g n cnt' := by
  unfold CntA at *
  rw [show arrC n cnt' = arrC n cnt by
    unfold arrC
    congr 1
    refine List.map_congr_left fun k hk => ?_
    rw [he k (List.mem_range.1 hk)]]
  exact h
mutual
theorem cnB_le (lib : List Fn1) (k : Nat) : ∀ b : Bd, cnB lib k b ≤ bszT b
  | .mk _ _ _ _ _ _ t e => by
    rw [cnB, bszT]
    have := cnL_le lib k t
    have := cnL_le lib k e
    split <;> omega
theorem cnL_le (lib : List Fn1) (k : Nat) : ∀ l : List Bd, cnL lib k l ≤ bszL l
  | [] => by rw [cnL]; omega
  | b :: r => by
    rw [cnL, bszL]
    have := cnB_le lib k b
    have := cnL_le lib k r
    omega
end
theorem nodup_ne {l : List ByteArray} (h : l.Nodup) {i j : Nat} (hi : i < l.length) (hj : j < i) : l[i] ≠ l[j]'(by omega) := fun e => by
  have := (List.pairwise_iff_getElem.1 h) j i (by omega) hi hj
  exact this e.symm

set_option maxRecDepth 100000 in
set_option maxHeartbeats 8000000 in
theorem called_any (lib : List Fn1) (AL : Option Addr) (cL : Nat) (hll : lib.length ≤ 1000) : ∀ (N : Nat) (l : List Bd), bszL l < N → N ≤ 2000000 → (∀ y ∈ l, OkC lib y ∧ BdFit y) → ∀ (A : Option Addr) (c : Nat) (W0 w : World) (g cg : Nat) (cnt : Nat → Int), BdsX W0 (fun _ => False) A l → LibAt W0 AL lib → Below W0.heap.size W0 w → W0.heap.size ≤ g → CntA w g lib.length cnt → (∀ k, 0 ≤ cnt k ∧ cnt k + bszL l ≤ 1000000000) →
    Calls Tryd.prog 23 #[.slice A l.length c, .slice AL lib.length cL, .slice (some ⟨g, 0, none⟩) lib.length cg] w fun e w' => e = .returned (.bool true) ∧ Fr w w' (fun k => k = g) ∧ CntA w' g lib.length (fun k => cnt k + cnL lib k l) := by
  intro N
  induction N with
  | zero =>
    intro l hl; omega
  | succ N ih =>
    intro l hl hN hok A c W0 w g cg cnt hA hL hb0 hg hC hbd
    have HOK := Lib.hid hok
    have HA := Lib.hid (And.intro hA hL)
    have HB0 := Lib.hid (And.intro hb0 hg)
    have HC := Lib.hid (And.intro hC hbd)
    have HIH := Lib.hid ih
    have hlz := bszL_len l
    have HLZ := Lib.hid (And.intro hl hN)
    have hl6 : l.length ≤ 2000000 := by omega
    clear ih hok hA hL hb0 hC hbd hl hN hlz
    go_enter Tryd.func23, Tryd.ntmps23
    go_wp2_with fail
    go_loopw [7] (fun i wr => ∃ k : Nat, k ≤ l.length ∧ i = .int .i64 k ∧ Hid (Fr w wr (fun j => j = g) ∧ CntA wr g lib.length (fun j => cnt j + cnL lib j (l.take k)))) (fun i _ => l.length - (intOf i).toNat)
    case atStart => exact ⟨0, by omega, rfl, Lib.hid ⟨Fr.refl _ _, HC.out.1.eq fun k _ => by rw [List.take_zero, cnL]; simp⟩⟩
    case round =>
      obtain ⟨k, hk, rfl, hrel⟩ := hrel
      have HRL := Lib.hid hrel.out
      have HBW := Lib.hid (hrel.out.1.toBelow HB0.out.1 HB0.out.1.size (fun k e => by have e' : k = g := e; have := HB0.out.2; omega))
      clear hrel
      by_cases hin : k < l.length
      · have HST := Lib.hid (fun j => cnL_step (lib := lib) (k := j) hin)
        have HTK := Lib.hid (bszL_step hin)
        have HBT := Lib.hid (bszL_take l (k + 1))
        have HCL := Lib.hid (fun j => cnL_le lib j (l.take k))
        obtain ⟨b, o, rfl, hbo⟩ := HA.out.1 k _ (List.getElem?_eq_getElem hin)
        have HOT := Lib.hid (HOK.out _ (List.getElem_mem hin))
        generalize l[k] = t at *
        obtain ⟨cs0, ⟨Aa, ca, At, ct, Ae, ce, rfl, hS, hT, hE⟩, _, hcell⟩ := hbo.open_
        have HCE := Lib.hid hcell
        have HTE := Lib.hid (And.intro hT hE)
        have HS := Lib.hid hS
        have hz := Lib.hid (bszT_eq t)
        have hkb : bszL (l.take k) + bszT t ≤ bszL l := by rw [← HTK.out]; exact HBT.out
        have HKB := Lib.hid hkb
        have HDD := Lib.hid (fun (w' : World) (hb' : Below W0.heap.size W0 w') => And.intro (below_cell hb' (hcell 2 _ rfl)) (And.intro (below_cell hb' (hcell 4 _ rfl)) (And.intro (below_cell hb' (hcell 5 _ rfl)) (And.intro (below_cell hb' (hcell 6 _ rfl)) (below_cell hb' (hcell 7 _ rfl))))))
        obtain ⟨d2, d4, d5, d6, d7⟩ := HDD.out wr HBW.out
        have hlb := block_lt_of_cell d2
        have rk1 : (0 : Int) ≤ k := by omega
        clear hbo hcell hS hT hE hkb
        go_upto_if 22 with fail
        go_cut [7] (fun i wc => i = .int .i64 k ∧ Hid (Fr wr wc (fun j => j = g) ∧ CntA wc g lib.length (fun j => cnt j + cnL lib j (l.take k) + if t.op = 85 ∧ findF lib t.name 0 = j then 1 else 0)))
        case first =>
          obtain ⟨wo, rfl⟩ : ∃ y, y = wr := ⟨_, rfl⟩
          by_cases h85 : t.op = 85
          · obtain ⟨hf0, hnd⟩ := HOT.out.1.facts.1 h85
            obtain ⟨p, hp⟩ : ∃ p : Nat, findF lib t.name 0 = p := ⟨(findF lib t.name 0).toNat, by omega⟩
            have hpn : p < lib.length := by
              rcases findF_range t.name lib 0 with e | ⟨i, i1, i2, _⟩
              · omega
              · rw [hp] at i2; omega
            have HFI := Lib.hid (find_any lib AL cL t.name wo (HA.out.2.mono HBW.out) (by omega))
            rw [hp] at HFI
            have HND := Lib.hid hnd
            have HP := Lib.hid hp
            have H85 := Lib.hid h85
            have t85 : ((t.op : Int) == 85) = true := by rw [h85]; rfl
            have rp0 : (0 : Int) ≤ p := by omega
            have rp1 : (p : Int) < lib.length := by omega
            have qq1 : decide (lib.length ≤ p) = false := decide_eq_false (by omega)
            have qq0 : decide ((p : Int) < 0) = false := decide_eq_false (by omega)
            clear h85 hf0 hnd hp
            go_wp2_with fail
            refine HFI.out.mono ?_
            clear HFI d2 d4 d5 d6 d7 hlb t85
            rintro e w2 ⟨rfl, hb2⟩
            have HR2 := Lib.hid (And.intro hb2 (Bx.below HRL.out.2 hb2))
            have HBW2 := Lib.hid (below_step HBW.out HBW.out.size hb2)
            have dg := CntA.get (show CntA w2 g lib.length _ from HR2.out.2) hpn
            have fg := Bx.free HR2.out.2 p
            have hlg := block_lt_of_cell dg
            have hcb := HCL.out p
            have hcc := HC.out.2 p
            have hzz := HKB.out
            have hwr : IntKind.i64.wrap (cnt p + (cnL lib p (l.take k) : Int) + 1) = cnt p + cnL lib p (l.take k) + 1 := by rw [IntKind.wrap_i64] <;> (have := bszT_eq t; omega)
            have HW3 := Lib.hid (show Fr wo (w2.setCell ⟨g, p, none⟩ (.int .i64 (cnt p + cnL lib p (l.take k) + 1))) (fun j => j = g) ∧ CntA (w2.setCell ⟨g, p, none⟩ (.int .i64 (cnt p + cnL lib p (l.take k) + 1))) g lib.length (fun j => cnt j + cnL lib j (l.take k) + if t.op = 85 ∧ findF lib t.name 0 = j then 1 else 0) from
              ⟨(Fr.of_below hb2 _).trans (Fr.of_set w2 ⟨g, p, none⟩ _) fun j _ e => e, (CntA.set (show CntA w2 g lib.length _ from HR2.out.2) p _).eq fun j _ => by
                by_cases e : j = p
                · rw [if_pos e, if_pos ⟨H85.out, by rw [HP.out, e]⟩, e]
                · rw [if_neg e, if_neg (fun h => e (by have := h.2; rw [HP.out] at this; omega))]; omega⟩)
            clear hb2 hcb hcc hzz HR2
            go_upto_region 9 with fail
            clear dg fg hlg hwr
            generalize World.setCell _ _ _ = w3 at HW3 ⊢
            have HBW3 := Lib.hid (show Below W0.heap.size W0 w3 from HW3.out.1.toBelow HBW.out HBW.out.size (fun k e => by have e' : k = g := e; have := HB0.out.2; omega))
            have hal := HOT.out.2.facts.2.2.2.1
            go_wp2_with fail
            go_loopw [9, 10] (fun i _ wi => ∃ a : Nat, a ≤ t.args.length ∧ i = .int .i64 a ∧ Hid (Below w3.heap.size w3 wi)) (fun i _ _ => t.args.length - (intOf i).toNat)
            case atStart => exact ⟨0, by omega, rfl, Lib.hid (Below.refl _ _)⟩
            case round =>
              obtain ⟨a, ha, rfl, hbe⟩ := hrel
              have HBE := Lib.hid hbe.out
              clear hbe
              obtain ⟨wa, rfl⟩ : ∃ y, y = wr := ⟨_, rfl⟩
              have HBA := Lib.hid (below_step HBW3.out HBW3.out.size HBE.out)
              by_cases hia : a < t.args.length
              · obtain ⟨_, _, d5, _⟩ := HDD.out wa HBA.out
                have hlb := block_lt_of_cell d5
                obtain ⟨ba, oa, rfl, _, ga⟩ := HS.out a _ (List.getElem?_eq_getElem hia)
                have ra0 : (0 : Int) ≤ a := by omega
                have ra1 : (a : Int) < t.args.length := by omega
                have hlen5 : t.args.length ≤ 100000000000000 := hal
                go_wp2_with fail
                clear d5 hlb
                go_loopw [10] (fun i wi => ∃ q : Nat, q ≤ a ∧ i = .int .i64 q ∧ Hid (Below wa.heap.size wa wi)) (fun i _ => a - (intOf i).toNat)
                case atStart => exact ⟨0, by omega, rfl, Lib.hid (Below.refl _ _)⟩
                case round =>
                  obtain ⟨q, hq, rfl, hbq⟩ := hrel
                  have HBQ := Lib.hid (below_step HBE.out HBE.out.size hbq.out)
                  have HBQ0 := Lib.hid (below_step HBA.out HBA.out.size hbq.out)
                  have HBQ1 := Lib.hid (belowDrawnP hbq.out)
                  clear hbq
                  by_cases hiq : q < a
                  · obtain ⟨bq, oq, e, _, gq⟩ := HS.out q _ (List.getElem?_eq_getElem (by omega : q < t.args.length))
                    cases e
                    obtain ⟨_, _, d5, _⟩ := HDD.out wr HBQ0.out
                    have g1 := below_cell HBQ0.out ga
                    have g2 := below_cell HBQ0.out gq
                    have hne := nodup_ne HND.out hia hiq
                    have hse := strEq t.args[a] (t.args[q]'(by omega))
                    rw [decide_eq_false hne] at hse
                    generalize t.args[a] = sa at *
                    generalize t.args[q] = sq at *
                    have hl5 := block_lt_of_cell d5
                    have hlg1 := block_lt_of_cell g1
                    have rq0 : (0 : Int) ≤ q := by omega
                    have rq1 : (q : Int) < t.args.length := by omega
                    clear gq hne
                    go_wp2_with fail
                    go_region
                    go_wp2_with fail
                    exact ⟨⟨q + 1, by omega, by go_num, HBQ1⟩, by simp [intOf]; omega⟩
                  · obtain rfl : q = a := by omega
                    go_wp2_with fail
                    exact ⟨⟨q + 1, by omega, by go_num, HBQ⟩, by simp [intOf]; omega⟩
              · obtain rfl : a = t.args.length := by omega
                obtain ⟨_, _, d5, _⟩ := HDD.out wa HBA.out
                have hlb := block_lt_of_cell d5
                have HE := Lib.hid (And.intro (HW3.out.1.trans (Fr.of_below HBE.out (fun j => j = g)) fun _ _ e => e) (Bx.below HW3.out.2 HBE.out))
                go_wp2_with fail
                go_meet
                exact ⟨rfl, HE⟩
          · have t85 : ((t.op : Int) == 85) = false := beq_eq_false_iff_ne.2 (by omega)
            have HE := Lib.hid (And.intro (Fr.refl wo (fun j => j = g)) (CntA.eq HRL.out.2 (cnt' := fun j => cnt j + cnL lib j (l.take k) + if t.op = 85 ∧ findF lib t.name 0 = j then 1 else 0) fun j _ => by rw [if_neg (fun e => h85 e.1)]; omega))
            clear h85
            go_wp2_with fail
            go_meet
            exact ⟨rfl, HE⟩
        case rest =>
          obtain ⟨rfl, hcw⟩ := hcut
          obtain ⟨wx, rfl⟩ : ∃ y, y = wc := ⟨_, rfl⟩
          have HCX := Lib.hid hcw.out
          have HFX := Lib.hid (HRL.out.1.trans hcw.out.1 fun j _ e => e)
          have HBX := Lib.hid (hcw.out.1.toBelow HBW.out HBW.out.size (fun k e => by have e' : k = g := e; have := HB0.out.2; omega))
          have hn1 : bszL t.thn < N := by have := hz.out; have := HKB.out; have := HLZ.out.1; omega
          have hn2 : bszL t.els < N := by have := hz.out; have := HKB.out; have := HLZ.out.1; omega
          have hn3 : N ≤ 2000000 := by have := HLZ.out.2; omega
          have hite : ∀ j : Nat, (if t.op = 85 ∧ findF lib t.name 0 = j then (1 : Int) else 0) = 1 ∨ (if t.op = 85 ∧ findF lib t.name 0 = j then (1 : Int) else 0) = 0 := fun j => by
            by_cases e : t.op = 85 ∧ findF lib t.name 0 = j
            · rw [if_pos e]; exact .inl rfl
            · rw [if_neg e]; exact .inr rfl
          have HC1 := Lib.hid (HIH.out t.thn hn1 hn3 (fun y hy => ⟨HOT.out.1.facts.2.1 y hy, HOT.out.2.facts.2.2.2.2.1 y hy⟩) At ct W0 wx g cg (fun j => cnt j + cnL lib j (l.take k) + if t.op = 85 ∧ findF lib t.name 0 = j then 1 else 0) HTE.out.1 HA.out.2 HBX.out HB0.out.2 HCX.out.2 (fun j => by
            have h1 := HC.out.2 j
            have h2 := HCL.out j
            have h3 := hz.out
            have h4 := HKB.out
            rcases hite j with e | e <;> (rw [e]; omega)))
          have HC2 := Lib.hid (fun (w5 : World) (hb5 : Below W0.heap.size W0 w5) (h5 : CntA w5 g lib.length (fun j => (cnt j + cnL lib j (l.take k) + if t.op = 85 ∧ findF lib t.name 0 = j then 1 else 0) + cnL lib j t.thn)) => HIH.out t.els hn2 hn3 (fun y hy => ⟨HOT.out.1.facts.2.2 y hy, HOT.out.2.facts.2.2.2.2.2 y hy⟩) Ae ce W0 w5 g cg _ HTE.out.2 HA.out.2 hb5 HB0.out.2 h5 (fun j => by
            have h1 := HC.out.2 j
            have h2 := HCL.out j
            have h3 := hz.out
            have h4 := HKB.out
            have h5 := cnL_le lib j t.thn
            rcases hite j with e | e <;> (rw [e]; omega)))
          clear hcw hite hn1 hn2 hn3 d2 d4 d5 d6 d7 hlb
          obtain ⟨d2, d4, d5, d6, d7⟩ := HDD.out wx HBX.out
          have hlb := block_lt_of_cell d2
          go_wp2_with fail
          refine HC1.out.mono ?_
          clear HC1 d2 d4 d5 d6 d7 hlb
          rintro e w5 ⟨rfl, hf5, hc5⟩
          have HB5 := Lib.hid (hf5.toBelow HBX.out HBX.out.size (fun k e => by have e' : k = g := e; have := HB0.out.2; omega))
          have HF5 := Lib.hid (HFX.out.trans hf5 fun j _ e => e)
          have HC5 := Lib.hid (HC2.out w5 HB5.out hc5)
          obtain ⟨d2, d4, d5, d6, d7⟩ := HDD.out w5 HB5.out
          have hlb := block_lt_of_cell d2
          clear hf5 hc5 HC2
          go_wp2_with fail
          refine HC5.out.mono ?_
          clear HC5 d2 d4 d5 d6 d7 hlb
          rintro e w6 ⟨rfl, hf6, hc6⟩
          have HE := Lib.hid (show Fr w w6 (fun j => j = g) ∧ CntA w6 g lib.length (fun j => cnt j + cnL lib j (l.take (k + 1))) from ⟨HF5.out.trans hf6 fun j _ e => e, hc6.eq fun j _ => by
            rw [HST.out j, cnB_eq]
            by_cases e : t.op = 85 ∧ findF lib t.name 0 = j
            · rw [if_pos e, if_pos e]; omega
            · rw [if_neg e, if_neg e]; omega⟩)
          clear hf6 hc6
          go_wp2_with fail
          exact ⟨⟨k + 1, by omega, by go_num, HE⟩, by simp [intOf]; omega⟩
      · obtain rfl : k = l.length := by omega
        rw [List.take_length] at HRL
        go_wp2_with fail
        go_ret
        exact ⟨rfl, HRL.out.1, HRL.out.2⟩

end Go.Proofs.YtcoeakdpcigogaaDoor

namespace Go.Proofs.YtcoeakdpcigogaaDoor
open Go.ChangeShapes Go.WideShapes Go.ChangeAt Go.RowKit Go.Sort

/-- From w to w' only block bL and v's own row have turned, and new blocks have come. -/
structure Gr (w w' : World) (bL : Nat) (v v' : Value) : Prop where
  os : w'.os = w.os
  tape : w'.tape = w.tape
  output : w'.output = w.output
  size : w.heap.size ≤ w'.heap.size
  block : ∀ k, k < w.heap.size → k ≠ bL → some k ≠ v.ownBlock → w'.heap[k]? = w.heap[k]?
  at_ : v'.ownBlock = v.ownBlock ∨ ∃ g, v'.ownBlock = some g ∧ w.heap.size ≤ g
theorem Gr.refl (w : World) (bL : Nat) (v : Value) : Gr w w bL v v := ⟨rfl, rfl, rfl, Nat.le_refl _, fun _ _ _ _ => rfl, .inl rfl⟩
theorem Gr.trans {w w1 w2 : World} {bL : Nat} {v v1 v2 : Value} (h : Gr w w1 bL v v1) (h2 : Gr w1 w2 bL v1 v2) : Gr w w2 bL v v2 := by
  refine ⟨h2.os.trans h.os, h2.tape.trans h.tape, h2.output.trans h.output, Nat.le_trans h.size h2.size, fun k hk h1 hne => ?_, ?_⟩
  · refine (h2.block k (Nat.lt_of_lt_of_le hk h.size) h1 ?_).trans (h.block k hk h1 hne)
    rcases h.at_ with e | ⟨g, e, hg⟩
    · rw [e]; exact hne
    · rw [e]; intro e'; have := Option.some.inj e'; omega
  · rcases h2.at_ with e | ⟨g, e, hg⟩
    · rw [e]; exact h.at_
    · exact .inr ⟨g, e, Nat.le_trans h.size hg⟩
theorem Gr.of_below {w w' : World} (h : Below w.heap.size w w') (bL : Nat) (v : Value) : Gr w w' bL v v :=
  ⟨h.os, h.tape, h.output, h.size, fun k hk _ _ => h.block k hk, .inl rfl⟩
theorem Gr.cell {w w' : World} {bL : Nat} {v v' : Value} (h : Gr w w' bL v v') {a : Addr} {u : Value} (hc : w.cell? a = some u) (h1 : a.block ≠ bL) (h2 : some a.block ≠ v.ownBlock) : w'.cell? a = some u := by
  rw [World.cell?_of_block (h.block a.block (block_lt_of_cell hc) h1 h2)]; exact hc
theorem Gr.below {W0 w w' : World} {bL : Nat} {v v' : Value} (h : Gr w w' bL v v') (hb : Below W0.heap.size W0 w) (h1 : W0.heap.size ≤ bL) (h2 : ∀ g, v.ownBlock = some g → W0.heap.size ≤ g) : Below W0.heap.size W0 w' :=
  ⟨h.os.trans hb.os, h.tape.trans hb.tape, h.output.trans hb.output, Nat.le_trans hb.size h.size, fun k hk => by
    rw [h.block k (Nat.lt_of_lt_of_le hk hb.size) (by omega) (fun e => by have := h2 k e.symm; omega)]; exact hb.block k hk⟩

/-- What the closure finds. -/
structure ClAt (W0 w : World) (A : Option Addr) (cap : Nat) (lib : List Fn1) (bl bL bf base : Nat) : Prop where
  hb : Below W0.heap.size W0 w
  cl : w.cell? ⟨bl, 0, none⟩ = some (.slice A lib.length cap)
  cf : w.cell? ⟨bf, 0, none⟩ = some (.func (.func 39) #[] #[.pointer (some ⟨bl, 0, none⟩), .pointer (some ⟨bL, 0, none⟩), .pointer (some ⟨bf, 0, none⟩)])
  n1 : bl ≠ bL
  n2 : bf ≠ bL
  l1 : bl < base
  l2 : bf < base
  l3 : bL < base
  g1 : W0.heap.size ≤ bL
  g2 : W0.heap.size ≤ base
  g3 : base ≤ w.heap.size
/-- The numbers collected so far. -/
structure IntsB (w : World) (bL base : Nat) (v : Value) (acc : List Int) : Prop where
  one : w.heap[bL]? = some (.cells #[v] 44 (0, 0))
  own : w.ownsRow base 3 1 v acc.length (acc.map (Value.int .i64))
theorem IntsB.below {w w' : World} {bL base : Nat} {v : Value} {acc : List Int} (h : IntsB w bL base v acc) (hb : Below w.heap.size w w') : IntsB w' bL base v acc :=
  ⟨by rw [hb.block bL (lt_of_block h.one)]; exact h.one, h.own.kept (row := none) (grown_of_below hb none) (by cases v.ownBlock <;> simp)⟩
theorem IntsB.ge {w : World} {bL base : Nat} {v : Value} {acc : List Int} (h : IntsB w bL base v acc) : ∀ g, v.ownBlock = some g → base ≤ g ∧ g < w.heap.size := h.own.lt
theorem ClAt.gr {W0 w w' : World} {A : Option Addr} {cap : Nat} {lib : List Fn1} {bl bL bf base : Nat} {v v' : Value} {acc : List Int} (h : ClAt W0 w A cap lib bl bL bf base) (hi : IntsB w bL base v acc) (hg : Gr w w' bL v v') : ClAt W0 w' A cap lib bl bL bf base :=
  ⟨hg.below h.hb h.g1 (fun g e => Nat.le_trans h.g2 (hi.ge g e).1), hg.cell h.cl h.n1 (fun e => by have h1 := (hi.ge _ e.symm).1; have h2 := h.l1; simp at h1; omega), hg.cell h.cf h.n2 (fun e => by have h1 := (hi.ge _ e.symm).1; have h2 := h.l2; simp at h1; omega), h.n1, h.n2, h.l1, h.l2, h.l3, h.g1, h.g2, Nat.le_trans h.g3 hg.size⟩
theorem ClAt.below {W0 w w' : World} {A : Option Addr} {cap : Nat} {lib : List Fn1} {bl bL bf base : Nat} (h : ClAt W0 w A cap lib bl bL bf base) (hb : Below w.heap.size w w') : ClAt W0 w' A cap lib bl bL bf base :=
  ⟨below_step h.hb h.hb.size hb, below_cell hb h.cl, below_cell hb h.cf, h.n1, h.n2, h.l1, h.l2, h.l3, h.g1, h.g2, Nat.le_trans h.g3 hb.size⟩

theorem ints_grown {w1 w6 : World} {bL base : Nat} {v : Value} {acc : List Int} {o : Obj} (hI : IntsB w1 bL base v acc) (hL : bL < base) (hgrow : (w1.alloc o).grownBy w6 v.ownBlock) : w6.heap[bL]? = some (.cells #[v] 44 (0, 0)) := by
  have hlt := lt_of_block hI.one
  rw [hgrow.block bL (by simp; omega) (fun e => by have := (hI.ge _ e.symm).1; omega), Below.heap_alloc _ _ _ hlt]
  exact hI.one
theorem ints_push {w1 w6 : World} {bL base : Nat} {v v' : Value} {acc : List Int} {o : Obj} {fi : Int} (hI : IntsB w1 bL base v acc) (hL : bL < base) (hgrow : (w1.alloc o).grownBy w6 v.ownBlock)
    (hown' : w6.ownsRow base 3 1 v' (acc.length + 1) (acc.map (Value.int .i64) ++ [.int .i64 fi])) (hat : v'.ownBlock = v.ownBlock ∨ v'.ownBlock = some (w1.alloc o).heap.size) :
    Gr w1 (w6.setCell ⟨bL, 0, none⟩ v') bL v v' ∧ IntsB (w6.setCell ⟨bL, 0, none⟩ v') bL base v' (acc ++ [fi]) := by
  have h6 := ints_grown hI hL hgrow
  have hsz := hgrow.size
  simp at hsz
  constructor
  · refine ⟨hgrow.os, hgrow.tape, hgrow.output, by simp; omega, fun k hk h1 h2 => ?_, ?_⟩
    · rw [Below.heap_setCell _ _ _ _ (by first | exact h1 | exact fun e => h1 e.symm), hgrow.block k (by simp; omega) h2, Below.heap_alloc _ _ _ hk]
    · rcases hat with e | e
      · exact .inl e
      · exact .inr ⟨_, e, by simp⟩
  · refine ⟨one_setCell h6, ?_⟩
    have := ownsRow_setCell_other hown' (a := ⟨bL, 0, none⟩) (fun e => by have := (hown'.lt _ e).1; simp at this; omega) v'
    rw [List.map_append, List.length_append]
    exact this

def RetFc (lib : List Fn1) (x : Nd) (bL base : Nat) (v : Value) (acc : List Int) (w : World) (e : Ending) (w' : World) : Prop :=
  e = .returned (.tuple #[]) ∧ ∃ v', Gr w w' bL v v' ∧ IntsB w' bL base v' (acc ++ callsT lib x)

set_option maxRecDepth 100000 in
set_option maxHeartbeats 2000000 in
theorem calls1_any (lib : List Fn1) (A : Option Addr) (cap : Nat) (bl bL bf base : Nat) (W0 : World) (hL : LibAt W0 A lib) (hF : LibFit lib) (N : Nat) : ∀ (x : Nd), SizeOf.sizeOf x ≤ N → NdFit x → ∀ (v : Value) (acc : List Int) (Ak : Option Addr) (ck : Nat) (w : World), ClAt W0 w A cap lib bl bL bf base → NdsAt W0 Ak x.kids → IntsB w bL base v acc → acc.length + sizeT x ≤ 1000000 →
    Calls Tryd.prog 39 #[.agg #[.int .u8 x.kind, .int .i64 x.num, .string x.name, .slice Ak x.kids.length ck], .pointer (some ⟨bl, 0, none⟩), .pointer (some ⟨bL, 0, none⟩), .pointer (some ⟨bf, 0, none⟩)] w (RetFc lib x bL base v acc w) := by
  induction N with
  | zero => intro x hx; exfalso; cases x; simp at hx
  | succ N ih =>
    intro x hx hfit v acc Ak ck w hC hK hI hn
    obtain ⟨hf1, hf2, hf3, hf4⟩ := hfit.facts
    have hse := sizeT_eq x
    have hl := hF.1
    have hbW := below_box w (Obj.cells #[.int .u8 x.kind, .int .i64 x.num, .string x.name, .slice Ak x.kids.length ck] 53)
    have bx := ndB_box w 53 x Ak ck (hK.mono hC.hb)
    have hC1 := Lib.hid (hC.below hbW)
    have hI1 := Lib.hid (hI.below hbW)
    have hlv := hI.ge
    have HLV := Lib.hid hlv
    have HE := Lib.hid (callsT_eq lib x)
    obtain ⟨i0, hi0, hz0, hz1, hz2⟩ := info_parts info_int
    have HI := Lib.hid (And.intro hi0 (And.intro hz0 (And.intro hz1 hz2)))
    clear hi0 hz0 hz1 hz2 hlv
    have hg0 := Gr.of_below hbW bL v
    have m1 : bl < base := hC.l1
    have m2 : bf < base := hC.l2
    have m3 : bL < base := hC.l3
    have m4 : base ≤ w.heap.size := hC.g3
    by_cases h85 : x.kind = 85
    · have k85 : ((x.kind : Int) == 85) = true := by rw [h85]; rfl
      have p1 := hC.cl
      have hlb : bl < w.heap.size := by omega
      have H85 := Lib.hid h85
      clear h85
      go_enter Tryd.func39, Tryd.ntmps39
      go_wp2_with fail
      generalize w.alloc _ = W at hbW bx hC1 hI1 hg0 ⊢
      refine (find_any lib A cap x.name _ (hL.mono hC1.out.hb) hl).mono ?_
      rintro e w1 ⟨rfl, hb1⟩
      have bx1 := bx.mono hb1
      have hC2 := Lib.hid (hC1.out.below hb1)
      have hI2 := Lib.hid (hI1.out.below hb1)
      have hG2 := Lib.hid (hg0.trans (Gr.of_below hb1 bL v))
      obtain ⟨b0, b1, b2, b3, _⟩ := id bx1
      clear hb1 p1 k85
      by_cases hfd : 0 ≤ findF lib x.name 0
      · have hEE := Lib.hid (show acc ++ callsT lib x = (acc ++ [findF lib x.name 0]) ++ callsTL lib x.kids by rw [HE.out, if_pos ⟨H85.out, hfd⟩, List.append_assoc])
        have hll := hC2.out.l3
        have p2 := cell_of_one hI2.out.one
        have p3 := free_of_one hI2.out.one
        have hlL := lt_of_block hI2.out.one
        have HOW := Lib.hid hI2.out.own
        have hsz1 : w.heap.size < w1.heap.size := bx1.lt
        generalize findF lib x.name 0 = fi at *
        clear HE
        go_wp2_with (at_builtin; go_loud (refine wpList_append_own_at _ rfl _ _ 44 rfl base 3 i0 (.int .i64 0) 1 8 Tryd.underlying44 HI.out.1 HI.out.2.1 HI.out.2.2.1 HI.out.2.2.2 rfl (by decide) v acc.length _ rfl (HOW.out.alloc _) ⟨w1.heap.size, 0, none⟩ 1 1 [.int .i64 fi] rfl rfl (one_newB rfl _ _) (one_i64 _) (by unfold maxLen; omega) (by omega) (by simp; omega) ?_; intro v' w6 hown' hgrow _ hat; have hone6 := ints_grown hI2.out hll hgrow; have d3 := hgrow.cell (below_cell (below_box w1 (Obj.cells #[.int .i64 fi] 3)) b3) (fun e => (by have := (HLV.out _ e.symm).2; simp at this)); have hnL : bL ≠ w.heap.size := (by omega); have hnL' : w.heap.size ≠ bL := (by omega); have p4 := cell_of_one hone6; have p5 := free_of_one hone6; have HP := Lib.hid (ints_push hI2.out hll hgrow hown' hat); obtain ⟨A6, c6, rfl, _, _⟩ := own_formB hown'; clear hown' hgrow hat hone6))
        generalize Value.slice A6 _ c6 = v1 at *
        generalize w6.setCell _ v1 = W1 at HP ⊢
        have hG3 := Lib.hid (hG2.out.trans HP.out.1)
        have hI3 := Lib.hid HP.out.2
        have hn1 : (acc ++ [fi]).length = acc.length + 1 := by simp
        generalize acc ++ [fi] = acc1 at *
        clear hg0 hI1 hC1 hbW bx
        have hC3 := Lib.hid (hC.gr hI hG3.out)
        go_loopw [24] (fun i wr => ∃ (k : Nat) (vk : Value), k ≤ x.kids.length ∧ i = .int .i64 k ∧ Hid (Gr W1 wr bL v1 vk) ∧ Hid (IntsB wr bL base vk (acc1 ++ callsTL lib (x.kids.take k)))) (fun i _ => x.kids.length - (intOf i).toNat)
        case atStart => exact ⟨0, v1, by omega, rfl, Lib.hid (Gr.refl _ _ _), by simpa [callsTL] using hI3⟩
        case round =>
          obtain ⟨k, vk, hk, rfl, hGk, hIk⟩ := hrel
          have hCr := Lib.hid (hC3.out.gr hI3.out hGk.out)
          by_cases hin : k < x.kids.length
          · have hst := sizeTL_step hin
            have hct := callsTL_step (lib := lib) hin
            have hsl := sizeTL_le (l := x.kids) (k + 1)
            have hcl := callsTL_le lib (x.kids.take k)
            obtain ⟨b, o, A', cap', rfl, hlt, c0', c1', c2', c3', hK0⟩ := hK.kid hin
            have c0 := below_cell hCr.out.hb c0'
            have c1 := below_cell hCr.out.hb c1'
            have c2 := below_cell hCr.out.hb c2'
            have c3 := below_cell hCr.out.hb c3'
            clear c0' c1' c2' c3'
            have hget : x.kids[k]? = some x.kids[k] := List.getElem?_eq_getElem hin
            have hfy := hfit.kid hget
            have hszy := Nd.kid_lt hget
            generalize x.kids[k] = y at *
            have HCT := Lib.hid hct
            have hbx := below_box wr (Obj.cells #[.int .u8 y.kind, .int .i64 y.num, .string y.name, .slice A' y.kids.length cap'] 53)
            have ihy := ih y (by omega) hfy vk (acc1 ++ callsTL lib (x.kids.take k)) A' cap' _ (hCr.out.below hbx) hK0 (hIk.out.below hbx) (by rw [List.length_append]; omega)
            have HIH := Lib.hid ihy
            have hCf := hCr.out.cf
            have hlf := block_lt_of_cell hCf
            have hlb2 := block_lt_of_cell c0
            clear hget hct hst hsl hcl ihy
            go_wp2_with fail
            refine HIH.out.mono ?_
            rintro e w5 ⟨rfl, v5, hG5, hI5⟩
            rw [List.append_assoc, ← HCT.out] at hI5
            have hG6 := Lib.hid ((hGk.out.trans (Gr.of_below hbx bL vk)).trans hG5)
            have HI5 := Lib.hid hI5
            clear hG5 hI5 HIH
            go_wp2_with fail
            exact ⟨⟨k + 1, v5, by omega, by go_num, hG6, HI5⟩, by simp [intOf]; omega⟩
          · obtain rfl : k = x.kids.length := by omega
            rw [List.take_length, ← hEE.out] at hIk
            have hG6 := Lib.hid (hG3.out.trans hGk.out)
            go_wp2_with fail
            go_end0
            exact ⟨rfl, _, hG6.out, hIk.out⟩
      · have hEE := Lib.hid (show acc ++ callsT lib x = acc ++ callsTL lib x.kids by rw [HE.out, if_neg (fun h => hfd h.2), List.nil_append])
        have hG3 := hG2
        have hI3 := hI2
        generalize findF lib x.name 0 = fi at *
        clear hg0 hI1 hC1 hbW bx HE
        go_wp2_with fail
        have hC3 := Lib.hid (hC.gr hI hG3.out)
        go_loopw [24] (fun i wr => ∃ (k : Nat) (vk : Value), k ≤ x.kids.length ∧ i = .int .i64 k ∧ Hid (Gr w1 wr bL v vk) ∧ Hid (IntsB wr bL base vk (acc ++ callsTL lib (x.kids.take k)))) (fun i _ => x.kids.length - (intOf i).toNat)
        case atStart => exact ⟨0, v, by omega, rfl, Lib.hid (Gr.refl _ _ _), by simpa [callsTL] using hI3⟩
        case round =>
          obtain ⟨k, vk, hk, rfl, hGk, hIk⟩ := hrel
          have hCr := Lib.hid (hC3.out.gr hI3.out hGk.out)
          by_cases hin : k < x.kids.length
          · have hst := sizeTL_step hin
            have hct := callsTL_step (lib := lib) hin
            have hsl := sizeTL_le (l := x.kids) (k + 1)
            have hcl := callsTL_le lib (x.kids.take k)
            obtain ⟨b, o, A', cap', rfl, hlt, c0', c1', c2', c3', hK0⟩ := hK.kid hin
            have c0 := below_cell hCr.out.hb c0'
            have c1 := below_cell hCr.out.hb c1'
            have c2 := below_cell hCr.out.hb c2'
            have c3 := below_cell hCr.out.hb c3'
            clear c0' c1' c2' c3'
            have hget : x.kids[k]? = some x.kids[k] := List.getElem?_eq_getElem hin
            have hfy := hfit.kid hget
            have hszy := Nd.kid_lt hget
            generalize x.kids[k] = y at *
            have HCT := Lib.hid hct
            have hbx := below_box wr (Obj.cells #[.int .u8 y.kind, .int .i64 y.num, .string y.name, .slice A' y.kids.length cap'] 53)
            have ihy := ih y (by omega) hfy vk (acc ++ callsTL lib (x.kids.take k)) A' cap' _ (hCr.out.below hbx) hK0 (hIk.out.below hbx) (by rw [List.length_append]; omega)
            have HIH := Lib.hid ihy
            have hCf := hCr.out.cf
            have hlf := block_lt_of_cell hCf
            have hlb2 := block_lt_of_cell c0
            clear hget hct hst hsl hcl ihy
            go_wp2_with fail
            refine HIH.out.mono ?_
            rintro e w5 ⟨rfl, v5, hG5, hI5⟩
            rw [List.append_assoc, ← HCT.out] at hI5
            have hG6 := Lib.hid ((hGk.out.trans (Gr.of_below hbx bL vk)).trans hG5)
            have HI5 := Lib.hid hI5
            clear hG5 hI5 HIH
            go_wp2_with fail
            exact ⟨⟨k + 1, v5, by omega, by go_num, hG6, HI5⟩, by simp [intOf]; omega⟩
          · obtain rfl : k = x.kids.length := by omega
            rw [List.take_length, ← hEE.out] at hIk
            have hG6 := Lib.hid (hG3.out.trans hGk.out)
            go_wp2_with fail
            go_end0
            exact ⟨rfl, _, hG6.out, hIk.out⟩
    · have hEE := Lib.hid (show acc ++ callsT lib x = acc ++ callsTL lib x.kids by rw [HE.out, if_neg (fun h => h85 h.1), List.nil_append])
      have k85 : ((x.kind : Int) == 85) = false := beqK (n := 85) h85
      clear h85 HE
      go_enter Tryd.func39, Tryd.ntmps39
      go_wp2_with fail
      generalize w.alloc _ = W at hbW bx hC1 hI1 hg0 ⊢
      have hG3 := Lib.hid hg0
      have hI3 := hI1
      clear hg0 hI1 hC1 hbW bx
      have hC3 := Lib.hid (hC.gr hI hG3.out)
      go_loopw [24] (fun i wr => ∃ (k : Nat) (vk : Value), k ≤ x.kids.length ∧ i = .int .i64 k ∧ Hid (Gr W wr bL v vk) ∧ Hid (IntsB wr bL base vk (acc ++ callsTL lib (x.kids.take k)))) (fun i _ => x.kids.length - (intOf i).toNat)
      case atStart => exact ⟨0, v, by omega, rfl, Lib.hid (Gr.refl _ _ _), by simpa [callsTL] using hI3⟩
      case round =>
        obtain ⟨k, vk, hk, rfl, hGk, hIk⟩ := hrel
        have hCr := Lib.hid (hC3.out.gr hI3.out hGk.out)
        by_cases hin : k < x.kids.length
        · have hst := sizeTL_step hin
          have hct := callsTL_step (lib := lib) hin
          have hsl := sizeTL_le (l := x.kids) (k + 1)
          have hcl := callsTL_le lib (x.kids.take k)
          obtain ⟨b, o, A', cap', rfl, hlt, c0', c1', c2', c3', hK0⟩ := hK.kid hin
          have c0 := below_cell hCr.out.hb c0'
          have c1 := below_cell hCr.out.hb c1'
          have c2 := below_cell hCr.out.hb c2'
          have c3 := below_cell hCr.out.hb c3'
          clear c0' c1' c2' c3'
          have hget : x.kids[k]? = some x.kids[k] := List.getElem?_eq_getElem hin
          have hfy := hfit.kid hget
          have hszy := Nd.kid_lt hget
          generalize x.kids[k] = y at *
          have HCT := Lib.hid hct
          have hbx := below_box wr (Obj.cells #[.int .u8 y.kind, .int .i64 y.num, .string y.name, .slice A' y.kids.length cap'] 53)
          have ihy := ih y (by omega) hfy vk (acc ++ callsTL lib (x.kids.take k)) A' cap' _ (hCr.out.below hbx) hK0 (hIk.out.below hbx) (by rw [List.length_append]; omega)
          have HIH := Lib.hid ihy
          have hCf := hCr.out.cf
          have hlf := block_lt_of_cell hCf
          have hlb2 := block_lt_of_cell c0
          clear hget hct hst hsl hcl ihy
          go_wp2_with fail
          refine HIH.out.mono ?_
          rintro e w5 ⟨rfl, v5, hG5, hI5⟩
          rw [List.append_assoc, ← HCT.out] at hI5
          have hG6 := Lib.hid ((hGk.out.trans (Gr.of_below hbx bL vk)).trans hG5)
          have HI5 := Lib.hid hI5
          clear hG5 hI5 HIH
          go_wp2_with fail
          exact ⟨⟨k + 1, v5, by omega, by go_num, hG6, HI5⟩, by simp [intOf]; omega⟩
        · obtain rfl : k = x.kids.length := by omega
          rw [List.take_length, ← hEE.out] at hIk
          have hG6 := Lib.hid (hG3.out.trans hGk.out)
          go_wp2_with fail
          go_end0
          exact ⟨rfl, _, hG6.out, hIk.out⟩

theorem clAt_made (w : World) (A : Option Addr) (cap : Nat) (lib : List Fn1) (T1 T3 : TypeId) :
    ClAt w (((w.alloc (Obj.cells #[Value.slice A lib.length cap] T1)).alloc (Obj.cells #[Value.slice none 0 0] 44)).alloc (Obj.cells #[Value.func (Fn.func 39) #[] #[Value.pointer (some { block := w.heap.size, off := 0 }), Value.pointer (some { block := w.heap.size + 1, off := 0 }), Value.pointer (some { block := w.heap.size + 1 + 1, off := 0 })]] T3)) A cap lib w.heap.size (w.heap.size + 1) (w.heap.size + 1 + 1) (w.heap.size + 1 + 1 + 1) ∧
    IntsB (((w.alloc (Obj.cells #[Value.slice A lib.length cap] T1)).alloc (Obj.cells #[Value.slice none 0 0] 44)).alloc (Obj.cells #[Value.func (Fn.func 39) #[] #[Value.pointer (some { block := w.heap.size, off := 0 }), Value.pointer (some { block := w.heap.size + 1, off := 0 }), Value.pointer (some { block := w.heap.size + 1 + 1, off := 0 })]] T3)) (w.heap.size + 1) (w.heap.size + 1 + 1 + 1) (.slice none 0 0) [] := by
  have b1 := below_box w (Obj.cells #[Value.slice A lib.length cap] T1)
  have b2 := below_box (w.alloc (Obj.cells #[Value.slice A lib.length cap] T1)) (Obj.cells #[Value.slice none 0 0] 44)
  have b3 := below_box ((w.alloc (Obj.cells #[Value.slice A lib.length cap] T1)).alloc (Obj.cells #[Value.slice none 0 0] 44)) (Obj.cells #[Value.func (Fn.func 39) #[] #[Value.pointer (some { block := w.heap.size, off := 0 }), Value.pointer (some { block := w.heap.size + 1, off := 0 }), Value.pointer (some { block := w.heap.size + 1 + 1, off := 0 })]] T3)
  refine ⟨⟨below_step (below_step b1 (by simp) b2) (by simp; omega) b3, ?_, ?_, by omega, by omega, by omega, by omega, by omega, by omega, by omega, by simp⟩, ?_, ⟨rfl, .inl ⟨rfl, rfl⟩⟩⟩
  · exact below_cell b3 (below_cell b2 (by simp [go_sem]))
  · simp [go_sem]
  · rw [Below.heap_alloc _ _ _ (by simp)]
    have := heap_alloc_new (w.alloc (Obj.cells #[Value.slice A lib.length cap] T1)) (Obj.cells #[Value.slice none 0 0] 44)
    simpa using this

/-- A new slice of integers. -/
def RetIntsW (l : List Int) (w : World) (e : Ending) (w' : World) : Prop := ∃ A c, e = .returned (.slice A l.length c) ∧ IntsAt w' A l ∧ Below w.heap.size w w' ∧ ∀ b o, A = some ⟨b, o, none⟩ → w.heap.size ≤ b
def callsR (lib : List Fn1) (f : Int) : List Int := if f < 0 ∨ (lib.length : Int) ≤ f then [] else match lib[f.toNat]? with | some g => callsT lib g.body | none => []
set_option maxRecDepth 100000 in
set_option maxHeartbeats 2000000 in
theorem calls_any (lib : List Fn1) (A : Option Addr) (cap : Nat) (f : Int) (w : World) (hL : LibAt w A lib) (hF : LibFit lib) (hN : ∀ (k : Nat) (f : Fn1), lib[k]? = some f → sizeT f.body ≤ 500000) :
    Calls Tryd.prog 24 #[.slice A lib.length cap, .int .i64 f] w (RetIntsW (callsR lib f) w) := by
  have hl := hF.1
  have HE := Lib.hid (callsR.eq_def lib f)
  have hbW := below_box w (Obj.cells #[.slice A lib.length cap] 22)
  by_cases hr : f < 0 ∨ (lib.length : Int) ≤ f
  · rw [if_pos hr] at HE
    have hfin : RetIntsW (callsR lib f) w (.returned (.slice none 0 0)) (w.alloc (Obj.cells #[.slice A lib.length cap] 22)) := ⟨none, 0, by rw [HE.out]; rfl, by rw [HE.out]; intro k x hk; simp at hk, hbW, (fun b o e => by cases e)⟩
    have HFIN := Lib.hid hfin
    clear hfin
    rcases hr with h0 | h1
    · go_enter Tryd.func24, Tryd.ntmps24
      go_wp2_with fail
      go_ret
      exact HFIN.out
    · have h0 : ¬ f < 0 := by omega
      go_enter Tryd.func24, Tryd.ntmps24
      go_wp2_with fail
      go_ret
      exact HFIN.out
  rw [if_neg hr] at HE
  have h0 : ¬ f < 0 := by omega
  have h1 : ¬ (lib.length : Int) ≤ f := by omega
  obtain ⟨i, rfl⟩ : ∃ i : Nat, f = i := ⟨f.toNat, by omega⟩
  have hi : i < lib.length := by omega
  clear hr
  obtain ⟨b, o, rfl, hfo⟩ := hL.at_ hi
  have hget : lib[i]? = some lib[i] := List.getElem?_eq_getElem hi
  obtain ⟨hfn, hfp, hfb⟩ := hF.2 i _ hget
  have hnn := hN i _ hget
  rw [Int.toNat_natCast, hget] at HE
  generalize lib[i] = g at *
  clear hget
  have hlt := hfo.lt
  obtain ⟨c0, ⟨A1, cp1, c1, hps⟩, c2, hbody⟩ := hfo
  obtain ⟨A3, cp3, d0, d1, d2, d3, hks⟩ := hbody.open_
  have r1 : (0 : Int) ≤ i := by omega
  have r2 : (i : Int) < lib.length := by omega
  obtain ⟨hCA, hIA⟩ := clAt_made w (some ⟨b, o, none⟩) cap lib 22 95
  have HL := Lib.hid hL
  have HKS := Lib.hid hks
  have HD := Lib.hid (And.intro d0 (And.intro d1 (And.intro d2 d3)))
  clear hL hks d0 d1 d2 d3 c0 c1 c2 hps hbody hbW
  go_enter Tryd.func24, Tryd.ntmps24
  go_wp2_with fail
  generalize World.alloc _ _ = W at hCA hIA ⊢
  have hbd : Below W.heap.size W W.drew := ⟨rfl, rfl, rfl, Nat.le_refl _, fun _ _ => rfl⟩
  have e1 := hCA.cl
  have e2 := hCA.cf
  obtain ⟨d0', d1', d2', d3'⟩ := HD.out
  have d0 := below_cell hCA.hb d0'
  have d1 := below_cell hCA.hb d1'
  have d2 := below_cell hCA.hb d2'
  have d3 := below_cell hCA.hb d3'
  clear d0' d1' d2' d3'
  have HC := Lib.hid (hCA.below hbd)
  have HI := Lib.hid (hIA.below hbd)
  have hcall := Lib.hid (calls1_any lib (some ⟨b, o, none⟩) cap w.heap.size (w.heap.size + 1) (w.heap.size + 1 + 1) (w.heap.size + 1 + 1 + 1) w HL.out hF _ g.body (Nat.le_refl _) hfb (.slice none 0 0) [] A3 cp3 W.drew HC.out HKS.out HI.out (by simp; omega))
  clear hCA hIA
  go_still_tail 6, (by kernel_rfl)
  change wpList _ _ _ _ _ W.drew
  clear e1 e2 d0 d1 d2 d3 hbd
  generalize W.drew = W2 at hcall HC HI ⊢
  go_wp2_with fail
  refine hcall.out.mono ?_
  rintro e w5 ⟨rfl, v5, hG5, hI5⟩
  rw [List.nil_append] at hI5
  have hb5 := Lib.hid (hG5.below HC.out.hb HC.out.g1 (fun g hg => by cases hg))
  have e5 := cell_of_one hI5.one
  have hge5 := hI5.ge
  obtain ⟨A5, c5, rfl, hint⟩ := ints_of_own hI5.own
  have HFIN := Lib.hid (show RetIntsW (callsR lib i) w (.returned (.slice A5 (callsT lib g.body).length c5)) w5 from ⟨A5, c5, by rw [HE.out], by rw [HE.out]; exact hint, hb5.out, fun b o e => by subst e; have := (hge5 b rfl).1; omega⟩)
  clear hge5 hint hI5 hG5 hcall HC HI HE
  go_wp2_with fail
  go_ret
  exact HFIN.out


end Go.Proofs.YtcoeakdpcigogaaDoor

namespace Go.Proofs.YtcoeakdpcigogaaDoor
open Go.ChangeShapes Go.WideShapes Go.ChangeAt Go.RowKit Go.Sort Go.Maps

mutual
theorem callsT_rng (lib : List Fn1) : ∀ (x : Nd), ∀ z ∈ callsT lib x, 0 ≤ z ∧ z < lib.length
  | .mk kd n s l, z, hz => by
    rw [callsT] at hz
    rcases List.mem_append.1 hz with h | h
    · by_cases e : kd = 85 ∧ 0 ≤ findF lib s 0
      · rw [if_pos e, List.mem_singleton] at h
        rw [h]
        rcases findF_range s lib 0 with e2 | ⟨i, i1, i2, _⟩
        · omega
        · omega
      · rw [if_neg e] at h; cases h
    · exact callsTL_rng lib l z h
theorem callsTL_rng (lib : List Fn1) : ∀ (l : List Nd), ∀ z ∈ callsTL lib l, 0 ≤ z ∧ z < lib.length
  | [], z, hz => by rw [callsTL] at hz; cases hz
  | y :: r, z, hz => by
    rw [callsTL] at hz
    rcases List.mem_append.1 hz with h | h
    · exact callsT_rng lib y z h
    · exact callsTL_rng lib r z h
end
theorem cnt_of_own {w : World} {base g n : Nat} {e : TypeId} (h : w.ownsRow base e 1 (.slice (some ⟨g, 0, none⟩) n n) n (madeCells (Value.int .i64 0).cells (n * 1)).toList) : CntA w g n (fun _ => 0) := by
  obtain ⟨_, ⟨h1, _⟩ | ⟨g', cap, cur, h1, _, h3, _, _, h5, h6⟩⟩ := h
  · cases h1
  · cases h1
    rw [Nat.mul_one] at h5 h6
    have h7 : cur = madeCells (Value.int .i64 0).cells n := by
      apply Array.toList_inj.1
      rw [← h6, List.take_of_length_le (by simp; omega)]
    refine ⟨e, ?_⟩
    rw [h3, h7]
    congr 2
    apply Array.ext_getElem?
    intro i
    unfold madeCells
    by_cases hi : i < n
    · rw [arrC_get hi]
      simp [hi, Value.cells, Nat.mod_one]
    · have h1 : (arrC n (fun _ => (0 : Int)))[i]? = none := by unfold arrC; simp; omega
      rw [h1]
      simp; omega
/-- What a normalized function gives the law. -/
structure OnF (lib : List Fn1) (k : Nat) (g : Af) : Prop where
  pg : PG (stL g.body) 0 g.temps.length
  ok : ∀ y ∈ g.body, OkC lib y ∧ BdFit y
  cn : ∀ q : Nat, cnL lib q g.body = (callsR lib k).count (q : Int)
  rg : ∀ x ∈ callsR lib k, 0 ≤ x ∧ x < lib.length
  ln : (callsR lib k).length ≤ 1000
  bl : bszL g.body ≤ 100000
theorem on_facts {lib : List Fn1} (hF : LibFit lib) (hs : smallB lib = true) (hv : (validR lib).2 = 0) {k : Nat} {g : Af} (hk : (normL lib)[k]? = some g) : OnF lib k g := by
  unfold normL at hk
  rw [List.getElem?_map] at hk
  obtain ⟨f, hf, rfl⟩ := Option.map_eq_some_iff.1 hk
  obtain ⟨h1, h2, _, _, _⟩ := nr_need hv hf
  have hlt := (List.getElem?_eq_some_iff.1 hf).1
  have hfit := norm_fit hF hs hv (normF lib f) (List.mem_map.2 ⟨f, List.mem_of_getElem? hf, rfl⟩)
  have hc : callsR lib k = callsT lib f.body := by
    unfold callsR
    rw [if_neg (by omega), Int.toNat_natCast, hf]
  have hz := (small_facts hs).2 f (List.mem_of_getElem? hf)
  have hcl := callsT_le lib f.body
  exact ⟨nE_pg lib f.body (envP f.params) [], fun y hy => ⟨nE_okc lib f.body h1 h2 (envP f.params) [] y hy, hfit.1.bd y hy⟩, fun q => by rw [hc]; exact nE_cn lib q f.body h1 (envP f.params) [], by rw [hc]; exact callsT_rng lib f.body, by rw [hc]; omega, hfit.1.bl⟩
theorem count_step {l : List Int} {j : Nat} (h : j < l.length) (q : Int) : (l.take (j + 1)).count q = (l.take j).count q + if l[j] = q then 1 else 0 := by
  rw [List.take_succ_eq_append_getElem h, List.count_append]
  by_cases e : l[j] = q
  · rw [if_pos e, e, List.count_cons_self, List.count_nil]
  · rw [if_neg e, List.count_cons_of_ne e, List.count_nil]
theorem count_take_le (l : List Int) (j : Nat) (q : Int) : (l.take j).count q ≤ l.length := Nat.le_trans List.count_le_length (by rw [List.length_take]; omega)

set_option maxRecDepth 100000 in
set_option maxHeartbeats 8000000 in
theorem law_once {w : World} (lib : List Fn1) (A : Option Addr) (c : Nat) (hO : LibOp w A lib) :
    Calls Tryd.prog 7 #[.slice A lib.length c] w fun e w' => e = .returned (.bool true) ∧ Below w.heap.size w w' := by
  have HO := Lib.hid hO
  have HAW := Lib.hid (awake_any hO.W)
  clear hO
  go_enter Tryd.func7, Tryd.ntmps7
  go_wp2_with fail
  refine HAW.out.mono ?_
  clear HAW
  rintro e w1 ⟨rfl, hb1⟩
  have HB1 := Lib.hid hb1
  have HSM := Lib.hid ((HO.out.below hb1).small c)
  clear hb1
  go_wp2_with fail
  refine HSM.out.mono ?_
  clear HSM
  rintro e w2 ⟨rfl, hb2⟩
  have HB2 := Lib.hid (below_step HB1.out HB1.out.size hb2)
  clear hb2
  cases hsm : smallB lib with
  | false =>
    rw [oneB_f rfl]
    go_wp2_with fail
    go_ret
    exact ⟨rfl, HB2.out⟩
  | true =>
    rw [oneB_t rfl]
    have HSB := Lib.hid hsm
    have HNZ := Lib.hid ((HO.out.below HB2.out).normalize hsm c)
    clear hsm
    go_wp2_with fail
    refine HNZ.out.mono ?_
    clear HNZ
    rintro e w3 ⟨hb3, ⟨hv, rfl⟩ | ⟨hv, A3, c3, rfl, hA3⟩⟩
    · have HB3 := Lib.hid (below_step HB2.out HB2.out.size hb3)
      have hne : ((validR lib).2 != 0) = true := by simpa using hv
      clear hb3 hv
      generalize (validR lib).2 = ev at hne ⊢
      go_wp2_with fail
      go_ret
      exact ⟨rfl, HB3.out⟩
    · have HB3 := Lib.hid (below_step HB2.out HB2.out.size hb3)
      have HA3 := Lib.hid hA3
      have HON := Lib.hid (fun k g (hk : (normL lib)[k]? = some g) => on_facts HO.out.F HSB.out hv hk)
      have HLN := Lib.hid (normL_len lib)
      have HL3 := Lib.hid (HO.out.L.mono HB3.out)
      have HLF := Lib.hid HO.out.F
      have HNN := Lib.hid (fun (k : Nat) (f : Fn1) (h : lib[k]? = some f) => (by have := (small_facts HSB.out).2 f (List.mem_of_getElem? h); omega : sizeT f.body ≤ 500000))
      have h8 := (small_facts HSB.out).1
      obtain ⟨i0, hi, hz0, hz1, hz2⟩ := info_parts info_int
      have HI := Lib.hid (And.intro hi (And.intro hz0 (And.intro hz1 hz2)))
      clear hb3 hv hA3 hi hz0 hz1 hz2
      generalize normL lib = l at *
      go_wp2_with fail
      go_loopw [5] (fun i wr => ∃ k : Nat, k ≤ lib.length ∧ i = .int .i64 k ∧ Hid (Below w3.heap.size w3 wr)) (fun i _ => lib.length - (intOf i).toNat)
      case atStart => exact ⟨0, by omega, rfl, Lib.hid (Below.refl _ _)⟩
      case round =>
        obtain ⟨k, hk, rfl, hbe⟩ := hrel
        have HBE := Lib.hid hbe.out
        clear hbe
        obtain ⟨wo, rfl⟩ : ∃ y, y = wr := ⟨_, rfl⟩
        by_cases hin : k < lib.length
        · have hin' : k < l.length := by rw [HLN.out]; exact hin
          have hgl : l[k]? = some l[k] := List.getElem?_eq_getElem hin'
          have HF := Lib.hid (HON.out k _ hgl)
          obtain ⟨b, o, cs0, rfl, hcf, hcell⟩ := HA3.out k _ hgl
          clear hgl
          generalize l[k] = g at *
          obtain ⟨Ap, cp, Aτ, cτ, Ab, cb, rfl, _, _, hbs⟩ := hcf
          have HDD := Lib.hid (fun (w' : World) (hb' : Below w3.heap.size w3 w') => And.intro (below_cell hb' (hcell 3 _ rfl)) (below_cell hb' (hcell 4 _ rfl)))
          have HBS := Lib.hid hbs
          obtain ⟨d3, d4⟩ := HDD.out wo HBE.out
          have hlb := block_lt_of_cell d4
          have rk1 : (0 : Int) ≤ k := by omega
          have hbl := HF.out.bl
          have HBN := Lib.hid (binds_any 2000000 g.body (by omega) (by omega) Ab cb wo wo (HBS.out.le (Le.belowA HBE.out fun _ _ e => e)) (Below.refl _ _))
          clear hcell hbs
          go_wp2_with fail
          refine HBN.out.mono ?_
          clear HBN d3 d4 hlb
          rintro e w4 ⟨hb4, Am, cm, rfl, hm, hcm⟩
          have HB4 := Lib.hid (below_step HBE.out HBE.out.size hb4)
          have HST := Lib.hid (stores_any 2000000 g.body (by omega) (by omega) Am g.body.length cm w4 rfl (hm.le (Le.less fun _ _ e => e.elim)))
          clear hb4 hm
          go_wp2_with fail
          refine HST.out.mono ?_
          clear HST
          rintro e w5 ⟨hb5, As, cas, rfl, hcs, hcl⟩
          have HB5 := Lib.hid (below_step HB4.out HB4.out.size hb5)
          have HSL := Lib.hid (show g.temps.length = (stL g.body).length by have := HF.out.pg.length; omega)
          have HND := Lib.hid HF.out.pg.nodup
          have HCL := Lib.hid hcl
          have hsl2 := stL_len g.body
          obtain ⟨d3, d4⟩ := HDD.out w5 HB5.out
          have hlb := block_lt_of_cell d3
          rw [HSL.out] at d3
          clear hb5 hcl HSL
          have hst1 : (stL g.body).length ≤ 100000 := by omega
          clear hsl2
          generalize stL g.body = st at *
          go_wp2_with fail
          clear d3 d4 hlb
          go_loopw [8, 9] (fun i _ wi => ∃ a : Nat, a ≤ st.length ∧ i = .int .i64 a ∧ Hid (Below w5.heap.size w5 wi)) (fun i _ _ => st.length - (intOf i).toNat)
          case atStart => exact ⟨0, by omega, rfl, Lib.hid (Below.refl _ _)⟩
          case round =>
            obtain ⟨a, ha, rfl, hbe⟩ := hrel
            have HBA := Lib.hid hbe.out
            clear hbe
            obtain ⟨wa, rfl⟩ : ∃ y, y = wr := ⟨_, rfl⟩
            by_cases hia : a < st.length
            · have ra0 : (0 : Int) ≤ a := by omega
              have ra1 : (a : Int) < st.length := by omega
              obtain ⟨ba, oa, rfl, ga⟩ := HCL.out a (.string st[a]) (by rw [List.getElem?_map, List.getElem?_eq_getElem hia]; rfl)
              go_wp2_with fail
              go_loopw [9] (fun i wi => ∃ q : Nat, q ≤ a ∧ i = .int .i64 q ∧ Hid (Below wa.heap.size wa wi)) (fun i _ => a - (intOf i).toNat)
              case atStart => exact ⟨0, by omega, rfl, Lib.hid (Below.refl _ _)⟩
              case round =>
                obtain ⟨q, hq, rfl, hbq⟩ := hrel
                have HBQ := Lib.hid (below_step HBA.out HBA.out.size hbq.out)
                have HBQ1 := Lib.hid (belowDrawnP hbq.out)
                clear hbq
                by_cases hiq : q < a
                · obtain ⟨bq, oq, e, gq⟩ := HCL.out q (.string (st[q]'(by omega))) (by rw [List.getElem?_map, List.getElem?_eq_getElem (by omega : q < st.length)]; rfl)
                  cases e
                  have g1 := below_cell HBQ.out ga
                  have g2 := below_cell HBQ.out gq
                  have hne := nodup_ne HND.out hia hiq
                  have hse := strEq st[a] (st[q]'(by omega))
                  rw [decide_eq_false hne] at hse
                  generalize st[a] = sa at *
                  generalize st[q] = sq at *
                  have hlg1 := block_lt_of_cell g1
                  have rq0 : (0 : Int) ≤ q := by omega
                  have rq1 : (q : Int) < st.length := by omega
                  clear gq hne ga
                  go_wp2_with fail
                  go_region
                  go_wp2_with fail
                  exact ⟨⟨q + 1, by omega, by go_num, HBQ1⟩, by simp [intOf]; omega⟩
                · obtain rfl : q = a := by omega
                  clear ga
                  go_wp2_with fail
                  exact ⟨⟨q + 1, by omega, by go_num, HBQ⟩, by simp [intOf]; omega⟩
            · obtain rfl : a = st.length := by omega
              have HBw := Lib.hid (below_step HB5.out HB5.out.size HBA.out)
              clear HBA
              go_wp2_with (at_make; refine wpList_make_full _ rfl _ _ 44 rfl _ 3 i0 (.int .i64 0) 1 Tryd.underlying44 HI.out.1 HI.out.2.1 HI.out.2.2.1 .i64 .i64 _ _ lib.length rfl rfl rfl rfl (by rw [HI.out.2.2.2]; omega) (by unfold maxLen; omega) (Nat.le_refl _) ?_; intro W6 own6 hg6; have HB6w := Lib.hid ((Below.refl wa.heap.size wa).grown hg6 (Nat.le_refl _) (fun g h => by cases h)); have HB6 := Lib.hid (below_step HBw.out HBw.out.size HB6w.out); have HCT6 := Lib.hid (cnt_of_own own6); clear own6 hg6; obtain ⟨d3, d4⟩ := HDD.out W6 HB6.out; have hlb := block_lt_of_cell d4)
              have HLG := Lib.hid (show wa.heap.size < W6.heap.size from Bx.lt HCT6.out)
              have HCD := Lib.hid (called_any lib A c (by omega) 2000000 g.body (by omega) (by omega) HF.out.ok Ab cb wa W6 wa.heap.size lib.length (fun _ => 0) (HBS.out.le (Le.belowA HBw.out fun _ _ e => e)) (HL3.out.mono HBw.out) HB6w.out (Nat.le_refl _) HCT6.out (fun _ => ⟨by omega, by omega⟩))
              clear HCT6
              refine HCD.out.mono ?_
              clear HCD d3 d4 hlb
              rintro e w7 ⟨rfl, hf7, hc7⟩
              have HB7 := Lib.hid (hf7.toBelow HB6.out HB6.out.size (fun k e => by have e' : k = wa.heap.size := e; have := HBw.out.size; omega))
              have HC7 := Lib.hid hc7
              have HS7 := Lib.hid (show wa.heap.size < w7.heap.size from Nat.lt_of_lt_of_le HLG.out hf7.size)
              have HCA := Lib.hid (calls_any lib A c (k : Int) w7 (HL3.out.mono HB7.out) HLF.out HNN.out)
              have HCN := Lib.hid HF.out.cn
              have HRG := Lib.hid HF.out.rg
              have hwl := HF.out.ln
              have HZL := Lib.hid (fun q => cnL_le lib q g.body)
              clear hf7 hc7 HF
              generalize callsR lib k = want at *
              go_wp2_with fail
              refine HCA.out.mono ?_
              clear HCA
              rintro e w8 ⟨Aw, cw, rfl, hiw, hb8, hnw⟩
              have HB8 := Lib.hid (below_step HB7.out HB7.out.size hb8)
              have HC8 := Lib.hid (show CntA w8 wa.heap.size lib.length (fun q => (0 : Int) + (cnL lib q g.body : Nat)) from Bx.below HC7.out hb8)
              have HIW := Lib.hid (And.intro hiw hnw)
              clear hiw hnw hb8
              go_wp2_with fail
              go_loopw [12] (fun i wi => ∃ j : Nat, j ≤ want.length ∧ i = .int .i64 j ∧ Hid (Fr w8 wi (fun q => q = wa.heap.size) ∧ CntA wi wa.heap.size lib.length (fun q => (cnL lib q g.body : Int) - ((want.take j).count (q : Int) : Nat)))) (fun i _ => want.length - (intOf i).toNat)
              case atStart => exact ⟨0, by omega, rfl, Lib.hid ⟨Fr.refl _ _, HC8.out.eq fun q _ => by rw [List.take_zero, List.count_nil]; omega⟩⟩
              case round =>
                obtain ⟨j, hj, rfl, hrr⟩ := hrel
                have HRR := Lib.hid hrr.out
                clear hrr
                obtain ⟨wb, rfl⟩ : ∃ y, y = wr := ⟨_, rfl⟩
                by_cases hij : j < want.length
                · obtain ⟨bw, ow, rfl, gw⟩ := HIW.out.1 j _ (List.getElem?_eq_getElem hij)
                  have hbw : bw ≠ wa.heap.size := by have := HIW.out.2 bw ow rfl; have := HS7.out; omega
                  have gwr := HRR.out.1.cell gw hbw
                  have hx := HRG.out _ (List.getElem_mem hij)
                  have HCS := Lib.hid (fun q => count_step hij q)
                  obtain ⟨p, hp⟩ : ∃ p : Nat, want[j] = p := ⟨(want[j]).toNat, by omega⟩
                  have hpn : p < lib.length := by rw [hp] at hx; omega
                  rw [hp] at gwr HCS
                  have dg := CntA.get HRR.out.2 hpn
                  have fg := Bx.free HRR.out.2 p
                  have hlg := block_lt_of_cell dg
                  have hlw := block_lt_of_cell gwr
                  have hcz := HZL.out p
                  have hct := count_take_le want j (p : Int)
                  have hzz : IntKind.i64.wrap ((cnL lib p g.body : Int) - ((want.take j).count (p : Int) : Nat) - 1) = (cnL lib p g.body : Int) - ((want.take j).count (p : Int) : Nat) - 1 := by rw [IntKind.wrap_i64] <;> omega
                  have rp0 : (0 : Int) ≤ p := by omega
                  have rp1 : (p : Int) < lib.length := by omega
                  have qq1 : decide (lib.length ≤ p) = false := decide_eq_false (by omega)
                  have qq0 : decide ((p : Int) < 0) = false := decide_eq_false (by omega)
                  have rj0 : (0 : Int) ≤ j := by omega
                  have rj1 : (j : Int) < want.length := by omega
                  have HN := Lib.hid (show Fr w8 (wb.setCell ⟨wa.heap.size, p, none⟩ (.int .i64 ((cnL lib p g.body : Int) - ((want.take j).count (p : Int) : Nat) - 1))) (fun q => q = wa.heap.size) ∧ CntA (wb.setCell ⟨wa.heap.size, p, none⟩ (.int .i64 ((cnL lib p g.body : Int) - ((want.take j).count (p : Int) : Nat) - 1))) wa.heap.size lib.length (fun q => (cnL lib q g.body : Int) - ((want.take (j + 1)).count (q : Int) : Nat)) from
                    ⟨HRR.out.1.trans (Fr.of_set wb ⟨wa.heap.size, p, none⟩ _) fun _ _ e => e, (CntA.set HRR.out.2 p _).eq fun q _ => by
                      rw [HCS.out q]
                      by_cases e : q = p
                      · rw [if_pos e, e, if_pos rfl]; omega
                      · rw [if_neg e, if_neg (fun h => e (by omega))]; omega⟩)
                  clear hx hp gw hcz hct
                  go_wp2_with fail
                  clear dg fg hlg hlw gwr hzz
                  generalize World.setCell _ _ _ = wn at HN ⊢
                  exact ⟨⟨j + 1, by omega, by go_num, HN⟩, by simp [intOf]; omega⟩
                · obtain rfl : j = want.length := by omega
                  rw [List.take_length] at HRR
                  have HZ := Lib.hid (show CntA wb wa.heap.size lib.length (fun _ => 0) from HRR.out.2.eq fun q _ => by rw [HCN.out q]; omega)
                  have HBZ := Lib.hid (HRR.out.1.toBelow HB8.out HB8.out.size (fun q e => by have e' : q = wa.heap.size := e; have := HBw.out.size; omega))
                  clear HRR
                  go_wp2_with fail
                  go_loopw [13] (fun i wi => ∃ j : Nat, j ≤ lib.length ∧ i = .int .i64 j ∧ Hid (Below wb.heap.size wb wi)) (fun i _ => lib.length - (intOf i).toNat)
                  case atStart => exact ⟨0, by omega, rfl, Lib.hid (Below.refl _ _)⟩
                  case round =>
                    obtain ⟨j, hj, rfl, hbe⟩ := hrel
                    have HBY := Lib.hid hbe.out
                    clear hbe
                    by_cases hij : j < lib.length
                    · have dg := CntA.get (show CntA wr wa.heap.size lib.length (fun _ => 0) from Bx.below HZ.out HBY.out) hij
                      have hlg := block_lt_of_cell dg
                      have rj0 : (0 : Int) ≤ j := by omega
                      have rj1 : (j : Int) < lib.length := by omega
                      go_wp2_with fail
                      exact ⟨⟨j + 1, by omega, by go_num, HBY⟩, by simp [intOf]; omega⟩
                    · obtain rfl : j = lib.length := by omega
                      have HEN := Lib.hid (below_step HBZ.out HBZ.out.size HBY.out)
                      go_wp2_with fail
                      exact ⟨⟨k + 1, by omega, by go_num, HEN⟩, by simp [intOf]; omega⟩
        · obtain rfl : k = lib.length := by omega
          go_wp2_with fail
          go_ret
          exact ⟨rfl, below_step HB3.out HB3.out.size HBE.out⟩

end Go.Proofs.YtcoeakdpcigogaaDoor

namespace Go.Proofs.YtcoeakdpcigogaaDoor
open Go.ChangeShapes Go.WideShapes Go.ChangeAt Go.RowKit
open Go.ChangeMaps (open_string)

set_option maxRecDepth 100000 in
theorem contract_anfOnce (H : Type) (enc : TypeId × Value → H) (W : World) (base : Nat) (args : Array Value) (ds gs : List (DataW H)) (before : List MemPlace)
    (hval : ∀ (j : Nat) t v, Tryd.f7.params[j]? = some t → args[j]? = some v → Value.okWide Tryd.prog W .any base t v)
    (hW : DataW.Whole enc Tryd.prog Tryd.f7.params.toList Rows.anfOnceSpec.vars false W args.toList ds gs before) (hcond : Rows.uptoSmall H (ds ++ gs) = true) (hL : laidMetH Tryd.prog Rows.anfOnceUptoRow.laid W) :
    Calls Tryd.prog 7 args W fun e W' => ∃ v, e = .returned v ∧ Rows.anfOnceSpec.post enc Tryd.prog Tryd.f7 false true false false W args v W' := by
  have hW' := hW
  obtain ⟨p, q, hA0, hV, rfl, hfz, hnd⟩ := hW
  have hA : DataW.TrodAll enc Tryd.prog W 0 (fun _ => true) true Tryd.f7.params.toList args.toList ds p := hA0
  rw [Tryd.params7] at hA hval
  obtain ⟨v0, vs0, d0, ds0, p0, q0, hargs0, rfl, rfl, h0, r0⟩ := trodAll_cons hA
  obtain ⟨rfl, rfl, rfl⟩ := trodAll_nil r0
  obtain rfl : args = #[v0] := by cases args; simp_all
  obtain ⟨A0, lib0, c0, rfl, hL0, hF0, hX0⟩ := open_libM (hval 0 _ v0 rfl rfl) h0
  have hbk : Rows.uptoBulk d0 ≤ 1048576 := by
    simp only [Rows.uptoSmall, List.cons_append, Rows.uptoBulkAll, decide_eq_true_eq] at hcond
    omega
  exact law_post (tb := 4) laidOut (by kernel_rfl) (by kernel_rfl) Tryd.underlying4 rfl hW' ⟨rfl, rfl, rfl⟩
    (law_once lib0 A0 c0 ⟨wld_of_laid hL, hL0, hF0, fun k f hk => by have := (hX0 k f hk).1; omega, fun k f hk => by have := (hX0 k f hk).2; omega⟩)

theorem laid_met_anfOnce (os : Os) : laidMet Tryd.prog Rows.anfOnceUptoRow.laid ((World.laidAll Tryd.prog os Rows.anfOnceUptoRow.laid).forCall (fun _ _ => 0) ⟨#[], #[.slice none 0 0], []⟩).memory :=
  laidMet_laidAll _ (by kernel_rfl) (by kernel_rfl)
theorem reads_anfOnce (os : Os) {H : Type} (enc : TypeId × Value → H) : ∃ places, DataW.whole enc Tryd.prog ((World.laidAll Tryd.prog os Rows.anfOnceUptoRow.laid).forCall (fun _ _ => 0) ⟨#[], #[.slice none 0 0], []⟩).memory Tryd.f7.params.toList Rows.anfOnceSpec.vars false (#[.slice none 0 0] : Array Value).toList 8 = some ([.nil], [], places) :=
  ⟨[], by kernel_rfl⟩

set_option maxRecDepth 100000 in
theorem lifted_anfOnce (os : Os) (started : os.Started) (H : Type) (enc : TypeId × Value → H) (F : Stop.Interp) :
    ReturnsInHanded {} Tryd.checked os 7 .any ((Rows.OpenSpec.upto Rows.anfOnceSpec).preRow enc Tryd.prog Tryd.f7 Rows.anfOnceUptoRow.domain false Rows.anfOnceUptoRow.laid) (((Rows.OpenSpec.upto Rows.anfOnceSpec).at F).post enc Tryd.prog Tryd.f7 false true false false) := by
  obtain ⟨places, hx⟩ := reads_anfOnce os enc
  refine returnsInHanded_of_row (C := Tryd.checked) (s := Rows.OpenSpec.upto Rows.anfOnceSpec) own started (by kernel_rfl) Tryd.func7
    (witness_row_atRef (enc := enc) (C := Tryd.checked) false (World.laidAll Tryd.prog os Rows.anfOnceUptoRow.laid) #[.slice none 0 0] (World.laidAll_os _ _ _) (by kernel_rfl) (by kernel_rfl) (by kernel_rfl)
      (OpenSpec.preRow_of_cond 8 hx (by kernel_rfl) (fun k hk => by cases hk; kernel_rfl) (by kernel_rfl) (by rw [MakeChecks.laidMetH_plain _ _ _ (by kernel_rfl)]; exact laid_met_anfOnce os))) ?_
  intro W base args ds gs before hval hW _ hcond _ hL _ _
  exact contract_anfOnce H enc W base args ds gs before hval hW (hcond _ rfl) hL

theorem said_anfOnce : Rows.AnfOnceUptoSaid :=
  OpenClaim.holds_of_cond 7 Tryd.f7 rfl rfl rfl rfl rfl rfl rfl ⟨rfl, rfl, rfl, rfl, rfl⟩ rfl rfl rfl rfl rfl (by kernel_rfl) Tryd.func7 (by kernel_rfl)
    (of_decide_eq_true (by kernel_rfl)) (by unfold Func.isWrapper; first | (rw [if_pos (by decide +kernel)]; kernel_rfl) | (rw [if_neg (by decide +kernel)]; exact ⟨rfl, rfl⟩))
    (fun os started H enc _ F => by rw [OpenClaim.pre_eq_preRow]; exact lifted_anfOnce os started H enc F)

theorem plain_anfOnce (f : FuncId) (fn : Func) (hf : Tryd.pinned.checked.prog.funcNamed "backstep/backsteplaw38.AnfOnce" = some f) (hfn : Tryd.pinned.checked.prog.funcs[f]? = some fn) :
    true = Tryd.pinned.checked.prog.looks [] ∧ ∀ (j : Nat) t, fn.params[j]? = some t → Tryd.pinned.checked.prog.wantsStandIn t = false := by
  obtain rfl : f = 7 := Option.some.inj ((show Tryd.prog.funcNamed "backstep/backsteplaw38.AnfOnce" = some 7 by kernel_rfl).symm.trans hf) |>.symm
  obtain rfl : fn = Tryd.f7 := (Option.some.inj (Tryd.func7.symm.trans hfn)).symm
  refine ⟨by kernel_rfl, fun j t ht => ?_⟩
  have hall : Tryd.f7.params.all (fun t => !Tryd.prog.wantsStandIn t) = true := by kernel_rfl
  have := Array.all_eq_true'.1 hall t (Array.mem_of_getElem? ht)
  exact (show Tryd.prog.wantsStandIn t = false by simpa using this)

/-- The card: the law's statement. -/
theorem card_anfOnce : Rows.AnfOnceUptoCardSaid :=
  Claim7.holds_tied_plain_at .later [] _ _ _ _ said_anfOnce (fun _ h => by cases h) (by kernel_rfl) (fun _ h => by cases h) anfOnceUpto_row_tie rfl ⟨rfl, rfl⟩ (by kernel_rfl) rfl plain_anfOnce (by kernel_rfl)

end Go.Proofs.YtcoeakdpcigogaaDoor
