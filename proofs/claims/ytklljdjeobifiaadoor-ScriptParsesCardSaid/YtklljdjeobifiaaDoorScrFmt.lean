/-
  script.Format: the walk.
-/
import Derived.Test.YtklljdjeobifiaaDoorScrWld
import Derived.Deep.DeepCutAuto
namespace Go.Proofs.YtklljdjeobifiaaDoor
open Go.ChangeShapes Go.WideShapes Go.ChangeAt Go.RowKit Go.Sort Go.Maps

theorem fmt_step {l : List Cm} {k : Nat} (h : k < l.length) : fmtL (l.take (k + 1)) = fmtL (l.take k) ++ fmtC l[k] := by
  rw [List.take_succ_eq_append_getElem h, fmtL_append]
  unfold fmtL; simp
theorem fmt_part {l : List Cm} {k : Nat} (h : k < l.length) : (fmtL (l.take k)).length + (fmtC l[k]).length ≤ (fmtL l).length := by
  have e : fmtL (l.take (k + 1)) ++ fmtL (l.drop (k + 1)) = fmtL l := by rw [← fmtL_append, List.take_append_drop]
  rw [← e, fmt_step h]
  simp
theorem nums_step {ns : List Int} {j : Nat} (ws : List (List UInt8)) (h : j < ns.length) : (ws ++ (ns.take j).map Lib.itoa) ++ [Lib.itoa ns[j]] = ws ++ (ns.take (j + 1)).map Lib.itoa := by
  rw [List.append_assoc, List.take_succ_eq_append_getElem h, List.map_append]; rfl
/-- The words ahead of the numbers. -/
def preW (s : Shp) (c : Cm) : List (List UInt8) := [s.word] ++ (if s.name = true then [c.name] else [])
theorem wordsC_eq (s : Shp) (c : Cm) : wordsC s c = (preW s c ++ c.nums.map Lib.itoa) ++ (if s.text = true then [Lib.itoa (c.text.count 10 : Nat)] else []) := by
  unfold wordsC preW; simp
theorem preW_len (s : Shp) (c : Cm) : 1 ≤ (preW s c).length ∧ (preW s c).length ≤ 2 := by
  unfold preW; cases s.name <;> simp
theorem bs_app (a b : List UInt8) : bs a ++ bs b = bs (a ++ b) := by
  apply ByteArray.ext
  simp [bs, ByteArray.data_append]
theorem builder_lt {T e : TypeId} {B b : Nat} {xs : List Value} {w : World} (h : Lib.IsBuilder T e B b xs w) : b < w.heap.size := h.elim (fun x => x.lt) (fun x => x.lt)
theorem wordsC_len (s : Shp) (c : Cm) : 1 ≤ (wordsC s c).length ∧ (wordsC s c).length ≤ c.nums.length + 3 := by
  unfold wordsC; cases s.name <;> cases s.text <;> simp
def RetFmt (l : List Cm) (w : World) (e : Ending) (w' : World) : Prop :=
  e = .returned (.tuple #[.string (bs (if okL l = true then fmtL l else [])), .int .i64 (if okL l = true then 0 else 3)]) ∧ Below w.heap.size w w'
set_option maxRecDepth 100000 in
set_option maxHeartbeats 4000000 in
theorem format_any (l : List Cm) (A : Option Addr) (cap : Nat) (w : World) (hL : CmsAt w A l) (hl : l.length ≤ 9223372036854775807) (hs : ∀ c ∈ l, Sm c) (hf : ∀ c ∈ l, Fits c) (hW : Wld w) (hbig : (fmtL l).length ≤ 140737488355328) :
    Calls Tryd.prog 13 #[.slice A l.length cap] w (RetFmt l w) := by
  have HL := Lib.hid hL
  have HS := Lib.hid hs
  have HF := Lib.hid hf
  have HWl := Lib.hid hW
  have HBIG := Lib.hid hbig
  have HV := Lib.hid (validL_any l A cap w hL hl hs)
  clear hL hs hf hW hbig
  cases hok : okL l with
  | false =>
    rw [hok] at HV
    have HR := Lib.hid (fun (w' : World) (hb : Below w.heap.size w w') => show RetFmt l w (.returned (.tuple #[.string ⟨#[]⟩, .int .i64 3])) w' from ⟨by rw [hok]; rfl, hb⟩)
    clear hok
    go_enter Tryd.func13, Tryd.ntmps13
    go_wp2_with fail
    refine HV.out.mono ?_
    rintro e w1 ⟨rfl, hb1⟩
    go_wp2_with fail
    exact bodyPost_ret (v := .tuple #[.string ⟨#[]⟩, .int .i64 3]) (by simp [results, Tryd.results13]) rfl (HR.out _ hb1)
  | true =>
  rw [hok] at HV
  have HA := Lib.hid (show ∀ c ∈ l, okC c = true by unfold okL at hok; simp only [Bool.and_eq_true, List.all_eq_true] at hok; exact hok.2)
  have HR := Lib.hid (fun (w' : World) (hb : Below w.heap.size w w') => show RetFmt l w (.returned (.tuple #[.string (bs (fmtL l)), .int .i64 0])) w' from ⟨by rw [hok]; rfl, hb⟩)
  clear hok
  go_enter Tryd.func13, Tryd.ntmps13
  go_wp2_with fail
  refine HV.out.mono ?_
  rintro e W1 ⟨rfl, hb1⟩
  clear HV
  have bb := below_box W1 (Obj.cells #[.pointer none, .slice none 0 0] 49)
  have q1 := Lib.hid (below_step hb1 hb1.size bb)
  have hBld := Lib.hid (builder_new W1)
  have hw1 := hb1.size
  clear hb1 bb
  go_wp2_with fail
  generalize W1.alloc _ = W2 at q1 hBld ⊢
  go_loopw [18] (fun i wr => ∃ k : Nat, k ≤ l.length ∧ i = .int .i64 k ∧ Hid (Below w.heap.size w wr) ∧ Hid (Lib.IsBuilder 49 5 W1.heap.size W1.heap.size (Lib.byteCells (fmtL (l.take k))) wr)) (fun i _ => l.length - (intOf i).toNat)
  case atStart => exact ⟨0, by omega, rfl, q1, hBld⟩
  case round =>
    obtain ⟨k, hk, rfl, hb, hbl⟩ := hrel
    by_cases hin : k < l.length
    · obtain ⟨b, o, rfl, hc⟩ := (HL.out.mono hb.out).at_ hin
      have hm := List.getElem_mem hin
      have HSM := Lib.hid (HS.out _ hm)
      have HFT := Lib.hid (HF.out _ hm)
      have HOK := Lib.hid (HA.out _ hm)
      have HST := Lib.hid (fmt_step hin)
      have HPT := Lib.hid (Nat.le_trans (fmt_part hin) HBIG.out)
      clear hm
      generalize l[k] = c at *
      obtain ⟨s, hs⟩ := okC_iff.1 HOK.out
      have HSC := Lib.hid hs
      have hm4 := hs.m
      have HFC := Lib.hid (show fmtC c = Lib.join (wordsC s c) [32] ++ 10 :: c.text by unfold fmtC; rw [hs.f])
      obtain ⟨c0, c1, c2, A', cp, c3, hnums⟩ := hc
      have hlt := block_lt_of_cell c0
      have r1 : (0 : Int) ≤ k := by omega
      have r2 : (k : Int) < l.length := by omega
      have bx1 := below_box wr (Obj.cells #[.int .u8 c.kind, .string (bs c.name), .string (bs c.text), .slice A' c.nums.length cp] 42)
      have cb := bx_new wr #[.int .u8 c.kind, .string (bs c.name), .string (bs c.text), .slice A' c.nums.length cp] 42
      have q2 := Lib.hid (below_step hb.out hb.out.size bx1)
      have bl2 := Lib.hid (builder_below hbl.out bx1)
      have ni2 := Lib.hid (hnums.mono bx1)
      clear bx1 hb hbl hnums hs
      go_wp2_with fail
      clear c0 c1 c2 c3
      generalize wr.alloc _ = V1 at q2 cb bl2 ni2 ⊢
      generalize wr.heap.size = bc at *
      refine (find_some c.kind s V1 HSC.out.f).mono ?_
      rintro e V2 ⟨rfl, hb2⟩
      have bx2 := below_box V2 (Obj.cells #[.int .u8 s.kind, .bool s.name, .int .i64 s.nums, .bool s.text] 51)
      have sb := bx_new V2 #[.int .u8 s.kind, .bool s.name, .int .i64 s.nums, .bool s.text] 51
      have hb3 := below_step hb2 hb2.size bx2
      have q3 := Lib.hid (below_step q2.out q2.out.size hb3)
      have bl3 := Lib.hid (builder_below bl2.out hb3)
      have ni3 := Lib.hid (ni2.out.mono hb3)
      have cb3 := cb.below hb3
      clear hb2 bx2 hb3 q2 bl2 ni2 cb
      go_upto_region 8 with fail
      generalize V2.alloc _ = V3 at q3 bl3 ni3 cb3 sb ⊢
      have wa4 := Lib.hid (WA.new V3 s.word)
      have CB3 := Lib.hid cb3
      have SB3 := Lib.hid sb
      obtain ⟨e0, e1, e2, e3, _⟩ := cb3.four
      obtain ⟨f0, f1, f2, f3, _⟩ := sb.four
      have k1 := cb3.lt
      have k2 := sb.lt
      clear cb3 sb
      go_upto_if 32 with fail
      generalize V3.alloc _ = V4 at wa4 ⊢
      obtain ⟨i0, hi0, hz0, hz1, hz2⟩ := info_parts info_str
      have HI := Lib.hid (And.intro hi0 (And.intro hz0 (And.intro hz1 hz2)))
      clear hi0 hz0 hz1 hz2 e0 e1 e2 e3 f0 f1 f2 f3
      have hpl := preW_len s c
      go_cut [10] (fun v wc => Hid (WA V3 wc v (preW s c)))
      case first =>
        cases hsn : s.name with
        | false =>
          have HP := Lib.hid (show preW s c = [s.word] by unfold preW; rw [hsn]; rfl)
          go_wp2_with fail
          go_meet
          rw [HP.out]; exact wa4
        | true =>
          have HP := Lib.hid (show preW s c = [s.word] ++ [c.name] by unfold preW; rw [hsn]; rfl)
          obtain ⟨e0, e1, e2, e3, _⟩ := (CB3.out.below wa4.out.1).four
          have HO := Lib.hid (wa4.out.below (below_box V4 (Obj.cells #[.string (bs c.name)] 9)))
          have hsz := HO.out.1.size
          go_wp2_with (at_builtin; go_loud (refine wpList_app _ rfl _ _ 54 rfl V3.heap.size 9 i0 (.string ⟨#[]⟩) 1 16 Tryd.underlying54 HI.out.1 HI.out.2.1 HI.out.2.2.1 HI.out.2.2.2 rfl (by decide) _ _ _ rfl HO.out.2 (some ⟨V4.heap.size, 0, none⟩) 1 1 [.string (bs c.name)] rfl rfl (cells_newU V4 rfl _ _) (one_str _) (by unfold maxLen; (simp)) (by (simp)) hsz ?_; intro v' w6 hown' hgrow _; have NX := Lib.hid (HO.out.push c.name hgrow hown'); clear hown' hgrow HO hsz))
          go_meet
          rw [HP.out]; exact NX
      case rest =>
        have hwc := hcut
        clear hcut wa4
        obtain ⟨e0, e1, e2, e3, _⟩ := (CB3.out.below hwc.out.1).four
        go_upto_region 12 with fail
        clear e0 e1 e2 e3
        go_loopw [10, 41] (fun v i wr => ∃ j : Nat, j ≤ c.nums.length ∧ i = .int .i64 j ∧ Hid (WA V3 wr v (preW s c ++ (c.nums.take j).map Lib.itoa))) (fun _ i _ => c.nums.length - (intOf i).toNat)
        case atStart => exact ⟨0, by omega, rfl, by rw [List.take_zero, List.map_nil, List.append_nil]; exact hwc⟩
        case round =>
          obtain ⟨j, hj, rfl, hwa⟩ := hrel
          have hll : (preW s c ++ (c.nums.take j).map Lib.itoa).length ≤ 4100 := by rw [List.length_append, List.length_map, List.length_take]; omega
          by_cases hjn : j < c.nums.length
          · obtain ⟨b2, o2, rfl, hcell⟩ := (ni3.out.mono hwa.out.1).at_ hjn
            have hbd := HFT.out _ (List.getElem_mem hjn)
            have HNS := Lib.hid (nums_step (preW s c) hjn)
            generalize c.nums[j] = x at *
            have r3 : (0 : Int) ≤ j := by omega
            have r4 : (j : Int) < c.nums.length := by omega
            have hlb := block_lt_of_cell hcell
            have HWr := Lib.hid (HWl.out.below (below_step q3.out q3.out.size hwa.out.1))
            generalize preW s c ++ (c.nums.take j).map Lib.itoa = ws at *
            go_wp2_with fail
            refine (itoa_any x wr HWr.out hbd.1 hbd.2).mono ?_
            rintro e w5 ⟨rfl, hb5⟩
            have wa5 := Lib.hid (hwa.out.below hb5)
            clear hwa hb5 hcell
            have HO := Lib.hid (wa5.out.below (below_box w5 (Obj.cells #[.string (bs (Lib.itoa x))] 9)))
            have hsz := HO.out.1.size
            go_wp2_with (at_builtin; go_loud (refine wpList_app _ rfl _ _ 54 rfl V3.heap.size 9 i0 (.string ⟨#[]⟩) 1 16 Tryd.underlying54 HI.out.1 HI.out.2.1 HI.out.2.2.1 HI.out.2.2.2 rfl (by decide) _ _ _ rfl HO.out.2 (some ⟨w5.heap.size, 0, none⟩) 1 1 [.string (bs (Lib.itoa x))] rfl rfl (cells_newU w5 rfl _ _) (one_str _) (by unfold maxLen; omega) (by omega) hsz ?_; intro v' w6 hown' hgrow _; have NX := Lib.hid (HO.out.push (Lib.itoa x) hgrow hown'); clear hown' hgrow HO hsz))
            exact ⟨⟨j + 1, by omega, by go_num, by rw [← HNS.out]; exact NX⟩, by simp [intOf]; omega⟩
          · obtain rfl : j = c.nums.length := by omega
            rw [List.take_length] at hwa hll
            obtain ⟨f0, f1, f2, f3, _⟩ := (SB3.out.below hwa.out.1).four
            go_upto_if 52 with fail
            go_cut [10] (fun v wc => Hid (WA V3 wc v (wordsC s c)))
            case first =>
              have HW2 := Lib.hid (wordsC_eq s c)
              have HWr := Lib.hid (HWl.out.below (below_step q3.out q3.out.size hwa.out.1))
              have HCT := Lib.hid (show c.text.count 10 ≤ 9223372036854775807 from Nat.le_trans List.count_le_length HSM.out.t)
              obtain ⟨e0, e1, e2, e3, _⟩ := (CB3.out.below hwa.out.1).four
              generalize preW s c ++ c.nums.map Lib.itoa = ws at *
              cases hst : s.text with
              | false =>
                rw [hst] at HW2
                go_wp2_with fail
                go_meet
                rw [HW2.out]; simpa using hwa
              | true =>
                rw [hst] at HW2
                have HWX := Lib.hid (show wordsC s c = ws ++ [Lib.itoa (c.text.count 10 : Nat)] from HW2.out)
                clear HW2
                go_wp2_with fail
                refine (count_any c.text 10 wr).mono ?_
                rintro e w5 ⟨rfl, rfl⟩
                have hct := HCT.out
                generalize c.text.count 10 = m at *
                go_wp2_with fail
                refine (itoa_any m w5 HWr.out (by omega) (by omega)).mono ?_
                rintro e w7 ⟨rfl, hb7⟩
                have wa7 := Lib.hid (hwa.out.below hb7)
                clear hwa hb7 e0 e1 e2 e3
                have HO := Lib.hid (wa7.out.below (below_box w7 (Obj.cells #[.string (bs (Lib.itoa (m : Nat)))] 9)))
                have hsz := HO.out.1.size
                go_wp2_with (at_builtin; go_loud (refine wpList_app _ rfl _ _ 54 rfl V3.heap.size 9 i0 (.string ⟨#[]⟩) 1 16 Tryd.underlying54 HI.out.1 HI.out.2.1 HI.out.2.2.1 HI.out.2.2.2 rfl (by decide) _ _ _ rfl HO.out.2 (some ⟨w7.heap.size, 0, none⟩) 1 1 [.string (bs (Lib.itoa (m : Nat)))] rfl rfl (cells_newU w7 rfl _ _) (one_str _) (by unfold maxLen; omega) (by omega) hsz ?_; intro v' w6 hown' hgrow _; have NX := Lib.hid (HO.out.push (Lib.itoa (m : Nat)) hgrow hown'); clear hown' hgrow HO hsz))
                go_meet
                rw [HWX.out]; exact NX
            case rest =>
              have hwc := hcut
              clear hcut hwa f0 f1 f2 f3
              obtain ⟨Av, cv, rfl, hcap, hA⟩ := hwc.out.form
              have hwl := wordsC_len s c
              obtain ⟨g, rfl⟩ := hA (by omega)
              have hb3d := Lib.hid (belowDrawn hwc.out.1)
              have bld := Lib.hid (builder_below bl3.out hb3d.out)
              have q4 := Lib.hid (below_step q3.out q3.out.size hb3d.out)
              obtain ⟨e0, e1, e2, e3, _⟩ := (CB3.out.below hb3d.out).four
              have hjl : (Lib.join (wordsC s c) [32]).length + (c.text.length + 1) = (fmtC c).length := by rw [HFC.out]; simp
              have hpt := HPT.out
              have HJ := Lib.hid (join_any (wordsC s c) g 0 cv wc.drew (show StrsAt wc.drew (some ⟨g, 0, none⟩) ((wordsC s c).map bs) from hwc.out.strs) (by omega) hcap (by omega) (by omega))
              have HEQ := Lib.hid (show (bs (Lib.join (wordsC s c) [32]) ++ ⟨#[10]⟩) ++ bs c.text = bs (fmtC c) by rw [show (⟨#[10]⟩ : ByteArray) = bs [10] from rfl, bs_app, bs_app, HFC.out, List.append_assoc]; rfl)
              have hw1s := builder_lt bld.out
              clear hwc hcap hb3d
              have hz0 := bs_size (Lib.join (wordsC s c) [32])
              have hz2 := bs_size c.text
              have hz3 : ¬ 9223372036854775807 < (bs (Lib.join (wordsC s c) [32])).size + 1 := by omega
              have hz4 : ¬ 9223372036854775807 < (bs (Lib.join (wordsC s c) [32])).size + 1 + (bs c.text).size := by omega
              clear hz0 hz2
              go_upto_region 18 with fail
              go_region_law (first | (go_simp; go_at_call 26; refine HJ.out.mono ?_; rintro e w7 ⟨rfl, hb7⟩; have bl7 := Lib.hid (builder_below bld.out hb7); have q7 := Lib.hid (below_step q4.out q4.out.size hb7); have g2 := below_cell hb7 e2; have hw7 := hb7.size) | (go_simp; go_at_call 25; rw [HEQ.out]; refine (ws_any _ _ _ _ _ bl7.out (by omega) (by have := builder_lt bl7.out; omega)).mono ?_; rintro e w8 ⟨rfl, bl8, hb8⟩; have q8 := Lib.hid (q7.out.trans (hb8.mono hw1)); have BL8 := Lib.hid bl8; clear hb8 bl8) | fail)
              all_goals
                go_wp2_with fail
                exact ⟨⟨k + 1, by omega, by go_num, q8, by rw [HST.out]; exact BL8⟩, by simp [intOf]; omega⟩
    · obtain rfl : k = l.length := by omega
      rw [List.take_length] at hbl
      go_wp2_with fail
      refine (bstr_any _ _ _ wr hbl.out (by have := builder_lt hbl.out; omega)).mono ?_
      rintro e w8 ⟨rfl, hb8⟩
      have q8 := Lib.hid (hb.out.trans (hb8.mono hw1))
      go_wp2_with fail
      exact bodyPost_ret (v := .tuple #[.string (bs (fmtL l)), .int .i64 0]) (by simp [results, Tryd.results13]) rfl (HR.out _ q8.out)

end Go.Proofs.YtklljdjeobifiaaDoor
