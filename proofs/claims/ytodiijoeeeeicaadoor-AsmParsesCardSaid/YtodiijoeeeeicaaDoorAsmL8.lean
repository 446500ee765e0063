/-
  AsmBytes: the walk.
-/
import Derived.Test.YtodiijoeeeeicaaDoorAsmL9
namespace Go.Proofs.YtodiijoeeeeicaaDoor
open Go.ChangeShapes Go.WideShapes Go.ChangeAt Go.RowKit Go.Sort

theorem encA_len (l : List Ins) : 4 ≤ (encA l).length := by
  unfold encA
  rw [List.length_append, putL_len]
  omega
theorem encA_small {l : List Ins} (hn : l.length ≤ 40) : (encA l).length ≤ 1400 := by
  have := encP_len l l.length (Nat.le_refl _)
  rw [encP_all] at this
  omega
theorem BysAt.take {w : World} {A : Option Addr} {l : List UInt8} (h : BysAt w A l) (n : Nat) : BysAt w A (l.take n) := fun k x hk => by
  have hlt := (List.getElem?_eq_some_iff.1 hk).1
  rw [List.length_take] at hlt
  refine h k x ?_
  rw [← hk, List.getElem?_take, if_pos (by omega)]
theorem BysAt.cells {w : World} {A : Option Addr} {l : List UInt8} (h : BysAt w A l) : CellsAt w A (Lib.byteCells l) := fun j u hj => by
  unfold Lib.byteCells at hj
  rw [List.getElem?_map] at hj
  obtain ⟨x, hx, rfl⟩ := Option.map_eq_some_iff.1 hj
  obtain ⟨b, o, e, h1⟩ := h j x hx
  exact ⟨b, o, e, h1⟩
theorem one_byte (l : List UInt8) : ∀ u ∈ Lib.byteCells l, u.oneCell' = true := by
  intro u hu
  unfold Lib.byteCells at hu
  obtain ⟨c, _, rfl⟩ := List.mem_map.1 hu
  rfl
set_option maxRecDepth 100000 in
set_option maxHeartbeats 2000000 in
theorem asmBytes_walk (l : List Ins) (A : Option Addr) (cap : Nat) (cut mo : Nat) (hcut : cut < 65536) (hmo : mo < 256) (w : World) (hC : CodeAt w A l) (hl : l.length ≤ 9223372036854775807) (hY : Bytes l) (hF : ∀ x ∈ l, FitI x) (hT : Tab w) (hS : TabS w) (hW : Wld w) :
    Calls Tryd.prog 10 #[.slice A l.length cap, .int .u16 cut, .int .u8 mo] w fun e w' => e = .returned (.bool true) ∧ Below w.heap.size w w' := by
  have HAW := Lib.hid (awake_any w hT hS hW)
  have HTS := Lib.hid (And.intro hT (And.intro hS hW))
  have HL := Lib.hid hC
  have HY := Lib.hid hY
  have HF := Lib.hid hF
  have HCM := Lib.hid (And.intro hcut hmo)
  obtain ⟨i0, hi0, hz0, hz1, hz2⟩ := info_parts info_u8
  have HI := Lib.hid (And.intro hi0 (And.intro hz0 (And.intro hz1 hz2)))
  clear hi0 hz0 hz1 hz2
  clear hT hS hW hC hY hF hcut hmo
  go_enter Tryd.func10, Tryd.ntmps10
  go_wp2_with fail
  refine HAW.out.mono ?_
  rintro e W1 ⟨rfl, hb1⟩
  have q1 := Lib.hid hb1
  clear hb1 HAW
  by_cases h40 : 40 < l.length
  · have h40' : (40 : Int) < l.length := by omega
    go_wp2_with fail
    go_ret
    exact ⟨rfl, q1.out⟩
  have h40' : (l.length : Int) ≤ 40 := by omega
  have HE := Lib.hid (encode_any l A cap W1 (HL.out.mono q1.out) HY.out (HTS.out.1.mono q1.out) (by omega))
  have H40 := Lib.hid (show l.length ≤ 40 by omega)
  clear hl h40
  go_wp2_with fail
  refine HE.out.mono ?_
  rintro e W2 he
  unfold RetE at he
  by_cases hk0 : checkA l = 0
  rotate_left
  · rw [if_neg hk0] at he
    obtain ⟨rfl, hb2⟩ := he
    have q2 := Lib.hid (below_step q1.out q1.out.size hb2)
    have hne : (checkA l != 0) = true := bne_iff_ne.2 hk0
    clear hb2 HE
    generalize checkA l = ce at *
    go_wp2_with fail
    go_ret
    exact ⟨rfl, q2.out⟩
  rw [if_pos hk0] at he
  have HV := Lib.hid (chk_fit hk0 HF.out)
  obtain ⟨v2, rfl, hw2⟩ := he
  obtain ⟨B, cb, rfl, hcb, hby⟩ := bys_of_own hw2.2.1
  have q2 := Lib.hid (below_step q1.out q1.out.size hw2.1)
  have hl4 := encA_len l
  have hls := encA_small H40.out
  have HB2 := Lib.hid hby
  have HDA := Lib.hid (decA_enc HV.out (by have := H40.out; omega))
  have HDM := Lib.hid (decA_more HV.out (by have := H40.out; omega) (UInt8.ofNat mo))
  have HDC := Lib.hid (fun (k : Nat) (hk : k < (encA l).length) => decA_cut HV.out (by have := H40.out; omega) hk)
  clear hw2 hby HE hk0
  generalize encA l = b at *
  obtain ⟨bB, oB, rfl, _⟩ := HB2.out.at_ (k := 0) (by omega)
  have HD1 := Lib.hid (decode_any b (some ⟨bB, oB, none⟩) cb W2 HB2.out hcb (HTS.out.1.mono q2.out))
  have r1 : ((b.length : Int) == 0) = false := beq_eq_false_iff_ne.2 (by omega)
  go_wp2_with fail
  refine HD1.out.mono ?_
  rintro e W3 he
  unfold RetDA at he
  rw [HDA.out] at he
  obtain ⟨v3, rfl, hw3, _⟩ := he
  obtain ⟨A3, c3, rfl, hcode3⟩ := code_of_own hw3.2
  have q3 := Lib.hid (below_step q2.out q2.out.size hw3.1)
  have HB3 := Lib.hid (HB2.out.mono hw3.1)
  have HC3 := Lib.hid hcode3
  clear hw3 hcode3 HD1
  have hkl : cut % b.length < b.length := Nat.mod_lt _ (by omega)
  have hm1 : Int.tmod (cut : Int) (b.length : Int) = ((cut % b.length : Nat) : Int) := (Int.ofNat_tmod cut b.length).symm
  have hm2 : (cut : Int) % (b.length : Int) = ((cut % b.length : Nat) : Int) := (Int.natCast_emod cut b.length).symm
  have hcw : wrap64 (cut : Int) = cut := by have := HCM.out.1; unfold wrap64; omega
  have hcw2 : IntKind.i64.wrap (cut : Int) = cut := by have := HCM.out.1; rw [IntKind.wrap_i64]; omega
  have hb0 : ¬ (b.length : Int) = 0 := by omega
  generalize cut % b.length = k at *
  have hkb : (k : Int) ≤ cb := by omega
  have htk : (b.take k).length = k := by rw [List.length_take]; omega
  have HD2 := Lib.hid (decode_any (b.take k) (some ⟨bB, oB, none⟩) cb W3 (HB3.out.take k) (by omega) (HTS.out.1.mono q3.out))
  rw [htk] at HD2
  have HDK := Lib.hid (HDC.out k hkl)
  clear HDC
  go_wp2_with fail
  refine HD2.out.mono ?_
  rintro e W4 he
  unfold RetDA at he
  rw [HDK.out] at he
  obtain ⟨hb4, rfl⟩ := he
  have q4 := Lib.hid (below_step q3.out q3.out.size hb4)
  have HB4 := Lib.hid (HB3.out.mono hb4)
  have HC4 := Lib.hid (HC3.out.mono hb4)
  clear hb4 HD2 HDK HB3 HC3
  have HE1 := Lib.hid (own_empty W4 (e := 5) (size := 1))
  have HBX := Lib.hid (below_box W4 (Obj.cells #[] 5))
  go_wp2_with (at_builtin; first
    | (refine wpList_app _ rfl _ _ 29 rfl W4.heap.size 5 i0 (.int .u8 0) 1 1 Tryd.underlying29 HI.out.1 HI.out.2.1 HI.out.2.2.1 HI.out.2.2.2 rfl (by decide) _ 0 [] rfl HE1.out (some ⟨bB, oB, none⟩) b.length cb (Lib.byteCells b) rfl (by rw [Lib.byteCells_length]; omega) (HB4.out.mono HBX.out).cells (one_byte b) (by unfold maxLen; omega) (by omega) HBX.out.size ?_; intro v5 w5 hown5 hg5 _; have HO5 := Lib.hid hown5; have HG5 := Lib.hid (HBX.out.grown hg5 HBX.out.size (fun k hk => by cases hk; exact Nat.le_refl _)); clear hown5 hg5)
    | (refine wpList_app _ rfl _ _ 29 rfl W4.heap.size 5 i0 (.int .u8 0) 1 1 Tryd.underlying29 HI.out.1 HI.out.2.1 HI.out.2.2.1 HI.out.2.2.2 rfl (by decide) _ _ _ rfl (own_below HO5.out (below_box w5 _)) (some ⟨w5.heap.size, 0, none⟩) 1 1 [.int .u8 mo] rfl rfl (cells_newU w5 rfl _ _) (one_u8 _) (by unfold maxLen; omega) (by omega) (below_step HG5.out HG5.out.size (below_box w5 _)).size ?_; intro v6 w6 hown6 hg6 _; have HO6 := Lib.hid hown6; have HG6 := Lib.hid ((below_step HG5.out HG5.out.size (below_box w5 (Obj.cells #[.int .u8 mo] 5))).grown hg6 (below_step HG5.out HG5.out.size (below_box w5 (Obj.cells #[.int .u8 mo] 5))).size (fun k hk => (HO5.out.lt k hk).1)); clear hown6 hg6))
  have hmo2 : (UInt8.ofNat mo).toNat = mo := UInt8.toNat_ofNat_of_lt' HCM.out.2
  have hown : w6.ownsRow W4.heap.size 5 1 v6 (b ++ [UInt8.ofNat mo]).length (Lib.byteCells (b ++ [UInt8.ofNat mo])) := by
    have h := HO6.out
    rw [List.length_append, Lib.byteCells_append]
    simpa [Lib.byteCells, hmo2] using h
  obtain ⟨A6, c6, rfl, hc6, hby6⟩ := bys_of_own hown
  have q6 := Lib.hid (below_step q4.out q4.out.size HG6.out)
  have HC6 := Lib.hid (HC4.out.mono HG6.out)
  have HD3 := Lib.hid (decode_any (b ++ [UInt8.ofNat mo]) A6 c6 w6 hby6 hc6 (HTS.out.1.mono q6.out))
  clear hown hby6 HO6 HG6 HE1 HBX HO5 HG5
  refine HD3.out.mono ?_
  rintro e W7 he
  unfold RetDA at he
  rw [HDM.out] at he
  obtain ⟨hb7, rfl⟩ := he
  have q7 := Lib.hid (below_step q6.out q6.out.size hb7)
  have HSM := Lib.hid (same_self l A3 A c3 cap W7 (HC6.out.mono hb7) (HL.out.mono q7.out) (by have := H40.out; omega))
  clear hb7 HD3
  go_wp2_with fail
  refine HSM.out.mono ?_
  rintro e W8 ⟨rfl, hb8⟩
  have q8 := Lib.hid (below_step q7.out q7.out.size hb8)
  go_wp2_with fail
  go_ret
  exact ⟨rfl, q8.out⟩

end Go.Proofs.YtodiijoeeeeicaaDoor
