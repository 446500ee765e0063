/-
  The contract of the reference's Encode.
-/
import Derived.Test.YtodiijoeeeeicaaDoorAsmRBn
namespace Go.Proofs.YtodiijoeeeeicaaDoor
open Go.ChangeShapes Go.WideShapes Go.ChangeAt Go.RowKit Go.Sort

theorem WB.pushes {B : Nat} {W wc w' : World} {v v' : Value} {l m : List UInt8} (h : WB B W wc v l) (hB : B ≤ wc.heap.size) (hg : wc.grownBy w' v.ownBlock) {n : Nat} (hm : m.length = n) (hown : w'.ownsRow B 5 1 v' (l.length + n) (Lib.byteCells l ++ Lib.byteCells m)) : WB B W w' v' (l ++ m) :=
  ⟨h.1.grown hg hB (fun k hk => own_block_geB h.2.1 k hk), by rw [List.length_append, Lib.byteCells_append, hm]; exact hown, h.2.2.grown hg (row_kind h.2.1)⟩
theorem own_base {w : World} {B B' : Nat} {e : TypeId} {size n : Nat} {v : Value} {xs : List Value} (h : w.ownsRow B e size v n xs) (hb : B' ≤ B) : w.ownsRow B' e size v n xs :=
  ⟨h.1, h.2.imp id (fun ⟨g, cap, cur, e, hg, r⟩ => ⟨g, cap, cur, e, Nat.le_trans hb hg, r⟩)⟩
theorem cls_six {op j : Nat} (h : j < (clsL op).length) : (clsL op).getD j 0 = 114 ∨ (clsL op).getD j 0 = 107 ∨ (clsL op).getD j 0 = 110 ∨ (clsL op).getD j 0 = 116 ∨ (clsL op).getD j 0 = 101 ∨ (clsL op).getD j 0 = 111 :=
  clsL_mem (op := op) (by rw [List.getD_eq_getElem?_getD, List.getElem?_eq_getElem h]; exact List.getElem_mem h)
set_option maxRecDepth 100000 in
set_option maxHeartbeats 4000000 in
theorem rencode_any (l : List Ins) (A : Option Addr) (cap : Nat) (w : World) (hC : CodeAt w A l) (hY : Bytes l) (hl : l.length ≤ 140737488355328) :
    Calls Tryd.prog 16 #[.slice A l.length cap] w (RetE l w) := by
  have HC := Lib.hid hC
  have HCK := Lib.hid (rcheck_any l A cap w hC hY hl)
  clear hC
  by_cases hk0 : checkA l = 0
  rotate_left
  · have HR := Lib.hid (fun (w' : World) (hb : Below w.heap.size w w') => show RetE l w (.returned (.tuple #[.slice none 0 0, .int .i64 (checkA l)])) w' from by unfold RetE; rw [if_neg hk0]; exact ⟨rfl, hb⟩)
    have hne : (checkA l != 0) = true := bne_iff_ne.2 hk0
    clear hk0
    generalize checkA l = ce at *
    go_enter Tryd.func16, Tryd.ntmps16
    go_wp2_with fail
    refine HCK.out.mono ?_
    rintro e w1 ⟨rfl, hb1⟩
    go_wp2_with fail
    exact bodyPost_ret (v := .tuple #[.slice none 0 0, .int .i64 ce]) (by simp [results, Tryd.results16]) rfl (HR.out _ hb1)
  · obtain ⟨hn, hval⟩ := checkA_zero hk0
    have HR := Lib.hid (fun (w' : World) (v : Value) (hb : WB w.heap.size w w' v (encA l)) => show RetE l w (.returned (.tuple #[v, .int .i64 0])) w' from by unfold RetE; rw [if_pos hk0]; exact ⟨v, rfl, hb⟩)
    rw [hk0] at HCK
    clear hk0 hval
    obtain ⟨i0, hi0, hz0, hz1, hz2⟩ := info_parts info_u8
    have HI := Lib.hid (And.intro hi0 (And.intro hz0 (And.intro hz1 hz2)))
    clear hi0 hz0 hz1 hz2
    go_enter Tryd.func16, Tryd.ntmps16
    go_wp2_with fail
    refine HCK.out.mono ?_
    rintro e w1 ⟨rfl, hb1⟩
    go_wp2_with fail
    refine (rbytes_any l.length 4 w1 (by omega)).mono ?_
    rintro e w2 ⟨u, rfl, hw2⟩
    have H2 := Lib.hid (show WB w.heap.size w w2 u (encP l 0) from ⟨below_step hb1 hb1.size hw2.1, by unfold encP; simpa using own_base hw2.2.1 hb1.size, (kept_below (Lib.OthersKept.refl _ _ _) hb1).trans hw2.2.2⟩)
    clear hb1 hw2 HCK
    go_wp2_with fail
    go_loopw [5, 6] (fun v i wr => ∃ k : Nat, k ≤ l.length ∧ i = .int .i64 k ∧ Hid (WB w.heap.size w wr v (encP l k))) (fun _ i _ => l.length - (intOf i).toNat)
    case atStart => exact ⟨0, by omega, rfl, H2⟩
    case round =>
      obtain ⟨k, hk, rfl, hw⟩ := hrel
      have hsz := hw.out.1.size
      have hlen := encP_len l k hk
      by_cases hin : k < l.length
      · obtain ⟨b, o, rfl, hi⟩ := (HC.out.mono hw.out.1).at_ hin
        have hop := hY.at_ hin
        have HE := Lib.hid (encP_succ hin)
        have hX := Lib.hid hi
        obtain ⟨c0, c1, c2, c3, c4⟩ := id hi
        have HCI : Hid (∀ (w' : World), Below w.heap.size w w' → InsO w' b (o + k * 5) l[k]) := Lib.hid (fun w' hb => by
          obtain ⟨b', o', e, hi'⟩ := (HC.out.mono hb).at_ hin
          cases e
          exact hi')
        generalize l[k] = x at *
        have r1 : (0 : Int) ≤ k := by omega
        have r2 : (k : Int) < l.length := by omega
        have hcl := (clsL_len x.op).2
        have HO := Lib.hid (hw.out.below hsz (below_box wr (Obj.cells #[.int .u8 x.op] 5)))
        have hs9 := HO.out.1.size
        have HB := Lib.hid (show (x.op : Int) = ((UInt8.ofNat x.op).toNat : Int) by rw [UInt8.toNat_ofNat']; omega)
        clear hi
        go_upto_region 8 with fail
        go_upto_region 9 with (at_builtin; go_loud (refine wpList_app _ rfl _ _ 29 rfl w.heap.size 5 i0 (.int .u8 0) 1 1 Tryd.underlying29 HI.out.1 HI.out.2.1 HI.out.2.2.1 HI.out.2.2.2 rfl (by decide) _ _ _ rfl HO.out.2.1 (some ⟨wr.heap.size, 0, none⟩) 1 1 [.int .u8 x.op] rfl rfl (cells_newU wr rfl _ _) (one_u8 _) (by unfold maxLen; omega) (by omega) hs9 ?_; intro v' w6 hown' hgrow _; rw [HB.out] at hown'; have NX := Lib.hid (HO.out.push hs9 _ hgrow hown'); clear hown' hgrow HO hs9))
        have HCL := Lib.hid (rclasses_any x.op hop w6)
        obtain ⟨d0, d1, d2, d3, d4⟩ := HCI.out _ NX.out.1
        clear c0 c1 c2 c3 c4 hX hw
        go_wp2_with fail
        refine HCL.out.mono ?_
        rintro e w7 ⟨rfl, hb7⟩
        have N7 := Lib.hid (NX.out.below NX.out.1.size hb7)
        have HLE := Lib.hid (show encP l (k + 1) = (encP l k ++ [UInt8.ofNat x.op]) ++ opsB x (clsL x.op).length by rw [HE.out, List.append_assoc]; rfl)
        have hq0 : (encP l k ++ [UInt8.ofNat x.op]).length ≤ 10000000 := by rw [List.length_append]; simp; omega
        have hsz8 := bs_size (clsL x.op)
        clear d0 d1 d2 d3 d4 hb7 HCL NX HE hlen
        generalize encP l k ++ [UInt8.ofNat x.op] = q at *
        go_upto_region 11 with fail
        go_loopw [5, 9] (fun u i wr => ∃ j : Nat, j ≤ (clsL x.op).length ∧ i = .int .i64 j ∧ Hid (WB w.heap.size w wr u (q ++ opsB x j))) (fun _ i _ => (clsL x.op).length - (intOf i).toNat)
        case atStart => exact ⟨0, Nat.zero_le _, rfl, by
          rw [show q ++ opsB x 0 = q by simp [opsB]]
          exact N7⟩
        case round =>
          obtain ⟨j, hj, rfl, hwm⟩ := hrel
          have hszm := hwm.out.1.size
          have hll : (q ++ opsB x j).length ≤ 20000000 := by have := opsB_len x j; rw [List.length_append]; omega
          by_cases hjn : j < (clsL x.op).length
          · obtain ⟨c0, c1, c2, c3, c4⟩ := HCI.out _ hwm.out.1
            have s1 : (0 : Int) ≤ j := by omega
            have s3 : (j : Int) < (bs (clsL x.op)).size := by omega
            have hgd : (clsL x.op).getD j 0 = (clsL x.op)[j]'hjn := by rw [List.getD_eq_getElem?_getD, List.getElem?_eq_getElem hjn]; rfl
            have hsix := cls_six hjn
            rw [hgd] at hsix
            have HS := Lib.hid (show (q ++ opsB x j) ++ putL (opd x.a x.b x.c x.d j) (wid ((clsL x.op)[j]'hjn)) = q ++ opsB x (j + 1) by rw [opsB_succ, hgd, List.append_assoc]; rfl)
            have HOP := Lib.hid (ropd_any x.op x.a x.b x.c x.d j (by omega) wr.drew)
            have hpl := putL_len (opd x.a x.b x.c x.d j) (wid ((clsL x.op)[j]'hjn))
            have hw8 := wid_le ((clsL x.op)[j]'hjn)
            have HD := Lib.hid (show WB w.heap.size w wr.drew _ _ from ⟨belowDrawn hwm.out.1, hwm.out.2.1, hwm.out.2.2⟩)
            have s2 : (k : Int) < l.length := by omega
            have HU : Hid (∀ (w7 w8 : World) (v : Value) (_ : Below wr.drew.heap.size wr.drew w7) (_ : WB w7.heap.size w7 w8 v (putL (opd x.a x.b x.c x.d j) (wid ((clsL x.op)[j]'hjn)))), (∃ A8 c8, v = .slice A8 (wid ((clsL x.op)[j]'hjn)) c8 ∧ BysAt w8 A8 (putL (opd x.a x.b x.c x.d j) (wid ((clsL x.op)[j]'hjn)))) ∧ WB w.heap.size w w8 u5 (q ++ opsB x j)) := Lib.hid (fun w7 w8 v hb7 hw => by
              obtain ⟨A8, c8, rfl, _, hbys⟩ := bys_of_own hw.2.1
              rw [hpl] at *
              have h7 := HD.out.below HD.out.1.size hb7
              exact ⟨⟨A8, c8, rfl, hbys⟩, h7.below h7.1.size hw.1⟩)
            go_upto_region 13 with fail
            go_region_law (first
              | (go_simp; go_at_call 40; refine HOP.out.mono ?_; rintro e w7 ⟨rfl, hb7⟩; have H7 := Lib.hid hb7; clear hb7)
              | (go_simp; go_at_call 41; refine (rwidth_any _ hsix _).mono ?_; rintro e wW ⟨rfl, rfl⟩)
              | (go_simp; go_at_call 38; refine (rbytes_any _ _ w7 hw8).mono ?_; rintro e w8 ⟨v8, rfl, hw8b⟩; obtain ⟨⟨A8, c8, rfl, hbys⟩, hn8⟩ := HU.out w7 w8 v8 H7.out hw8b; have N8 := Lib.hid hn8; have HB8 := Lib.hid hbys; clear hw8b hbys hn8)
              | (refine step_app _ (by rfl) (.tmp 47) (.tmp 58) 29 (by rfl) w.heap.size 5 i0 (.int .u8 0) 1 1 Tryd.underlying29 HI.out.1 HI.out.2.1 HI.out.2.2.1 HI.out.2.2.2 rfl (by decide) u5 _ _ (by simp [Act.eval]) N8.out.2.1 A8 (wid ((clsL x.op)[j]'hjn)) c8 (Lib.byteCells (putL (opd x.a x.b x.c x.d j) (wid ((clsL x.op)[j]'hjn)))) (by simp [Act.eval]) (by rw [Lib.byteCells_length, hpl, Nat.mul_one]) HB8.out.cells (one_byte _) (by unfold maxLen; omega) (by omega) N8.out.1.size ?_; intro v' w9 hown' hgrow _; have NX := Lib.hid (N8.out.pushes N8.out.1.size hgrow hpl hown'); clear hown' hgrow))
            all_goals
              go_wp2_with fail
              exact ⟨⟨j + 1, by omega, by go_num, by rw [← HS.out]; exact NX⟩, by simp [intOf]; omega⟩
          · obtain rfl : j = (clsL x.op).length := by omega
            have HN := Lib.hid (show WB w.heap.size w wr _ (encP l (k + 1)) from by rw [HLE.out]; exact hwm.out)
            go_wp2_with fail
            exact ⟨⟨k + 1, by omega, by go_num, HN⟩, by simp [intOf]; omega⟩
      · obtain rfl : k = l.length := by omega
        have HN := Lib.hid (show WB w.heap.size w wr _ (encA l) from by rw [← encP_all]; exact hw.out)
        go_wp2_with fail
        exact bodyPost_ret (v := .tuple #[u5, .int .i64 0]) (by simp [results, Tryd.results16]) rfl (HR.out _ _ HN.out)

end Go.Proofs.YtodiijoeeeeicaaDoor
