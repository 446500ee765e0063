/-
  The contract of the reference's Parse.
-/
import Derived.Test.YtodiijoeeeeicaaDoorAsmRRe
import Derived.Test.YtodiijoeeeeicaaDoorAsmPrs
namespace Go.Proofs.YtodiijoeeeeicaaDoor
open Go.ChangeShapes Go.WideShapes Go.ChangeAt Go.RowKit Go.Sort

theorem cutA_here {l : List UInt8} {k : Nat} (hall : ∀ j x, j < k → l[j]? = some x → x ≠ 10) (h : l[k]? = some 10) : cutA l = (l.take k, l.drop (k + 1), decide (k < l.length)) := by
  unfold cutA
  rw [cut_here hall h]
  have := (List.getElem?_eq_some_iff.1 h).1
  simp [this]
theorem cutA_end {l : List UInt8} (hall : ∀ j x, j < l.length → l[j]? = some x → x ≠ 10) : cutA l = (l.take l.length, l.drop (l.length + 1), decide (l.length < l.length)) := by
  unfold cutA
  rw [cutL_none.2 fun b hb => by
    obtain ⟨j, hj⟩ := List.getElem?_of_mem hb
    exact hall j b (List.getElem?_eq_some_iff.1 hj).1 hj]
  rw [List.take_length, List.drop_of_length_le (by omega)]
  simp
set_option maxRecDepth 100000 in
set_option maxHeartbeats 4000000 in
theorem rparse_any (s : List UInt8) (w : World) (hs : s.length ≤ 1000000000) :
    Calls Tryd.prog 18 #[.string (bs s)] w (RetPA s w) := by
  have HSL := Lib.hid hs
  clear hs
  obtain ⟨i0, hi0, hz0, hz1, hz2⟩ := info_parts info_ins
  have HI := Lib.hid (And.intro hi0 (And.intro hz0 (And.intro hz1 hz2)))
  clear hi0 hz0 hz1 hz2
  have H0 := Lib.hid (show PrR w w (.slice none 0 0) s s [] from ⟨⟨Below.refl _ _, World.ownsRow_nil _ _ _ _⟩, fun k x h => by simp at h, by simp, Nat.le_refl _, rfl⟩)
  go_enter Tryd.func18, Tryd.ntmps18
  go_wp2_with fail
  go_loopw [0, 5, 6] (fun t u i wr => ∃ (r : List UInt8) (acc : List Ins), t = .string (bs r) ∧ i = .int .i64 ((acc.length : Int) + 1) ∧ Hid (PrR w wr u s r acc)) (fun t _ _ _ => match t with | .string q => q.size | _ => 0)
  case atStart => exact ⟨s, [], rfl, rfl, H0⟩
  case round =>
    obtain ⟨r, acc, rfl, rfl, hd⟩ := hrel
    obtain ⟨A, c, rfl⟩ := ownlen hd.out.1.2
    by_cases hr0 : r = []
    · subst hr0
      have HR := Lib.hid (show RetPA s w (.returned (.tuple #[.slice A acc.length c, .int .i64 0, .int .i64 0])) wr from by
        unfold RetPA
        rw [hd.out.2.2.2.2, prsA, if_pos rfl]
        exact ⟨_, rfl, hd.out.1, hd.out.2.1⟩)
      have hne : (bs ([] : List UInt8)).toList.isEmpty = true := by rw [ByteArray.toList_eq, data_bs]; rfl
      clear hd H0
      go_wp2_with fail
      exact bodyPost_ret (v := .tuple #[.slice A acc.length c, .int .i64 0, .int .i64 0]) (by simp [results, Tryd.results18]) rfl HR.out
    · have hne : (bs r).toList.isEmpty = false := by
        rw [ByteArray.toList_eq, data_bs]
        simpa using hr0
      have HST := Lib.hid (show parseA s = if 65536 ≤ acc.length then .err (acc.length + 1) 5 else match readI (cutA r).1 with
          | none => .err (acc.length + 1) 3
          | some x => if (cutA r).2.2 = false then .err (acc.length + 1) 4 else prsA r.length (cutA r).2.1 (acc ++ [x]) by
        rw [hd.out.2.2.2.2, prsA, if_neg hr0]
        by_cases hfu : 65536 ≤ acc.length
        · rw [if_pos hfu, if_pos hfu]
        · rw [if_neg hfu, if_neg hfu]
          cases readI (cutA r).1 <;> rfl)
      have HRS := Lib.hid (And.intro hd.out.2.2.2.1 hd.out.2.2.1)
      have HW0 := Lib.hid hd.out.1
      have HY := Lib.hid hd.out.2.1
      obtain ⟨wo, rfl⟩ : ∃ wo, wo = wr := ⟨_, rfl⟩
      clear hd H0
      have hz := bs_size r
      have hrl : r.length ≤ 1000000000 := by have := HRS.out.1; have := HSL.out; omega
      go_upto_block 2 with fail
      go_cut [7] from 10 to 51 (fun v wc => ∃ n : Nat, v = .int .i64 n ∧ wc = wo ∧ Hid (n ≤ r.length ∧ cutA r = (r.take n, r.drop (n + 1), decide (n < r.length))))
      case first =>
        go_wp2_with fail
        go_loop [7] (fun i => ∃ k : Nat, k ≤ r.length ∧ i = .int .i64 k ∧ Hid (∀ j x, j < k → r[j]? = some x → x ≠ 10)) (fun i => r.length - (intOf i).toNat)
        case atStart => exact ⟨0, by omega, rfl, fun j x hj => by omega⟩
        case round =>
          obtain ⟨k, hk, rfl, hall⟩ := hrel
          by_cases hin : k < r.length
          · have hin' : k < (bs r).size := by omega
            have r1 : (0 : Int) ≤ k := by omega
            have r2 : (k : Int) < ((bs r).size : Int) := by omega
            have r3 : (k : Int) < (r.length : Int) := by omega
            obtain ⟨c, hc⟩ : ∃ c, (bs r)[k]'hin' = c := ⟨_, rfl⟩
            have HLC := Lib.hid (byte_bs hin' hc)
            cases hq : ((c.toNat : Int) == 10) with
            | true =>
              have HE := Lib.hid (cutA_here hall.out (by rw [HLC.out, u8_ten (n := 10) (by decide) hq]; rfl))
              have hq2 : ((c.toNat : Int) != 10) = false := by unfold bne; rw [hq]; rfl
              clear hall
              go_wp2_with fail
              go_meet
              exact ⟨k, rfl, rfl, Lib.hid ⟨hk, HE.out⟩⟩
            | false =>
              have HN := Lib.hid (fun (j : Nat) (x : UInt8) (hj : j < k + 1) (hx : r[j]? = some x) => show x ≠ 10 from by
                by_cases e : j = k
                · subst e; rw [HLC.out] at hx; cases hx; exact u8_nten (n := 10) (by decide) hq
                · exact hall.out j x (by omega) hx)
              have hq2 : ((c.toNat : Int) != 10) = true := by unfold bne; rw [hq]; rfl
              clear hall
              go_wp2_with fail
              exact ⟨⟨k + 1, by omega, by go_num, HN⟩, by simp [intOf]; omega⟩
          · obtain rfl : k = r.length := by omega
            have HE := Lib.hid (cutA_end hall.out)
            clear hall
            go_wp2_with fail
            go_meet
            exact ⟨r.length, rfl, rfl, Lib.hid ⟨hk, HE.out⟩⟩
      case rest =>
        obtain ⟨n, rfl, hwo, hcu⟩ := hcut
        subst hwo
        have hnr := hcu.out.1
        have hst := HST.out
        rw [hcu.out.2] at hst
        dsimp only at hst
        clear HST hcu
        by_cases hfull : 65536 ≤ acc.length
        · rw [if_pos hfull] at hst
          have HR := Lib.hid (show RetPA s w (.returned (.tuple #[.slice none 0 0, .int .i64 ((acc.length + 1 : Nat) : Int), .int .i64 5])) wc from by unfold RetPA; rw [hst]; exact ⟨HW0.out.1, rfl⟩)
          have hf2 : (65536 : Int) < (acc.length : Int) + 1 := by omega
          clear hst hfull
          go_upto_region 8 with fail
          revert hf2
          generalize (65536 : Int) = mx
          intro hf2
          go_wp2_with fail
          exact bodyPost_ret (v := .tuple #[.slice none 0 0, .int .i64 ((acc.length + 1 : Nat) : Int), .int .i64 5]) (by simp [results, Tryd.results18]) rfl HR.out
        · rw [if_neg hfull] at hst
          have HFU := Lib.hid hfull
          have hf2 : ¬ (65536 : Int) < (acc.length : Int) + 1 := by omega
          have HX := Lib.hid (show (bs r).extract 0 n = bs (r.take n) by rw [bs_ext]; congr 1 <;> simp)
          have HRD := Lib.hid (rread_any (r.take n) wc (by rw [List.length_take]; omega))
          have r1 : (n : Int) ≤ ((bs r).size : Int) := by omega
          have r2 : (0 : Int) ≤ (n : Int) := by omega
          clear hfull
          go_upto_region 8 with fail
          revert hf2
          generalize (65536 : Int) = mx
          intro hf2
          go_wp2_with fail
          rw [HX.out]
          refine HRD.out.mono ?_
          rintro e w2 ⟨hb2, he⟩
          have HW2 := Lib.hid (HW0.out.below HW0.out.1.size hb2)
          clear hb2 HRD HW0
          cases hri : readI (r.take n) with
          | none =>
            rw [hri] at he hst
            obtain ⟨y, he⟩ := he
            rw [show y.val = .agg #[.int .u8 y.op, .int .i64 y.a, .int .i64 y.b, .int .i64 y.c, .int .i64 y.d] from rfl] at he
            subst he
            have HR := Lib.hid (fun (w' : World) (hb : Below w.heap.size w w') => show RetPA s w (.returned (.tuple #[.slice none 0 0, .int .i64 ((acc.length + 1 : Nat) : Int), .int .i64 3])) w' from by unfold RetPA; rw [hst]; exact ⟨hb, rfl⟩)
            have HB := Lib.hid (below_step HW2.out.1 HW2.out.1.size (below_box w2 (Obj.cells #[.int .u8 y.op, .int .i64 y.a, .int .i64 y.b, .int .i64 y.c, .int .i64 y.d] 43)))
            clear hst
            go_wp2_with fail
            exact bodyPost_ret (v := .tuple #[.slice none 0 0, .int .i64 ((acc.length + 1 : Nat) : Int), .int .i64 3]) (by simp [results, Tryd.results18]) rfl (HR.out _ HB.out)
          | some x =>
            rw [hri] at he hst
            dsimp only at hst
            obtain ⟨hop, he⟩ := he
            rw [show x.val = .agg #[.int .u8 x.op, .int .i64 x.a, .int .i64 x.b, .int .i64 x.c, .int .i64 x.d] from rfl] at he
            subst he
            have HX2 := Lib.hid (bx_new w2 #[.int .u8 x.op, .int .i64 x.a, .int .i64 x.b, .int .i64 x.c, .int .i64 x.d] 43)
            have hW5 := Lib.hid (HW2.out.below HW2.out.1.size (below_box w2 (Obj.cells #[.int .u8 x.op, .int .i64 x.a, .int .i64 x.b, .int .i64 x.c, .int .i64 x.d] 43)))
            by_cases hnl : n < r.length
            rotate_left
            · obtain rfl : n = r.length := by omega
              rw [if_pos (by simp)] at hst
              have HR := Lib.hid (fun (w' : World) (hb : Below w.heap.size w w') => show RetPA s w (.returned (.tuple #[.slice none 0 0, .int .i64 ((acc.length + 1 : Nat) : Int), .int .i64 4])) w' from by unfold RetPA; rw [hst]; exact ⟨hb, rfl⟩)
              clear hst
              go_wp2_with fail
              exact bodyPost_ret (v := .tuple #[.slice none 0 0, .int .i64 ((acc.length + 1 : Nat) : Int), .int .i64 4]) (by simp [results, Tryd.results18]) rfl (HR.out _ hW5.out.1)
            · rw [if_neg (by simp [hnl])] at hst
              have HN := Lib.hid (fun (w' : World) (v' : Value) (h : WI w.heap.size w w' v' (acc ++ [x])) => show PrR w w' v' s (r.drop (n + 1)) (acc ++ [x]) from ⟨h, HY.out.push hop, by have := HFU.out; simp; omega, by have := HRS.out.1; rw [List.length_drop]; omega, by rw [hst]; exact prsA_fuel _ _ _ _ (by rw [List.length_drop]; omega) (by omega)⟩)
              have HX3 := Lib.hid (show (bs r).extract (n + 1) r.length = bs (r.drop (n + 1)) by rw [bs_ext, List.extract_eq_take_drop, List.take_of_length_le (by simp)])
              have hne2 : ¬ (n : Int) = (r.length : Int) := by omega
              have hne3 : ((n : Int) == (r.length : Int)) = false := beq_eq_false_iff_ne.2 hne2
              have r3 : (n : Int) + 1 ≤ ((bs r).size : Int) := by omega
              clear hst HY HW2
              go_upto_region 15 with fail
              generalize w2.alloc _ = W5 at HX2 hW5 ⊢
              obtain ⟨x0, x1, x2, x3, x4, _⟩ := HX2.out.five
              have hsz5 := hW5.out.1.size
              have HO := Lib.hid (hW5.out.below hsz5 (below_box W5 (Obj.cells #[.int .u8 x.op, .int .i64 x.a, .int .i64 x.b, .int .i64 x.c, .int .i64 x.d] 43)))
              have hs6 := HO.out.1.size
              go_wp2_with (at_builtin; go_loud (refine wpList_app _ rfl _ _ 22 rfl w.heap.size 43 i0 (.agg #[.int .u8 0, .int .i64 0, .int .i64 0, .int .i64 0, .int .i64 0]) 5 40 Tryd.underlying22 HI.out.1 HI.out.2.1 HI.out.2.2.1 HI.out.2.2.2 rfl (by decide) _ _ _ rfl HO.out.2 (some ⟨W5.heap.size, 0, none⟩) 1 1 [.int .u8 x.op, .int .i64 x.a, .int .i64 x.b, .int .i64 x.c, .int .i64 x.d] rfl rfl (cells_newU W5 rfl _ _) (one_ins x) (by have := HFU.out; unfold maxLen; omega) (by have := HFU.out; omega) hs6 ?_; intro v' w6 hown' hgrow _; have NX := Lib.hid (HN.out _ _ (HO.out.push hs6 x hgrow hown')); clear hown' hgrow HO hs6 HN))
              have hwp : wrap64 ((acc.length : Int) + 1 + 1) = (acc.length : Int) + 1 + 1 := by
                have := HFU.out
                exact wrap64_id (by omega) (by omega)
              rw [hwp, HX3.out]
              refine ⟨⟨r.drop (n + 1), acc ++ [x], rfl, by rw [List.length_append]; push_cast; rfl, NX⟩, ?_⟩
              show (bs (r.drop (n + 1))).size < (bs r).size
              rw [bs_size, bs_size, List.length_drop]
              omega

end Go.Proofs.YtodiijoeeeeicaaDoor
