/-
  The contracts of the reference's Check, Bytes, take, Encode.
-/
import Derived.Test.YtodiijoeeeeicaaDoorAsmRSm
import Derived.Test.YtodiijoeeeeicaaDoorAsmL8
namespace Go.Proofs.YtodiijoeeeeicaaDoor
open Go.ChangeShapes Go.WideShapes Go.ChangeAt Go.RowKit Go.Sort

set_option maxRecDepth 100000 in
set_option maxHeartbeats 400000 in
theorem rcheck_any (l : List Ins) (A : Option Addr) (cap : Nat) (w : World) (hC : CodeAt w A l) (hY : Bytes l) (hl : l.length ≤ 140737488355328) :
    Calls Tryd.prog 34 #[.slice A l.length cap] w fun e w' => e = .returned (.int .i64 (checkA l)) ∧ Below w.heap.size w w' := by
  have HC := Lib.hid hC
  clear hC
  go_enter Tryd.func34, Tryd.ntmps34
  by_cases hs : 65536 < l.length
  · have hR := Lib.hid (show checkA l = 5 from if_pos hs)
    go_wp2
    go_ret
    exact ⟨ret_i64 hR.out.symm, Below.refl _ _⟩
  · have hR := Lib.hid (show checkA l = if l.all vIns = true then 0 else 3 from if_neg hs)
    go_wp2
    go_loopw [3] (fun v wr => ∃ k : Nat, k ≤ l.length ∧ v = .int .i64 k ∧ Hid (l.all vIns = (l.drop k).all vIns) ∧ Below w.heap.size w wr) (fun v _ => l.length - (intOf v).toNat)
    case atStart => exact ⟨0, by omega, rfl, rfl, Below.refl _ _⟩
    case round =>
      obtain ⟨k, hk, rfl, hz, hb⟩ := hrel
      by_cases hin : k < l.length
      · have hz' := Lib.hid (hz.out.trans (all_step hin))
        obtain ⟨b, o, rfl, hi⟩ := (HC.out.mono hb).at_ hin
        have hop := hY.at_ hin
        have hlt := hi.lt
        obtain ⟨c0, c1, c2, c3, c4⟩ := id hi
        generalize hx : l[k] = x at *
        have r1 : (0 : Int) ≤ k := by omega
        have r2 : (k : Int) < l.length := by omega
        have HV := Lib.hid (rvalid_any x.op hop x.a x.b x.c x.d wr)
        have hvi : validB x.op x.a x.b x.c x.d = vIns x := rfl
        rw [hvi] at HV
        clear hz
        generalize vIns x = bv at *
        cases bv with
        | false =>
          have hR2 := Lib.hid (show checkA l = 3 by rw [hR.out, if_neg (by rw [hz'.out]; simp)])
          go_wp2_with (go_at_call 54; refine HV.out.mono ?_; rintro e w2 ⟨rfl, hb2⟩)
          go_ret
          exact ⟨ret_i64 hR2.out.symm, below_step hb hb.size hb2⟩
        | true =>
          have hz2 := Lib.hid (show l.all vIns = (l.drop (k + 1)).all vIns by rw [hz'.out, Bool.true_and])
          go_wp2_with (go_at_call 54; refine HV.out.mono ?_; rintro e w2 ⟨rfl, hb2⟩)
          exact ⟨⟨k + 1, by omega, by go_num, hz2, below_step hb hb.size hb2⟩, by simp [intOf]; omega⟩
      · have hz' := Lib.hid (show l.all vIns = true by rw [hz.out, List.drop_of_length_le (by omega)]; rfl)
        clear hz
        go_wp2
        go_ret
        exact ⟨ret_i64 (by rw [hR.out, if_pos hz'.out]), hb⟩

/-- A byte of a number, seen without its sign. -/
theorem byte_u64 (x : Int) {m : Nat} (h : m < 8) : IntKind.u64.wrap x / 2 ^ (8 * m) % 256 = ((byteOf (x / 256 ^ m)).toNat : Int) := by
  rw [byteOf_toNat, IntKind.wrap_u64]
  rcases (show m = 0 ∨ m = 1 ∨ m = 2 ∨ m = 3 ∨ m = 4 ∨ m = 5 ∨ m = 6 ∨ m = 7 by omega) with rfl | rfl | rfl | rfl | rfl | rfl | rfl | rfl
  all_goals
    simp only [Nat.reduceMul, Int.reducePow]
    omega
set_option maxRecDepth 100000 in
set_option maxHeartbeats 1000000 in
theorem rbytes_any (x : Int) (n : Nat) (w : World) (hn : n ≤ 8) :
    Calls Tryd.prog 38 #[.int .i64 x, .int .i64 n] w (RetB w.heap.size w (putL x n)) := by
  have H0 := Lib.hid (show WB w.heap.size w w (.slice none 0 0) ((putL x n).take (n - n)) from by rw [Nat.sub_self, List.take_zero]; exact ⟨Below.refl _ _, World.ownsRow_nil _ _ _ _, Lib.OthersKept.refl _ _ _⟩)
  have hpl := putL_len x n
  obtain ⟨i0, hi0, hz0, hz1, hz2⟩ := info_parts info_u8
  have HI := Lib.hid (And.intro hi0 (And.intro hz0 (And.intro hz1 hz2)))
  clear hi0 hz0 hz1 hz2
  go_enter Tryd.func38, Tryd.ntmps38
  go_wp2
  go_loopw [5, 6] (fun u i wr => ∃ m : Nat, m ≤ n ∧ i = .int .i64 ((m : Int) - 1) ∧ Hid (WB w.heap.size w wr u ((putL x n).take (n - m)))) (fun _ i _ => (intOf i + 1).toNat)
  case atStart => exact ⟨n, Nat.le_refl _, rfl, H0⟩
  case round =>
    obtain ⟨m, hm, rfl, hw⟩ := hrel
    cases m with
    | zero =>
      rw [Nat.sub_zero, List.take_of_length_le (by omega)] at hw
      go_wp2
      exact bodyPost_ret (v := u5) (by simp [results, Tryd.results38]) rfl ⟨_, rfl, hw.out⟩
    | succ m =>
      have HS := Lib.hid (put_step x (show m < n by omega))
      have hll : ((putL x n).take (n - (m + 1))).length ≤ 8 := by rw [List.length_take]; omega
      have HB := Lib.hid (byte_u64 x (show m < 8 by omega))
      generalize (putL x n).take (n - (m + 1)) = q at *
      have hsz := hw.out.1.size
      have hmi : ((m + 1 : Nat) : Int) - 1 = m := by omega
      have hwm : IntKind.i64.wrap (8 * (m : Int)) = 8 * (m : Int) := by rw [IntKind.wrap_i64]; omega
      have hwm2 : wrap64 (8 * (m : Int)) = 8 * (m : Int) := by unfold wrap64; omega
      rw [hmi]
      have r0 : (0 : Int) ≤ m := by omega
      go_upto_region 5 with fail
      have HO := Lib.hid (hw.out.below hsz (below_box wr (Obj.cells #[.int .u8 (IntKind.u64.wrap x / 2 ^ (8 * m) % 256)] 5)))
      have hs2 := HO.out.1.size
      go_wp2_with (at_builtin; go_loud (refine wpList_app _ rfl _ _ 29 rfl w.heap.size 5 i0 (.int .u8 0) 1 1 Tryd.underlying29 HI.out.1 HI.out.2.1 HI.out.2.2.1 HI.out.2.2.2 rfl (by decide) _ _ _ rfl HO.out.2.1 (some ⟨wr.heap.size, 0, none⟩) 1 1 [.int .u8 (IntKind.u64.wrap x / 2 ^ (8 * m) % 256)] rfl rfl (cells_newU wr rfl _ _) (one_u8 _) (by unfold maxLen; omega) (by omega) hs2 ?_; intro v' w6 hown' hgrow _; rw [HB.out] at hown'; have NX := Lib.hid (HO.out.push hs2 _ hgrow hown'); clear hown' hgrow HO hs2))
      exact ⟨⟨m, by omega, by go_num, by rw [← HS.out]; exact NX⟩, by simp [intOf]⟩

/-- A byte taken in, seen without a sign. -/
theorem or_u64 (v c : Nat) (hv : v < 72057594037927936) (hc : c < 256) : bits .or .u64 ((v : Int) * 256) (c : Int) = (v : Int) * 256 + c := by
  have h1 : (BitVec.ofInt 64 ((v : Int) * 256)).toNat = 2 ^ 8 * v := by
    rw [BitVec.toNat_ofInt]
    omega
  have h2 : (BitVec.ofInt 64 (c : Int)).toNat = c := by
    rw [BitVec.toNat_ofInt]
    omega
  show IntKind.u64.wrap ((BitVec.ofInt 64 ((v : Int) * 256) ||| BitVec.ofInt 64 (c : Int)).toNat : Int) = _
  rw [BitVec.toNat_or, h1, h2, ← Nat.two_pow_add_eq_or_of_lt (i := 8) (by omega) v, IntKind.wrap_u64]
  omega
theorem u64_getV (q : List UInt8) (h : q.length ≤ 8) : wrap64 (valB q : Int) = getV q := by
  have h1 := valB_lt q
  have h2 : 256 ^ q.length ≤ 256 ^ 8 := Nat.pow_le_pow_right (by decide) h
  have h3 : (256 : Nat) ^ 8 = 18446744073709551616 := by decide
  unfold getV wrap64
  split <;> omega
set_option maxRecDepth 100000 in
set_option maxHeartbeats 1000000 in
theorem rtake_any (W0 : World) (l : List UInt8) (A : Option Addr) (cap n : Nat) (w : World) (hL : BysAt W0 A l) (hW : Below W0.heap.size W0 w) (hn : n ≤ 8) (h1 : 1 ≤ n) (hnl : n ≤ l.length) :
    Calls Tryd.prog 52 #[.slice A l.length cap, .int .i64 n] w fun e w' => e = .returned (.int .i64 (getV (l.take n))) ∧ Below w.heap.size w w' := by
  obtain ⟨b, o, rfl, _⟩ := hL.at_ (k := 0) (by omega)
  have HL := Lib.hid hL
  have HW := Lib.hid hW
  clear hL hW
  go_enter Tryd.func52, Tryd.ntmps52
  go_wp2
  go_loopw [5, 6] (fun x i wr => ∃ k : Nat, k ≤ n ∧ i = .int .i64 k ∧ x = .int .u64 (valB (l.take k)) ∧ Hid (Below w.heap.size w wr)) (fun _ i _ => n - (intOf i).toNat)
  case atStart => exact ⟨0, by omega, rfl, rfl, Below.refl _ _⟩
  case round =>
    obtain ⟨k, hk, rfl, rfl, hb⟩ := hrel
    by_cases hin : k < n
    · obtain ⟨b', o', e, hc0⟩ := (HL.out.mono (below_step HW.out HW.out.size hb.out)).at_ (show k < l.length by omega)
      cases e
      have r1 : (0 : Int) ≤ k := by omega
      have r2 : (k : Int) < n := by omega
      have r3 : (k : Int) < l.length := by omega
      have HTK := Lib.hid (List.take_succ_eq_append_getElem (show k < l.length by omega))
      have hvb : valB (l.take k) < 72057594037927936 := by
        have h1 := valB_lt (l.take k)
        have h2 : 256 ^ (l.take k).length ≤ 256 ^ 7 := Nat.pow_le_pow_right (by decide) (by rw [List.length_take]; omega)
        have h3 : (256 : Nat) ^ 7 = 72057594037927936 := by decide
        omega
      have HVS := Lib.hid (valB_snoc (l.take k) (l[k]'(by omega)))
      have hcb := (l[k]'(by omega)).toNat_lt
      have HOR := Lib.hid (or_u64 _ _ hvb hcb)
      go_wp2
      exact ⟨⟨k + 1, by omega, by go_num, by rw [HOR.out, HTK.out, HVS.out]; push_cast; rfl, hb⟩, by simp [intOf]; omega⟩
    · obtain rfl : k = n := by omega
      have HG := Lib.hid (u64_getV (l.take k) (by rw [List.length_take]; omega))
      go_wp2
      go_ret
      exact ⟨by rw [HG.out]; rfl, hb.out⟩

end Go.Proofs.YtodiijoeeeeicaaDoor
