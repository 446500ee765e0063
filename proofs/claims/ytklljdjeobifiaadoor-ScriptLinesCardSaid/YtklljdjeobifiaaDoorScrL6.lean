/-
  ScriptLines: the walk.
-/
import Derived.Test.YtklljdjeobifiaaDoorScrGreat
import Derived.Test.YtklljdjeobifiaaDoorScrLnP
namespace Go.Proofs.YtklljdjeobifiaaDoor
open Go.ChangeShapes Go.WideShapes Go.ChangeAt Go.RowKit Go.Sort Go.Maps

theorem bs_idx (l : List UInt8) {i : Nat} (h : i < (bs l).size) (h' : i < l.length) : (bs l)[i]'h = l[i] := by
  have := byte_at (bs l) h
  rw [data_bs, List.getElem?_eq_getElem h'] at this
  exact (Option.some.inj this).symm

theorem enc_dig {m : Nat} (h : m < 9) : (Utf8.encode (49 + (m : Int))).size = 1 ∧ Utf8.encode (49 + (m : Int)) = bs [UInt8.ofNat (48 + (1 + m))] := by
  rcases (show m = 0 ∨ m = 1 ∨ m = 2 ∨ m = 3 ∨ m = 4 ∨ m = 5 ∨ m = 6 ∨ m = 7 ∨ m = 8 by omega) with h | h | h | h | h | h | h | h | h <;> subst h <;> exact ⟨by decide +kernel, by decide +kernel⟩

set_option maxRecDepth 100000 in
set_option maxHeartbeats 1000000 in
theorem scriptLines_walk (l : List Cm) (A : Option Addr) (cap : Nat) (more : Nat) (hmore : more < 256) (w : World) (hL : CmsAt w A l) (hl : l.length ≤ 9223372036854775807) (hs : ∀ c ∈ l, Sm c) (hf : ∀ c ∈ l, Fits c) (hW : Wld w) :
    Calls Tryd.prog 8 #[.slice A l.length cap, .int .u8 more] w fun e w' => e = .returned (.bool true) ∧ Below w.heap.size w w' := by
  have HWl := Lib.hid hW
  have HL := Lib.hid hL
  have HS := Lib.hid hs
  have HF := Lib.hid hf
  have HAW := Lib.hid (awake_any w hW)
  clear hW hL hs hf
  go_enter Tryd.func8, Tryd.ntmps8
  go_wp2_with fail
  refine HAW.out.mono ?_
  rintro e W1 ⟨rfl, hb1⟩
  have q1 := Lib.hid hb1
  have HW1 := Lib.hid (HWl.out.below hb1)
  have HL1 := Lib.hid (HL.out.mono hb1)
  have HG := Lib.hid (great_any l A cap W1 HL1.out hl HS.out)
  clear hb1 HAW
  go_wp2_with fail
  refine HG.out.mono ?_
  rintro e W2 ⟨b, rfl, hbt, hb2⟩
  have q2 := Lib.hid (below_step q1.out q1.out.size hb2)
  have HW2 := Lib.hid (HW1.out.below hb2)
  have HL2 := Lib.hid (HL1.out.mono hb2)
  clear hb2 HG hbt
  cases b with
  | true =>
    go_wp2_with fail
    go_ret
    exact ⟨rfl, q2.out⟩
  | false =>
  by_cases h400 : 400 < l.length
  · go_wp2_with fail
    go_ret
    exact ⟨rfl, q2.out⟩
  have hlen : l.length ≤ 400 := by omega
  have HGV := Lib.hid (given_any l A cap W2 HL2.out (by omega))
  go_wp2_with fail
  refine HGV.out.mono ?_
  rintro e W3 ⟨A3, c3, rfl, hC3, hb3⟩
  have q3 := Lib.hid (below_step q2.out q2.out.size hb3)
  have HW3 := Lib.hid (HW2.out.below hb3)
  have HFM := Lib.hid (formatV_any l A3 c3 W3 hC3 hl HS.out HF.out HW3.out)
  clear hb3 HGV hC3
  go_wp2_with fail
  refine HFM.out.mono ?_
  rintro e W4 ⟨rfl, hb4⟩
  have q4 := Lib.hid (below_step q3.out q3.out.size hb4)
  have HW4 := Lib.hid (HW3.out.below hb4)
  clear hb4 HFM
  by_cases ho : okL l = true
  rotate_left
  · rw [if_neg ho, if_neg ho]
    clear ho
    go_wp2_with fail
    go_ret
    exact ⟨rfl, q4.out⟩
  have HP1 := Lib.hid (prs_tail ho HF.out hlen (s := haltW) (by decide) read_halt)
  have HP2 := Lib.hid (prs_tail ho HF.out hlen (s := loadW (1 + more % 9)) (by simp [loadW]) (read_load (by omega) (by omega)))
  have HP3 := Lib.hid (prs_tail ho HF.out hlen (s := showW) (by decide) read_show)
  have HBD := Lib.hid (okL_bnd ho HF.out)
  rw [if_pos ho, if_pos ho]
  clear ho h400
  generalize fmtL l = X at *
  have hz := bs_size X
  have HBX := Lib.hid (HBD.out)
  have H1 := Lib.hid (show bs X ++ ({ data := #[104, 97, 108, 116, 10] } : ByteArray) = bs (X ++ haltW) by rw [← bs_app]; rfl)
  have H3 := Lib.hid (show bs X ++ ({ data := #[115, 104, 111, 119] } : ByteArray) = bs (X ++ showW) by rw [← bs_app]; rfl)
  have PA1 := Lib.hid (fun W hw => parse_any (X ++ haltW) W hw (by have := HBD.out; simp [haltW]; omega))
  have PA2 := Lib.hid (fun W hw => parse_any (X ++ loadW (1 + more % 9)) W hw (by have := HBD.out; simp [loadW]; omega))
  have PA3 := Lib.hid (fun W hw => parse_any (X ++ showW) W hw (by have := HBD.out; simp [showW]; omega))
  have hX9 : X.length ≤ 200000000 := HBD.out
  go_upto_region 10 with fail
  go_loopw [7] (fun n wr => ∃ pos : Nat, pos ≤ X.length ∧ wr = W4.iter (bs X) pos ∧ n = .int .i64 ((1 + lnTo X pos : Nat) : Int)) (fun _ wr => (bs X).size - wr.iterPos W4.heap.size)
  case atStart => exact ⟨0, by omega, rfl, rfl⟩
  case round =>
    obtain ⟨pos, hpos, rfl, rfl⟩ := hrel
    by_cases hp : pos < (bs X).size
    · have hnx : ∀ ty, (Instr.next (.pointer (some ⟨W4.heap.size, 0, none⟩)) true ty).run Tryd.prog (W4.iter (bs X) pos) = _ := fun ty => run_next_any W4 (bs X) pos ty hp
      obtain ⟨d1, d2, d3⟩ := dec_step (bs X) pos hp
      have hp' : pos < X.length := by omega
      have HST := Lib.hid (lnTo_step (l := X) hp' d1 (by rw [← bs_size]; exact d2) (fun j h0 h1 => by have := d3 j h0 h1; rw [bs_get] at this; exact this))
      rw [← bs_idx X hp hp'] at HST
      have hcl : lnTo X pos ≤ X.length := Nat.le_trans List.count_le_length (by simp; omega)
      clear d3
      have r1 : (0 : Int) ≤ pos := by omega
      have r2 : (pos : Int) < (bs X).size := by omega
      generalize hdd : (Utf8.decode (bs X) pos).2 = dd at *
      cases hq : (((((bs X)[pos]'hp).toNat : Nat) : Int) == 10)
      · have HN := Lib.hid (show lnTo X (pos + dd) = lnTo X pos by
          rw [HST.out, if_neg]
          · rfl
          · intro e; rw [e] at hq; simp at hq)
        go_wp2
        go_roundw
        case rel => exact ⟨pos + dd, by omega, rfl, by rw [HN.out]⟩
        case measure => simp; omega
      · have HN := Lib.hid (show lnTo X (pos + dd) = lnTo X pos + 1 by
          rw [HST.out, if_pos]
          apply UInt8.toNat_inj.1
          have := eq_of_beq hq
          show _ = 10
          omega)
        go_wp2
        go_roundw
        case rel => exact ⟨pos + dd, by omega, rfl, by rw [HN.out]; go_num⟩
        case measure => simp; omega
    · have hnx : ∀ ty, (Instr.next (.pointer (some ⟨W4.heap.size, 0, none⟩)) true ty).run Tryd.prog (W4.iter (bs X) pos) = _ := fun ty => run_next_end W4 (bs X) pos ty hp
      obtain rfl : pos = X.length := by omega
      have hln : lnTo X X.length = X.count 10 := by unfold lnTo; rw [List.take_length]
      rw [hln]
      have hcl := Lib.hid (List.count_le_length (a := (10 : UInt8)) (l := X))
      have bi := Lib.hid (show Below W4.heap.size W4 (W4.iter (bs X) X.length) from below_box W4 (.stringIter (bs X) X.length))
      have q5 := Lib.hid (below_step q4.out q4.out.size bi.out)
      have HW5 := Lib.hid (HW4.out.below bi.out)
      generalize hN : X.count 10 = N at *
      clear hN
      go_wp2_with fail
      rw [H1.out]
      generalize W4.iter _ _ = W5 at *
      refine (PA1.out W5 HW5.out).mono ?_
      rintro e W6 ⟨hb6, ⟨n, e0, h, rfl⟩ | ⟨l', A6, c6, h, hC6, rfl⟩⟩
      rotate_left
      · rw [HP1.out] at h; cases h
      rw [HP1.out] at h
      obtain ⟨rfl, rfl⟩ : 1 + N = n ∧ 3 = e0 := by injection h with h1 h2; exact ⟨h1, h2⟩
      have q6 := Lib.hid (below_step q5.out q5.out.size hb6)
      have HW6 := Lib.hid (HW5.out.below hb6)
      clear hb6 h
      go_upto_region 15 with fail
      have hE := enc_dig (m := more % 9) (by omega)
      rw [show 49 + ((more % 9 : Nat) : Int) = (49 + (more : Int).tmod 9) % 256 by rw [Int.tmod_eq_emod_of_nonneg (by omega)]; omega] at hE
      obtain ⟨_, hEv⟩ := hE
      generalize (more : Int) = mi at *
      have hb1 : (bs [UInt8.ofNat (48 + (1 + more % 9))]).size = 1 := by rw [bs_size]; rfl
      have H2 := Lib.hid (show bs X ++ ({ data := #[108, 111, 97, 100, 32] } : ByteArray) ++ bs [UInt8.ofNat (48 + (1 + more % 9))] ++ ({ data := #[10] } : ByteArray) = bs (X ++ loadW (1 + more % 9)) by
        rw [show ({ data := #[108, 111, 97, 100, 32] } : ByteArray) = bs [108, 111, 97, 100, 32] from rfl, show ({ data := #[10] } : ByteArray) = bs [10] from rfl, bs_app, bs_app, bs_app]
        unfold loadW
        simp only [List.append_assoc])
      generalize bs [UInt8.ofNat (48 + (1 + more % 9))] = E at *
      go_wp2_with fail
      rw [H2.out]
      refine (PA2.out W6 HW6.out).mono ?_
      rintro e W7 ⟨hb7, ⟨n, e0, h, rfl⟩ | ⟨l', A7, c7, h, hC7, rfl⟩⟩
      rotate_left
      · rw [HP2.out] at h; cases h
      rw [HP2.out] at h
      obtain ⟨rfl, rfl⟩ : 1 + N = n ∧ 4 = e0 := by injection h with h1 h2; exact ⟨h1, h2⟩
      have q7 := Lib.hid (below_step q6.out q6.out.size hb7)
      have HW7 := Lib.hid (HW6.out.below hb7)
      clear hb7 h
      go_wp2_with fail
      rw [H3.out]
      refine (PA3.out W7 HW7.out).mono ?_
      rintro e W8 ⟨hb8, ⟨n, e0, h, rfl⟩ | ⟨l', A8, c8, h, hC8, rfl⟩⟩
      rotate_left
      · rw [HP3.out] at h; cases h
      rw [HP3.out] at h
      obtain ⟨rfl, rfl⟩ : 1 + N = n ∧ 4 = e0 := by injection h with h1 h2; exact ⟨h1, h2⟩
      have q8 := Lib.hid (below_step q7.out q7.out.size hb8)
      clear hb8 h
      go_wp2_with fail
      go_ret
      exact ⟨rfl, q8.out⟩

end Go.Proofs.YtklljdjeobifiaaDoor
