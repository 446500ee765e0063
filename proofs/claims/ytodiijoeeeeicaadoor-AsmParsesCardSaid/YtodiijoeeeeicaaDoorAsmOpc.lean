/-
  The contract of asm.opcode.
-/
import Derived.Test.YtodiijoeeeeicaaDoorAsmEnc
namespace Go.Proofs.YtodiijoeeeeicaaDoor
open Go.ChangeShapes Go.WideShapes Go.ChangeAt Go.RowKit Go.Sort

theorem opcO_none {s : List UInt8} (h : ∀ j, j < 35 → mnem j ≠ s) : opcO s = none := by
  unfold opcO
  refine List.find?_eq_none.2 fun j hj => ?_
  simpa using h j (by simpa using hj)
set_option maxRecDepth 100000 in
set_option maxHeartbeats 1000000 in
theorem opcode_any (s : List UInt8) (w : World) (hT : Tab w) :
    Calls Tryd.prog 65 #[.string (bs s)] w fun e w' => e = .returned (.tuple #[.int .u8 ((opcO s).getD 0 : Nat), .bool (opcO s).isSome]) ∧ Below w.heap.size w w' := by
  have HT := Lib.hid hT
  clear hT
  go_enter Tryd.func65, Tryd.ntmps65
  go_wp2
  go_loopw [5] (fun v wr => ∃ k : Nat, k ≤ 35 ∧ v = .int .u8 k ∧ Hid (∀ j, j < k → mnem j ≠ s) ∧ Hid (Below w.heap.size w wr)) (fun v _ => 35 - (intOf v).toNat)
  case atStart => exact ⟨0, by omega, rfl, fun j hj => by omega, Below.refl _ _⟩
  case round =>
    obtain ⟨k, hk, rfl, hn, hb⟩ := hrel
    by_cases hin : k < 35
    · have HM := Lib.hid (mnemonic_any k (by omega) wr (HT.out.mono hb.out))
      have hbl : (bs s).toList = s := by rw [ByteArray.toList_eq, data_bs]
      go_wp2_with (go_at_call 23; refine HM.out.mono ?_; rintro e w1 ⟨rfl, rfl⟩)
      · have hf : mnem k = s := by rename_i hf; simpa using hf
        have HO := opcO_mnem hin
        rw [hf] at HO
        exact bodyPost_ret (v := .tuple #[.int .u8 k, .bool true]) (by simp [results, Tryd.results65]) rfl ⟨by rw [HO]; rfl, hb.out⟩
      · have hf : mnem k ≠ s := by rename_i hf; simpa using hf
        exact ⟨⟨k + 1, by omega, by go_num, fun j hj => by
          by_cases e : j = k
          · rw [e]; exact hf
          · exact hn.out j (by omega), hb⟩, by simp [intOf]; omega⟩
    · obtain rfl : k = 35 := by omega
      have HO := opcO_none hn.out
      go_wp2
      exact bodyPost_ret (v := .tuple #[.int .u8 0, .bool false]) (by simp [results, Tryd.results65]) rfl ⟨by rw [HO]; rfl, hb.out⟩

end Go.Proofs.YtodiijoeeeeicaaDoor
