/-
  The contract of the reference's Format.
-/
import Derived.Test.YtodiijoeeeeicaaDoorAsmRFm
namespace Go.Proofs.YtodiijoeeeeicaaDoor
open Go.ChangeShapes Go.WideShapes Go.ChangeAt Go.RowKit Go.Sort

set_option maxRecDepth 100000 in
set_option maxHeartbeats 2000000 in
theorem rformat_any (l : List Ins) (A : Option Addr) (cap : Nat) (w : World) (hC : CodeAt w A l) (hY : Bytes l) (hF : ∀ x ∈ l, FitI x) (hl : l.length ≤ 140737488355328) :
    Calls Tryd.prog 14 #[.slice A l.length cap] w (RetF l w) := by
  have HC := Lib.hid hC
  have HCK := Lib.hid (rcheck_any l A cap w hC hY hl)
  clear hC
  unfold RetF
  by_cases hk0 : checkA l = 0
  rotate_left
  · rw [if_neg hk0]
    have hne : (checkA l != 0) = true := bne_iff_ne.2 hk0
    clear hk0
    generalize checkA l = ce at *
    go_enter Tryd.func14, Tryd.ntmps14
    go_wp2_with fail
    refine HCK.out.mono ?_
    rintro e w1 ⟨rfl, hb1⟩
    go_wp2_with fail
    exact bodyPost_ret (v := .tuple #[.string ⟨#[]⟩, .int .i64 ce]) (by simp [results, Tryd.results14]) rfl ⟨rfl, hb1⟩
  · obtain ⟨hn, hval⟩ := checkA_zero hk0
    have HV : Hid (∀ x ∈ l, vIns x = true ∧ FitI x) := Lib.hid (fun x hx => ⟨hval x hx, hF x hx⟩)
    rw [if_pos hk0, hk0]
    rw [hk0] at HCK
    clear hk0 hval hF
    go_enter Tryd.func14, Tryd.ntmps14
    go_wp2_with fail
    refine HCK.out.mono ?_
    rintro e w1 ⟨rfl, hb1⟩
    have q1 := Lib.hid hb1
    clear hb1 HCK
    go_wp2_with fail
    go_loopw [5, 6] (fun s i wr => ∃ k : Nat, k ≤ l.length ∧ i = .int .i64 k ∧ s = .string (bs (fmtA (l.take k))) ∧ Hid (Below w.heap.size w wr)) (fun _ i _ => l.length - (intOf i).toNat)
    case atStart => exact ⟨0, by omega, rfl, rfl, q1⟩
    case round =>
      obtain ⟨k, hk, rfl, rfl, hb⟩ := hrel
      by_cases hin : k < l.length
      · obtain ⟨b, o, rfl, hi⟩ := (HC.out.mono hb.out).at_ hin
        have hop := hY.at_ hin
        have HE := Lib.hid (fmtA_step hin)
        have hfl := fmtA_len HV.out k hk
        have hvx := HV.out l[k] (List.getElem_mem hin)
        have hll := lineI_len hvx.1 hvx.2
        obtain ⟨c0, c1, c2, c3, c4⟩ := id hi
        have hlt := hi.lt
        clear hi
        generalize l[k] = x at *
        have r1 : (0 : Int) ≤ k := by omega
        have r2 : (k : Int) < l.length := by omega
        have HLN := Lib.hid (rline_any x hop wr hvx.1 hvx.2)
        generalize fmtA (l.take k) = s at *
        have hz := bs_size s
        have hz2 := bs_size (lineI x)
        have hc1 : ¬ 9223372036854775807 < (bs s).size + (bs (lineI x)).size := by omega
        have hc2 : ¬ 9223372036854775807 < (bs s).size + (bs (lineI x)).size + 1 := by omega
        have HB := Lib.hid (show bs s ++ bs (lineI x) ++ ⟨#[10]⟩ = bs (s ++ (lineI x ++ [10])) by
          rw [show (⟨#[10]⟩ : ByteArray) = bs [10] from rfl, bs_app, bs_app, List.append_assoc])
        go_wp2_with fail
        refine HLN.out.mono ?_
        rintro e w8 ⟨rfl, hb8⟩
        have q8 := Lib.hid (below_step hb.out hb.out.size hb8)
        clear hb8 HLN c0 c1 c2 c3 c4 hlt
        go_wp2_with fail
        exact ⟨⟨k + 1, by omega, by go_num, by rw [HE.out, HB.out], q8⟩, by simp [intOf]; omega⟩
      · obtain rfl : k = l.length := by omega
        rw [List.take_length]
        go_wp2_with fail
        exact bodyPost_ret (v := .tuple #[.string (bs (fmtA l)), .int .i64 0]) (by simp [results, Tryd.results14]) rfl ⟨rfl, hb.out⟩

end Go.Proofs.YtodiijoeeeeicaaDoor
