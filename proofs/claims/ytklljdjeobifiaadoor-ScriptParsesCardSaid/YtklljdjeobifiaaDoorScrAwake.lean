/-
  The example of the chapter.
-/
import Derived.Test.YtklljdjeobifiaaDoorScrParse
import Derived.Test.YtklljdjeobifiaaDoorScrFmt
namespace Go.Proofs.YtklljdjeobifiaaDoor
open Go.ChangeShapes Go.WideShapes Go.ChangeAt Go.RowKit Go.Sort Go.Maps

def txA : List UInt8 := [108, 111, 97, 100, 32, 50, 10, 109, 97, 105, 110, 32, 123, 10, 125, 10, 114, 117, 110, 32, 53, 10, 115, 104, 111, 119, 10]
def txM : List UInt8 := [109, 97, 105, 110, 32, 123, 10, 125, 10]
def txB : List UInt8 := [115, 104, 111, 119, 10, 114, 117, 110, 32, 120, 10]
def exL : List Cm := [⟨1, [], txM, []⟩, ⟨3, [], [], [5]⟩, ⟨9, [], [], []⟩]
theorem itoa_small (n : Nat) (h : n < 10) : Lib.itoa (n : Int) = [UInt8.ofNat (48 + n)] := by rw [Lib.itoa_nonneg, dec_small h]
theorem fmt_exL : fmtL exL = txA := by
  have a1 : fmtC ⟨1, [], txM, []⟩ = Lib.join [[108, 111, 97, 100], Lib.itoa ((2 : Nat) : Int)] [32] ++ 10 :: txM := rfl
  have a2 : fmtC ⟨3, [], [], [5]⟩ = Lib.join [[114, 117, 110], Lib.itoa ((5 : Nat) : Int)] [32] ++ [10] := rfl
  have a3 : fmtC ⟨9, [], [], []⟩ = Lib.join [[115, 104, 111, 119]] [32] ++ [10] := rfl
  rw [show fmtL exL = fmtC ⟨1, [], txM, []⟩ ++ (fmtC ⟨3, [], [], [5]⟩ ++ (fmtC ⟨9, [], [], []⟩ ++ [])) from rfl, a1, a2, a3, itoa_small 2 (by decide), itoa_small 5 (by decide)]
  rfl
theorem ok_exL : okL exL = true := by decide +kernel
theorem fits_exL : ∀ c ∈ exL, Fits c := by
  intro c hc
  simp only [exL, List.mem_cons, List.not_mem_nil, or_false] at hc
  rcases hc with h | h | h <;> subst h <;> intro n hn <;> simp at hn
  omega
theorem parse_txA : parseL txA = .ok exL := by rw [← fmt_exL]; exact parse_fmt ok_exL fits_exL
theorem numO_x : numO [120] = none := by
  rw [numO_pos (by decide)]
  exact if_neg (by rintro ⟨h, _⟩; revert h; decide)
theorem head_x : headL [114, 117, 110, 32, 120] = none := by
  have h1 : splitL [114, 117, 110, 32, 120] = [[114, 117, 110], [120]] := rfl
  have h2 : lookW [114, 117, 110] = some ⟨[114, 117, 110], 3, false, 1, false⟩ := rfl
  have h0 : nameW ⟨[114, 117, 110], 3, false, 1, false⟩ [[120]] = some ([], [[120]]) := rfl
  have h3 : numsL [[120]] = none := by unfold numsL; rw [numO_x]
  rw [headL_of h1 h2, h0]
  dsimp only
  rw [h3]
theorem parse_txB : parseL txB = .err 2 3 := by
  have hs : txB = fmtC ⟨9, [], [], []⟩ ++ [114, 117, 110, 32, 120, 10] := rfl
  have ok9 : okC ⟨9, [], [], []⟩ = true := by decide +kernel
  have r1 : read1 txB = .ok ⟨9, [], [], []⟩ [114, 117, 110, 32, 120, 10] := by rw [hs]; exact read1_fmt ok9 (fun n hn => by simp at hn) _
  have r2 : read1 [114, 117, 110, 32, 120, 10] = .err 3 := read1_a (first := [114, 117, 110, 32, 120]) (rest := []) rfl head_x
  unfold parseL
  rw [prs, if_neg (by decide), if_neg (by decide), r1]
  dsimp only
  rw [show txB.length = 10 + 1 from rfl, prs, if_neg (by decide), if_neg (by decide), r2]
  rfl


set_option maxRecDepth 100000 in
set_option maxHeartbeats 400000 in
theorem awake_any (w : World) (hW : Wld w) : Calls Tryd.prog 11 #[] w fun e w' => e = .returned (.bool true) ∧ Below w.heap.size w w' := by
  have HWl := Lib.hid hW
  obtain ⟨T, HT⟩ : ∃ T, Hid (T = bs txA) := ⟨_, rfl⟩
  have HP := Lib.hid (parse_any txA w hW (by decide))
  rw [← HT.out] at HP
  clear hW
  go_enter Tryd.func11, Tryd.ntmps11
  go_upto_region 2 with fail
  rw [show ({ data := #[108, 111, 97, 100, 32, 50, 10, 109, 97, 105, 110, 32, 123, 10, 125, 10, 114, 117, 110, 32, 53, 10, 115, 104, 111, 119, 10] } : ByteArray) = T from HT.out.symm]
  go_wp2_with fail
  refine HP.out.mono ?_
  rintro e W1 ⟨hb1, ⟨n, e0, h, rfl⟩ | ⟨l, A, cap, h, hC, rfl⟩⟩
  · rw [parse_txA] at h; cases h
  rw [parse_txA] at h
  obtain rfl : exL = l := by injection h
  have HW1 := Lib.hid (HWl.out.below hb1)
  have HF := Lib.hid (format_any exL A cap W1 hC (by decide) (fun c hc => by
    simp only [exL, List.mem_cons, List.not_mem_nil, or_false] at hc
    rcases hc with h | h | h <;> subst h <;> exact ⟨by decide, by decide, by decide⟩) fits_exL HW1.out (by rw [fmt_exL]; decide))
  have HCM := Lib.hid hC
  have q1 := Lib.hid hb1
  clear hC hb1 h HP
  go_wp2_with fail
  refine HF.out.mono ?_
  rintro e W2 ⟨rfl, hb2⟩
  rw [if_pos ok_exL, if_pos ok_exL, fmt_exL, ← HT.out]
  have q2 := Lib.hid (below_step q1.out q1.out.size hb2)
  have HC2 := Lib.hid (HCM.out.mono hb2)
  have HB := Lib.hid (parse_any txB W2 (HW1.out.below hb2) (by decide))
  clear hb2 HF
  go_wp2_with fail
  refine HB.out.mono ?_
  rintro e W3 ⟨hb3, ⟨n, e0, h, rfl⟩ | ⟨l, A2, cap2, h, _, rfl⟩⟩
  rotate_left
  · rw [parse_txB] at h; cases h
  rw [parse_txB] at h
  obtain ⟨rfl, rfl⟩ : 2 = n ∧ 3 = e0 := by injection h with h1 h2; exact ⟨h1, h2⟩
  have q3 := Lib.hid (below_step q2.out q2.out.size hb3)
  obtain ⟨b, o, rfl, hc⟩ := (HC2.out.mono hb3) 0 _ rfl
  have c2 := hc.c2
  have hlb := block_lt_of_cell c2
  have he2 : ((bs txM).toList == ({ data := #[109, 97, 105, 110, 32, 123, 10, 125, 10] } : ByteArray).toList) = true := by rw [eqS_eq]; exact decide_eq_true rfl
  have he3 : (bs txM).toList = [109, 97, 105, 110, 32, 123, 10, 125, 10] := by have := eq_of_beq he2; simpa using this
  have hlen : exL.length = 3 := rfl
  clear hc hb3 h he2
  go_wp2_with fail
  go_ret
  exact ⟨rfl, q3.out⟩

end Go.Proofs.YtklljdjeobifiaaDoor
