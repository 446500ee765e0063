/-
  The contract of the reference's Check (layer 23).
-/
import Derived.Test.YthakiaicnhkfjaaDoorImgRefFault
namespace Go.Proofs.YthakiaicnhkfjaaDoor
open Go.ChangeShapes Go.WideShapes Go.ChangeAt Go.RowKit Go.Sort

/-- The first place with a fault, and the fault. -/
def firstF (f : Nat → Int) : Nat → Nat → Int × Int
  | 0, _ => (-1, 0)
  | r + 1, k => if f k = 0 then firstF f r (k + 1) else ((k : Int), f k)
def sizesB (n : Nat) (M S : Int) : Bool := decide (n ≤ 65536) && decide (0 ≤ M) && decide (M ≤ 16384) && decide (1 ≤ S) && decide (S ≤ 16384)
def checkF (f : Nat → Int) (n : Nat) (M S : Int) : Int × Int := if sizesB n M S = true then firstF f n 0 else (-1, 2)

theorem ret_ii {a b c d : Int} (h : a = b) (h2 : c = d) : Ending.returned (.tuple #[.int .i64 a, .int .i64 c]) = .returned (.tuple #[.int .i64 b, .int .i64 d]) := by rw [h, h2]

theorem sizes_no {n : Nat} {M S : Int} (h : ¬ sizesB n M S = true) : 65536 < n ∨ (n ≤ 65536 ∧ M < 0) ∨ (n ≤ 65536 ∧ 0 ≤ M ∧ 16384 < M) ∨ (n ≤ 65536 ∧ 0 ≤ M ∧ M ≤ 16384 ∧ S < 1) ∨ (n ≤ 65536 ∧ 0 ≤ M ∧ M ≤ 16384 ∧ 1 ≤ S ∧ 16384 < S) := by
  simp [sizesB] at h; omega

set_option maxRecDepth 100000 in
set_option maxHeartbeats 1000000 in
theorem rcheck_any (l : List Ins) (A : Option Addr) (cap : Nat) (M S : Int) (w : World) (hC : CodeAt w A l) (hY : Bytes l) (hl : l.length ≤ 1000000) :
    Calls Tryd.prog 16 #[.agg #[.slice A l.length cap, .int .i64 M, .int .i64 S]] w fun e w' => e = .returned (.tuple #[.int .i64 (checkF (rfault l) l.length M S).1, .int .i64 (checkF (rfault l) l.length M S).2]) ∧ Below w.heap.size w w' := by
  have hbW := below_box w (Obj.cells #[.slice A l.length cap, .int .i64 M, .int .i64 S] 24)
  have im := imgAt_box w 24 A cap M S l hC
  clear hC
  by_cases hs : sizesB l.length M S = true
  rotate_left
  · have hn := Lib.hid (show checkF (rfault l) l.length M S = (-1, 2) from if_neg hs)
    clear im
    rcases sizes_no hs with h | ⟨h0, h⟩ | ⟨h0, h1, h⟩ | ⟨h0, h1, h2, h⟩ | ⟨h0, h1, h2, h3, h⟩
    all_goals
      clear hs
      go_enter Tryd.func16, Tryd.ntmps16
      go_wp2
      go_ret2
      exact ⟨ret_ii (by rw [hn.out]) (by rw [hn.out]), hbW⟩
  have hF := Lib.hid (show checkF (rfault l) l.length M S = firstF (rfault l) l.length 0 from if_pos hs)
  simp only [sizesB, Bool.and_eq_true, decide_eq_true_eq] at hs
  obtain ⟨⟨⟨⟨h0, h1⟩, h2⟩, h3⟩, h4⟩ := hs
  go_enter Tryd.func16, Tryd.ntmps16
  go_wp2
  generalize w.alloc _ = W at hbW im ⊢
  go_loopw [4] (fun v wr => ∃ k : Nat, k ≤ l.length ∧ v = .int .i64 k ∧ Hid (firstF (rfault l) l.length 0 = firstF (rfault l) (l.length - k) k) ∧ Below W.heap.size W wr) (fun v _ => l.length - (intOf v).toNat)
  case atStart => exact ⟨0, by omega, rfl, rfl, Below.refl _ _⟩
  case round =>
    obtain ⟨k, hk, rfl, hz, hb⟩ := hrel
    have im1 := im.mono hb
    have q1 := below_step hbW hbW.size hb
    obtain ⟨b0, b1, b2, bc⟩ := id im1
    have HC := Lib.hid bc
    clear bc
    by_cases hin : k < l.length
    · have hz' := Lib.hid (show firstF (rfault l) l.length 0 = if rfault l k = 0 then firstF (rfault l) (l.length - (k + 1)) (k + 1) else ((k : Int), rfault l k) by
        rw [hz.out, show l.length - k = (l.length - (k + 1)) + 1 by omega]; rfl)
      clear hz
      go_wp2_with fail
      refine (rfault_any l _ _ k hin _ HC.out hY hl).mono ?_
      rintro e w2 ⟨rfl, hb2⟩
      have q2 := below_step q1 q1.size hb2
      by_cases hf : rfault l k = 0
      · have hz2 := Lib.hid (hz'.out.trans (if_pos hf))
        have hb3 := below_step hb hb.size hb2
        go_wp2
        exact ⟨⟨k + 1, by omega, by go_num, hz2, hb3⟩, by simp [intOf]; omega⟩
      · have hz2 := Lib.hid (hF.out.trans (hz'.out.trans (if_neg hf)))
        have hf' : (rfault l k != 0) = true := bne_iff_ne.2 hf
        clear hz'
        go_wp2
        go_ret2
        exact ⟨ret_ii (by rw [hz2.out]) (by rw [hz2.out]), q2⟩
    · have hz2 := Lib.hid (hF.out.trans (show firstF (rfault l) l.length 0 = (-1, 0) by rw [hz.out, show l.length - k = 0 by omega]; rfl))
      clear hz
      go_wp2
      go_ret2
      exact ⟨ret_ii (by rw [hz2.out]) (by rw [hz2.out]), q1⟩

end Go.Proofs.YthakiaicnhkfjaaDoor
