/-
  The contracts of image.Check and image.Valid.
-/
import Derived.Test.YthakiaicnhkfjaaDoorImgFault
namespace Go.Proofs.YthakiaicnhkfjaaDoor
open Go.ChangeShapes Go.WideShapes Go.ChangeAt Go.RowKit Go.Sort

theorem BoolsAt.mono {w w' : World} {A : Option Addr} {l : List Bool} (h : BoolsAt w A l) (hb : Below w.heap.size w w') : BoolsAt w' A l := fun k x hk => by
  obtain ⟨b, o, e, hl, hc⟩ := h k x hk
  exact ⟨b, o, e, Nat.lt_of_lt_of_le hl hb.size, by rw [hb.cell (p := ⟨b, o + k, none⟩) hl]; exact hc⟩
theorem BoolsAt.at_ {w : World} {A : Option Addr} {l : List Bool} (h : BoolsAt w A l) {k : Nat} (hk : k < l.length) : ∃ b o, A = some ⟨b, o, none⟩ ∧ b < w.heap.size ∧ w.cell? ⟨b, o + k, none⟩ = some (.bool l[k]) :=
  h k l[k] (List.getElem?_eq_getElem hk)

set_option maxRecDepth 100000 in
set_option maxHeartbeats 1000000 in
theorem check_any (l : List Ins) (A : Option Addr) (cap : Nat) (M S : Int) (w : World) (hC : CodeAt w A l) (hY : Bytes l) (hT : Tab w) (hl : l.length ≤ 1000000) :
    Calls Tryd.prog 18 #[.agg #[.slice A l.length cap, .int .i64 M, .int .i64 S]] w fun e w' => e = .returned (.tuple #[.int .i64 (checkF (pfault l) l.length M S).1, .int .i64 (checkF (pfault l) l.length M S).2]) ∧ Below w.heap.size w w' := by
  have hbW := below_box w (Obj.cells #[.slice A l.length cap, .int .i64 M, .int .i64 S] 24)
  have im := imgAt_box w 24 A cap M S l hC
  have HT := Lib.hid (hT.mono hbW)
  clear hC hT
  by_cases hs : sizesB l.length M S = true
  rotate_left
  · have hn := Lib.hid (show checkF (pfault l) l.length M S = (-1, 2) from if_neg hs)
    clear im HT
    rcases sizes_no hs with h | ⟨h0, h⟩ | ⟨h0, h1, h⟩ | ⟨h0, h1, h2, h⟩ | ⟨h0, h1, h2, h3, h⟩
    all_goals
      clear hs
      go_enter Tryd.func18, Tryd.ntmps18
      go_wp2
      go_ret2
      exact ⟨ret_ii (by rw [hn.out]) (by rw [hn.out]), hbW⟩
  have hF := Lib.hid (show checkF (pfault l) l.length M S = firstF (pfault l) l.length 0 from if_pos hs)
  simp only [sizesB, Bool.and_eq_true, decide_eq_true_eq] at hs
  obtain ⟨⟨⟨⟨h0, h1⟩, h2⟩, h3⟩, h4⟩ := hs
  go_enter Tryd.func18, Tryd.ntmps18
  go_wp2_with fail
  generalize w.alloc _ = W at hbW im HT ⊢
  refine (regions_any l _ _ _ im.code hY HT.out hl).mono ?_
  rintro e w1 ⟨A5, A6, rfl, hR, hI, hb1⟩
  have im1 := im.mono hb1
  have HT1 := Lib.hid (HT.out.mono hb1)
  have q1 := below_step hbW hbW.size hb1
  have HR := Lib.hid hR
  have HI := Lib.hid hI
  clear im HT hbW hb1 hR hI
  obtain ⟨b0, b1, b2, bc⟩ := id im1
  clear bc
  go_wp2
  clear b0 b1 b2
  go_loopw [41] (fun v wr => ∃ k : Nat, k ≤ l.length ∧ v = .int .i64 k ∧ Hid (firstF (pfault l) l.length 0 = firstF (pfault l) (l.length - k) k) ∧ Below w1.heap.size w1 wr) (fun v _ => l.length - (intOf v).toNat)
  case atStart => exact ⟨0, by omega, rfl, rfl, Below.refl _ _⟩
  case round =>
    obtain ⟨k, hk, rfl, hz, hb⟩ := hrel
    have im2 := im1.mono hb
    have HT2 := Lib.hid (HT1.out.mono hb)
    have HR2 := Lib.hid (HR.out.mono hb)
    have q2 := below_step q1 q1.size hb
    obtain ⟨b0, b1, b2, bc⟩ := id im2
    have HC := Lib.hid bc
    clear bc
    by_cases hin : k < l.length
    · have hz' := Lib.hid (show firstF (pfault l) l.length 0 = if pfault l k = 0 then firstF (pfault l) (l.length - (k + 1)) (k + 1) else ((k : Int), pfault l k) by
        rw [hz.out, show l.length - k = (l.length - (k + 1)) + 1 by omega]; rfl)
      clear hz
      obtain ⟨rb, ro, rfl, hrl, rc⟩ := (HI.out.mono hb).at_ (k := k) (by simpa using hin)
      simp only [List.getElem_map, List.getElem_range] at rc
      have d0 := cell_regrown b0
      have d1 := cell_regrown rc
      have r1 : (0 : Int) ≤ k := by omega
      have r2 : (k : Int) < l.length := by omega
      go_wp2
      refine wp_region_quiet_below (by kernel_rfl) (by kernel_rfl) ?_
      repeat (first | go_big_quiet_step ((go_at_call 36; exact Calls.regrown_of (fault_any l _ _ k hin _ _ _ (HC.out.mono (below_regrown _ _ _)) hY (HT2.out.mono (below_regrown _ _ _)) hl (HR2.out.mono (below_regrown _ _ _))))) | quiet_step ((go_at_call 36; exact Calls.regrown_of (fault_any l _ _ k hin _ _ _ (HC.out.mono (below_regrown _ _ _)) hY (HT2.out.mono (below_regrown _ _ _)) hl (HR2.out.mono (below_regrown _ _ _))))))
      refine wpQuiet_nil ?_
      intro w2 hw'
      obtain ⟨⟨dq, osq⟩, hw''⟩ := hw'
      have hb2 := below_regrown wr dq osq
      rw [← hw''] at hb2
      clear hw''
      clear d0 d1
      have q3 := below_step q2 q2.size hb2
      by_cases hf : pfault l k = 0
      · have hz2 := Lib.hid (hz'.out.trans (if_pos hf))
        have hb3 := below_step hb hb.size hb2
        go_wp2
        exact ⟨⟨k + 1, by omega, by go_num, hz2, hb3⟩, by simp [intOf]; omega⟩
      · have hz2 := Lib.hid (hF.out.trans (hz'.out.trans (if_neg hf)))
        have hf' : (pfault l k != 0) = true := bne_iff_ne.2 hf
        clear hz'
        go_wp2
        go_ret2
        exact ⟨ret_ii (by rw [hz2.out]) (by rw [hz2.out]), q3⟩
    · have hz2 := Lib.hid (hF.out.trans (show firstF (pfault l) l.length 0 = (-1, 0) by rw [hz.out, show l.length - k = 0 by omega]; rfl))
      clear hz
      go_wp2
      go_ret2
      exact ⟨ret_ii (by rw [hz2.out]) (by rw [hz2.out]), q2⟩

/-- The image is valid. -/
def okImg (l : List Ins) (M S : Int) : Bool := (checkF (pfault l) l.length M S).2 == 0

set_option maxRecDepth 100000 in
theorem ivalid_any (l : List Ins) (A : Option Addr) (cap : Nat) (M S : Int) (w : World) (hC : CodeAt w A l) (hY : Bytes l) (hT : Tab w) (hl : l.length ≤ 1000000) :
    Calls Tryd.prog 19 #[.agg #[.slice A l.length cap, .int .i64 M, .int .i64 S]] w fun e w' => e = .returned (.bool (okImg l M S)) ∧ Below w.heap.size w w' := by
  have hbW := below_box w (Obj.cells #[.slice A l.length cap, .int .i64 M, .int .i64 S] 24)
  have im := imgAt_box w 24 A cap M S l hC
  have HT := Lib.hid (hT.mono hbW)
  clear hC hT
  have hok := Lib.hid (show okImg l M S = ((checkF (pfault l) l.length M S).2 == 0) from rfl)
  go_enter Tryd.func19, Tryd.ntmps19
  go_wp2_with fail
  generalize w.alloc _ = W at hbW im HT ⊢
  refine (check_any l _ _ _ _ _ im.code hY HT.out hl).mono ?_
  rintro e w1 ⟨rfl, hb1⟩
  have q1 := below_step hbW hbW.size hb1
  go_wp2
  go_ret
  exact ⟨ret_bool hok.out.symm, q1⟩

end Go.Proofs.YthakiaicnhkfjaaDoor
