/-
  Names of the reference's layer 2: the contract of Name.
-/
import Derived.Test.YtklljdjeobifiaaDoorScrBnd
namespace Go.Proofs.YtklljdjeobifiaaDoor
open Go.ChangeShapes Go.WideShapes Go.ChangeAt Go.RowKit Go.Sort Go.Maps

def sgL : List ByteArray := [⟨#[60, 61, 62]⟩, ⟨#[58, 61]⟩, ⟨#[43, 61]⟩, ⟨#[45, 61]⟩, ⟨#[94, 61]⟩, ⟨#[61, 61]⟩, ⟨#[33, 61]⟩, ⟨#[60, 61]⟩, ⟨#[62, 61]⟩, ⟨#[38, 38]⟩, ⟨#[124, 124]⟩, ⟨#[43]⟩, ⟨#[45]⟩, ⟨#[42]⟩, ⟨#[47]⟩, ⟨#[37]⟩, ⟨#[38]⟩, ⟨#[124]⟩, ⟨#[94]⟩, ⟨#[33]⟩, ⟨#[61]⟩, ⟨#[60]⟩, ⟨#[62]⟩, ⟨#[40]⟩, ⟨#[41]⟩, ⟨#[123]⟩, ⟨#[125]⟩, ⟨#[91]⟩, ⟨#[93]⟩, ⟨#[59]⟩, ⟨#[44]⟩]
theorem rletter_any (b : UInt8) (w : World) :
    Calls Tryd.prog 74 #[.int .u8 b.toNat] w fun e w' => e = .returned (.bool (letB b)) ∧ w = w' := by
  by_cases h1 : 97 ≤ b.toNat
  · by_cases h2 : b.toNat ≤ 122
    · have HE := Lib.hid (show letB b = true by unfold letB; simp [h1, h2])
      go_enter Tryd.func74, Tryd.ntmps74
      go_wp2
      go_ret
      exact ⟨ret_bool (by first | (rw [HE.out]; done) | (rw [HE.out]; simp; done) | (rw [HE.out]; simp; omega)), rfl⟩
    · have HE := Lib.hid (show letB b = false by unfold letB; simp [h1, h2])
      go_enter Tryd.func74, Tryd.ntmps74
      go_wp2
      go_ret
      exact ⟨ret_bool (by first | (rw [HE.out]; done) | (rw [HE.out]; simp; done) | (rw [HE.out]; simp; omega)), rfl⟩
  · have HE := Lib.hid (show letB b = false by unfold letB; simp [h1])
    go_enter Tryd.func74, Tryd.ntmps74
    go_wp2
    go_ret
    exact ⟨ret_bool (by first | (rw [HE.out]; done) | (rw [HE.out]; simp; done) | (rw [HE.out]; simp; omega)), rfl⟩
theorem rdigit_any (b : UInt8) (w : World) :
    Calls Tryd.prog 75 #[.int .u8 b.toNat] w fun e w' => e = .returned (.bool (digB b)) ∧ w = w' := by
  by_cases h1 : 48 ≤ b.toNat
  · by_cases h2 : b.toNat ≤ 57
    · have HE := Lib.hid (show digB b = true by unfold digB; simp [h1, h2])
      go_enter Tryd.func75, Tryd.ntmps75
      go_wp2
      go_ret
      exact ⟨ret_bool (by first | (rw [HE.out]; done) | (rw [HE.out]; simp; done) | (rw [HE.out]; simp; omega)), rfl⟩
    · have HE := Lib.hid (show digB b = false by unfold digB; simp [h1, h2])
      go_enter Tryd.func75, Tryd.ntmps75
      go_wp2
      go_ret
      exact ⟨ret_bool (by first | (rw [HE.out]; done) | (rw [HE.out]; simp; done) | (rw [HE.out]; simp; omega)), rfl⟩
  · have HE := Lib.hid (show digB b = false by unfold digB; simp [h1])
    go_enter Tryd.func75, Tryd.ntmps75
    go_wp2
    go_ret
    exact ⟨ret_bool (by first | (rw [HE.out]; done) | (rw [HE.out]; simp; done) | (rw [HE.out]; simp; omega)), rfl⟩
theorem rin_any (l : List ByteArray) (A : Option Addr) (cap : Nat) (s : ByteArray) (w : World) (hL : StrsAt w A l) (hl : l.length ≤ 9223372036854775807) :
    Calls Tryd.prog 56 #[.slice A l.length cap, .string s] w fun e w' => e = .returned (.bool (inL l s)) ∧ w = w' := by
  have HL := Lib.hid hL
  clear hL
  go_enter Tryd.func56, Tryd.ntmps56
  go_wp2_with fail
  go_loop [5] (fun i => ∃ k : Nat, k ≤ l.length ∧ i = .int .i64 k ∧ Hid (∀ (j : Nat) (x : ByteArray), j < k → l[j]? = some x → x ≠ s)) (fun i => l.length - (intOf i).toNat)
  case atStart => exact ⟨0, by omega, rfl, fun j x hj => by omega⟩
  case round =>
    obtain ⟨k, hk, rfl, hall⟩ := hrel
    by_cases hin : k < l.length
    · obtain ⟨b, o, rfl, c0⟩ := HL.out.at_ hin
      have HG := Lib.hid (List.getElem?_eq_getElem hin)
      generalize l[k] = x at *
      have r1 : (0 : Int) ≤ k := by omega
      have r2 : (k : Int) < l.length := by omega
      have hlt := block_lt_of_cell c0
      cases hx : (x.toList == s.toList) with
      | true =>
        have HT := Lib.hid (show inL l s = true by unfold inL; rw [List.any_eq_true]; exact ⟨x, List.mem_of_getElem? HG.out, decide_eq_true (eqS_iff.1 hx)⟩)
        go_wp2_with fail
        go_ret
        exact ⟨ret_bool HT.out.symm, rfl⟩
      | false =>
        have HN := Lib.hid (fun (j : Nat) (y : ByteArray) (hj : j < k + 1) (hy : l[j]? = some y) => show y ≠ s from by
          by_cases e : j = k
          · subst e; rw [HG.out] at hy; cases hy; intro e2; rw [eqS_iff.2 e2] at hx; cases hx
          · exact hall.out j y (by omega) hy)
        clear hall
        go_wp2_with fail
        exact ⟨⟨k + 1, by omega, by go_num, HN⟩, by simp [intOf]; omega⟩
    · have HF := Lib.hid (show inL l s = false by
        unfold inL
        rw [List.any_eq_false]
        intro x hx
        obtain ⟨j, hj⟩ := List.getElem?_of_mem hx
        have := hall.out j x (by have := (List.getElem?_eq_some_iff.1 hj).1; omega) hj
        simpa using this)
      clear hall
      go_wp2_with fail
      go_ret
      exact ⟨ret_bool HF.out.symm, rfl⟩
theorem rsigns_any (w : World) :
    Calls Tryd.prog 76 #[] w fun e w' => ∃ A c, e = .returned (.slice A 31 c) ∧ StrsAt w' A sgL ∧ Below w.heap.size w w' := by
  have hst := strs_new w 9 sgL _ rfl
  have hbx := below_box w (Obj.cells (sgL.map Value.string).toArray 9)
  go_enter Tryd.func76, Tryd.ntmps76
  go_wp2_with fail
  go_ret
  exact ⟨_, _, rfl, hst, hbx⟩

def alB (b : UInt8) : Bool := letB b || digB b
def wordB : List UInt8 → Bool
  | [] => false
  | a :: r => letB a && (a :: r).all alB
def RetKind (l : List UInt8) (w : World) (e : Ending) (w' : World) : Prop := ∃ k : Nat, e = .returned (.int .u8 k) ∧ (((k : Int) == 1) = wordB l) ∧ Below w.heap.size w w'
theorem all_step {l : List UInt8} {k : Nat} {c : UInt8} (h : l[k]? = some c) : (l.take (k + 1)).all alB = ((l.take k).all alB && (letB c || digB c)) := by
  rw [List.take_add_one, h, List.all_append]; simp [alB]
theorem wordB_cons {l : List UInt8} {a : UInt8} (h : l[0]? = some a) : wordB l = (letB a && l.all alB) := by
  cases l with
  | nil => simp at h
  | cons b r => simp at h; subst h; rfl

set_option maxRecDepth 100000 in
set_option maxHeartbeats 2000000 in
theorem rkind_any (l : List UInt8) (w : World) (hl : l.length ≤ 9223372036854775807) :
    Calls Tryd.prog 55 #[.string (bs l)] w (RetKind l w) := by
  have ze := empty_bs l
  cases hemp : l.isEmpty with
  | true =>
    rw [hemp] at ze
    have HW := Lib.hid (show wordB l = false by rw [List.isEmpty_iff.1 hemp]; rfl)
    clear hemp
    go_enter Tryd.func55, Tryd.ntmps55
    go_wp2_with fail
    go_ret
    exact ⟨0, rfl, by rw [HW.out]; rfl, Below.refl _ _⟩
  | false =>
    rw [hemp] at ze
    have hpos : 0 < l.length := by cases l with | nil => simp at hemp | cons a r => simp
    have hz := bs_size l
    have hsz : 0 < (bs l).size := by omega
    obtain ⟨a, ha⟩ : ∃ a, l[0]? = some a := ⟨l[0], List.getElem?_eq_getElem hpos⟩
    have HA := Lib.hid ha
    have ha0 : (bs l)[0]'hsz = a := by
      have := byte_at (bs l) hsz
      rw [data_bs, ha] at this
      exact (Option.some.inj this).symm
    have HLT := Lib.hid (fun (W : World) => show Calls Tryd.prog 74 #[.int .u8 a.toNat] W (fun e w' => e = .returned (.bool (letB a)) ∧ w' = W) from (rletter_any a W).mono fun _ _ h => ⟨h.1, h.2.symm⟩)
    have HWB := Lib.hid (wordB_cons ha)
    clear hemp ha
    have r0 : (0 : Int) < ((bs l).size : Int) := by omega
    go_enter Tryd.func55, Tryd.ntmps55
    go_upto_region 3 with fail
    generalize letB a = la at *
    go_cut [3, 4, 5, 6] (fun p q r s wc => ∃ sb : Bool, p = .bool la ∧ q = .bool true ∧ r = .bool true ∧ s = .bool sb ∧ Hid (Below w.heap.size w wc))
    case first =>
      go_quiet (first | (go_at_call 74; exact Calls.quiet_of_same (HLT.out _)))
      all_goals
        go_wp2_with fail
        go_meet
        exact ⟨_, rfl, rfl, rfl, rfl, below_drewN (Below.refl _ _) _⟩
    case rest =>
      obtain ⟨sb, rfl, rfl, rfl, rfl, hbc⟩ := hcut
      clear HLT
      go_upto_region 5 with fail
      go_loop [3, 4, 5, 6, 7] (fun p q r s i => ∃ (k : Nat) (x y z : Bool), k ≤ l.length ∧ i = .int .i64 k ∧ p = .bool (la && (l.take k).all alB) ∧ q = .bool x ∧ r = .bool y ∧ s = .bool z) (fun _ _ _ _ i => l.length - (intOf i).toNat)
      case atStart => exact ⟨0, _, _, _, by omega, rfl, by simp, rfl, rfl, rfl⟩
      case round =>
        obtain ⟨k, x, y, z, hk, rfl, rfl, rfl, rfl, rfl⟩ := hrel
        by_cases hin : k < l.length
        · have hin' : k < (bs l).size := by omega
          have r1 : (0 : Int) ≤ k := by omega
          have r2 : (k : Int) < ((bs l).size : Int) := by omega
          obtain ⟨c, hc⟩ : ∃ c, (bs l)[k]'hin' = c := ⟨_, rfl⟩
          have hlc : l[k]? = some c := by
            have := byte_at (bs l) hin'
            rw [data_bs, hc] at this
            exact this
          have HST := Lib.hid (show (la && (l.take (k + 1)).all alB) = ((la && (l.take k).all alB) && (letB c || digB c)) by rw [all_step hlc, Bool.and_assoc])
          have HL := Lib.hid (fun (W : World) => rletter_any c W)
          have HD := Lib.hid (fun (W : World) => rdigit_any c W)
          generalize (la && (l.take k).all alB) = pv at *
          generalize hpn : (la && (l.take (k + 1)).all alB) = pn at *
          have HPN := Lib.hid hpn
          clear hpn
          generalize letB c = lc at *
          generalize digB c = dc at *
          clear hlc
          go_upto_region 8 with fail
          go_cut [3] (fun p wd => p = .bool pn ∧ wd = wc)
          case first =>
            cases pv <;> cases lc <;> cases dc
            all_goals
              go_wp2_with (first | (go_at_call 74; refine (HL.out _).mono ?_; rintro e w' ⟨rfl, rfl⟩) | (go_at_call 75; refine (HD.out _).mono ?_; rintro e w' ⟨rfl, rfl⟩) | fail)
              go_meet
              exact ⟨by rw [HST.out]; rfl, rfl⟩
          case rest =>
            obtain ⟨rfl, rfl⟩ := hcut
            go_upto_region 9 with fail
            go_cut [4] (fun p wd => ∃ x : Bool, p = .bool x ∧ wd = wc)
            case first =>
              cases x
              all_goals
                go_wp2_with (first | (go_at_call 75; refine (HD.out _).mono ?_; rintro e w' ⟨rfl, rfl⟩) | fail)
                go_meet
                exact ⟨_, rfl, rfl⟩
            case rest =>
              obtain ⟨x2, rfl, rfl⟩ := hcut
              go_upto_region 10 with fail
              go_cut [5, 8] (fun p v wd => ∃ x : Bool, p = .bool x ∧ v = .int .u8 c.toNat ∧ wd = wc)
              case first =>
                cases y
                all_goals
                  go_wp2_with fail
                  all_goals
                    go_meet
                    exact ⟨_, rfl, by first | rfl | (simp [*]; done) | (refine congrArg _ ?_; omega), rfl⟩
              case rest =>
                obtain ⟨y2, rfl, rfl, rfl⟩ := hcut
                cases z
                all_goals
                  go_wp2_with fail
                  all_goals exact ⟨⟨k + 1, _, _, _, by omega, by go_num, by rw [HPN.out], rfl, rfl, rfl⟩, by simp [intOf]; omega⟩
        · obtain rfl : k = l.length := by omega
          rw [List.take_length] at *
          have HKW := Lib.hid (show wordB l = (la && l.all alB) from HWB.out)
          generalize (la && l.all alB) = pv at *
          have HSG := Lib.hid (fun (W : World) => rsigns_any W)
          have HIN := Lib.hid (fun (A : Option Addr) (c : Nat) (W : World) (h : StrsAt W A sgL) => show Calls Tryd.prog 56 #[.slice A 31 c, .string (bs l)] W (fun e w' => e = .returned (.bool (inL sgL (bs l))) ∧ W = w') from rin_any sgL A c (bs l) W h (by decide))
          generalize inL sgL (bs l) = ib at *
          cases pv with
          | true =>
            go_wp2_with fail
            go_ret
            exact ⟨1, rfl, HKW.out.symm, hbc.out⟩
          | false =>
            cases x with
            | true =>
              go_wp2_with fail
              go_ret
              exact ⟨2, rfl, HKW.out.symm, hbc.out⟩
            | false =>
              go_wp2_with fail
              refine (HSG.out _).mono ?_
              rintro e W2 ⟨A, c, rfl, hst, hb2⟩
              have q2 := Lib.hid (below_step hbc.out hbc.out.size hb2)
              have HS2 := Lib.hid hst
              clear hst hb2
              go_wp2_with fail
              refine (HIN.out A c W2 HS2.out).mono ?_
              rintro e W3 ⟨rfl, rfl⟩
              cases ib <;> cases y <;> cases z
              all_goals
                go_wp2_with fail
                go_ret
                exact ⟨_, rfl, HKW.out.symm, q2.out⟩

def RetName (l : List UInt8) (w : World) (e : Ending) (w' : World) : Prop := e = .returned (.bool (nmB l)) ∧ Below w.heap.size w w'
theorem nm_word (l : List UInt8) : nmB l = (wordB l && decide (l.length ≤ 16) && !kwW.contains l) := by
  cases l with
  | nil => rfl
  | cons a r => rfl
set_option maxRecDepth 100000 in
theorem rname_any (l : List UInt8) (w : World) (hl : l.length ≤ 9223372036854775807) :
    Calls Tryd.prog 42 #[.string (bs l)] w (RetName l w) := by
  have HK := Lib.hid (rkind_any l w hl)
  have HN := Lib.hid (nm_word l)
  have hz := bs_size l
  have HIN := Lib.hid (fun (A : Option Addr) (c : Nat) (W : World) (h : StrsAt W A kwL) => show Calls Tryd.prog 56 #[.slice A 23 c, .string (bs l)] W (fun e w' => e = .returned (.bool (kwW.contains l)) ∧ W = w') from by
    have := rin_any kwL A c (bs l) W h (by decide)
    rw [inL_contains, kw_lists, data_bs] at this
    exact this)
  generalize kwW.contains l = kb at *
  go_enter Tryd.func42, Tryd.ntmps42
  go_wp2_with fail
  refine HK.out.mono ?_
  rintro e W1 ⟨k, rfl, hk1, hb1⟩
  have q1 := Lib.hid hb1
  clear hb1 HK
  by_cases h16 : l.length ≤ 16
  · have d16 : decide (l.length ≤ 16) = true := decide_eq_true h16
    rw [d16] at HN
    cases hw : wordB l with
    | false =>
      rw [hw] at hk1 HN
      go_wp2_with fail
      go_ret
      exact ⟨ret_bool HN.out.symm, q1.out⟩
    | true =>
      rw [hw] at hk1 HN
      go_wp2_with fail
      refine (rkeywords_any W1).mono ?_
      rintro e W2 ⟨A, c, rfl, hst, hb2⟩
      have q2 := Lib.hid (below_step q1.out q1.out.size hb2)
      have HS2 := Lib.hid hst
      clear hst hb2
      go_wp2_with fail
      refine (HIN.out A c W2 HS2.out).mono ?_
      rintro e W3 ⟨rfl, rfl⟩
      go_wp2_with fail
      go_ret
      exact ⟨ret_bool (by rw [HN.out]; rfl), q2.out⟩
  · have d16 : decide (l.length ≤ 16) = false := decide_eq_false h16
    have HO := Lib.hid (show nmB l = false by rw [HN.out, d16]; simp)
    cases hw : wordB l with
    | false =>
      rw [hw] at hk1
      go_wp2_with fail
      go_ret
      exact ⟨ret_bool HO.out.symm, q1.out⟩
    | true =>
      rw [hw] at hk1
      go_wp2_with fail
      go_ret
      exact ⟨ret_bool HO.out.symm, q1.out⟩

end Go.Proofs.YtklljdjeobifiaaDoor
