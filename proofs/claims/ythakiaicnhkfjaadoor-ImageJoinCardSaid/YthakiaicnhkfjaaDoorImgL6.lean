/-
  The walk of the law ImageJoin.
-/
import Derived.Test.YthakiaicnhkfjaaDoorImgJoinR
import Derived.Test.YthakiaicnhkfjaaDoorImgAwake
import Derived.Test.YthakiaicnhkfjaaDoorImgL3
namespace Go.Proofs.YthakiaicnhkfjaaDoor
open Go.ChangeShapes Go.WideShapes Go.ChangeAt Go.RowKit Go.Sort

theorem bytes_join {a b : List Ins} (ha : Bytes a) (hb : Bytes b) : Bytes (joinL a b) := fun k x hk => by
  unfold joinL at hk
  by_cases h : k < a.length
  · rw [List.getElem?_append_left h] at hk; exact ha k x hk
  · rw [List.getElem?_append_right (by omega)] at hk
    unfold shL at hk
    rw [List.getElem?_map] at hk
    obtain ⟨y, hy, rfl⟩ := Option.map_eq_some_iff.1 hk
    rw [op_sh]; exact hb _ y hy
theorem sizes_join {a b : List Ins} {M S : Int} (h : sizesB a.length M S = true) (hn : a.length + b.length ≤ 65536) : sizesB (joinL a b).length M S = true := by
  rw [joinL_length]
  simp [sizesB] at *
  omega
theorem lenq (a b : List Ins) : b.length + a.length = (invL b ++ shL b.length (invL a)).length := by rw [List.length_append, shL_length, invL_length, invL_length]
theorem lenr (a b : List Ins) : (invL b).length + a.length = (invL b ++ shL b.length (invL a)).length := by rw [List.length_append, shL_length, invL_length a]
theorem tgt_ok {l : List Ins} (h : Struct l) (hn : l.length ≤ 65536) : ∀ (k : Nat) (x : Ins), l[k]? = some x → kI x = true → 0 ≤ tI x ∧ tI x ≤ 65536 := fun k x hk hx => by
  obtain ⟨hkl, e⟩ := List.getElem?_eq_some_iff.1 hk
  have ha : atI l (k : Int) = x := by rw [atI_nat hkl]; exact e
  have := tgt_in h hkl (by rw [ha]; exact hx)
  rw [ha] at this
  omega

set_option maxRecDepth 100000 in
set_option maxHeartbeats 8000000 in
theorem imageJoin_walk (la lb : List Ins) (Aa Ab : Option Addr) (ca cb : Nat) (M S M' S' : Int) (w : World) (hCa : CodeAt w Aa la) (hCb : CodeAt w Ab lb) (hYa : Bytes la) (hYb : Bytes lb) (ha63 : la.length ≤ 9223372036854775807) (hb63 : lb.length ≤ 9223372036854775807) (hT : Tab w) :
    Calls Tryd.prog 6 #[.agg #[.slice Aa la.length ca, .int .i64 M, .int .i64 S], .agg #[.slice Ab lb.length cb, .int .i64 M', .int .i64 S']] w fun e w' => e = .returned (.bool true) ∧ Below w.heap.size w w' := by
  have b1 := below_box w (Obj.cells #[.slice Aa la.length ca, .int .i64 M, .int .i64 S] 24)
  have i1 := imgAt_box w 24 Aa ca M S la hCa
  generalize hW1 : w.alloc (Obj.cells #[.slice Aa la.length ca, .int .i64 M, .int .i64 S] 24) = W1 at *
  have z1 : W1.heap.size = w.heap.size + 1 := by rw [← hW1]; simp
  have b2 := below_box W1 (Obj.cells #[.slice Ab lb.length cb, .int .i64 M', .int .i64 S'] 24)
  have j2 := imgAt_box W1 24 Ab cb M' S' lb (hCb.mono b1)
  have i2 := Lib.hid (i1.mono b2)
  rw [z1] at j2
  have J2 := Lib.hid j2
  have q2 := Lib.hid (below_step b1 b1.size b2)
  have HT2 := Lib.hid (hT.mono q2.out)
  subst hW1
  clear b1 b2 i1 j2 z1 hCa hCb hT
  go_enter Tryd.func6, Tryd.ntmps6
  go_wp2_with fail
  generalize World.alloc _ _ = W2 at i2 J2 q2 HT2 ⊢
  refine (awake23_any W2 HT2.out).mono ?_
  rintro e w3 ⟨rfl, hb3⟩
  have q3 := Lib.hid (below_step q2.out q2.out.size hb3)
  have i3 := Lib.hid (i2.out.mono hb3)
  have J3 := Lib.hid (J2.out.mono hb3)
  have HT3 := Lib.hid (HT2.out.mono hb3)
  clear hb3 q2 i2 J2 HT2
  obtain ⟨a0, a1, a2, _⟩ := i3.out
  obtain ⟨d0, d1, d2, _⟩ := J3.out
  by_cases h1 : 40 < la.length
  · have g1 : decide (40 < la.length) = true := by simpa using h1
    go_wp2_with fail
    go_ret
    exact ⟨rfl, q3.out⟩
  have g1 : decide (40 < la.length) = false := by simpa using h1
  by_cases h2 : 40 < lb.length
  · have g2 : decide (40 < lb.length) = true := by simpa using h2
    go_wp2_with fail
    go_ret
    exact ⟨rfl, q3.out⟩
  have g2 : decide (40 < lb.length) = false := by simpa using h2
  go_wp2_with fail
  refine (ivalid_any la Aa ca M S w3 i3.out.code hYa HT3.out (by omega)).mono ?_
  rintro e w4 ⟨rfl, hb4⟩
  have q4 := Lib.hid (below_step q3.out q3.out.size hb4)
  have i4 := Lib.hid (i3.out.mono hb4)
  have J4 := Lib.hid (J3.out.mono hb4)
  have HT4 := Lib.hid (HT3.out.mono hb4)
  clear hb4 q3 i3 J3 HT3 a0 a1 a2 d0 d1 d2
  obtain ⟨a0, a1, a2, _⟩ := i4.out
  obtain ⟨d0, d1, d2, _⟩ := J4.out
  by_cases hoa : okImg la M S = true
  rotate_left
  · have hoa' : okImg la M S = false := by simpa using hoa
    rw [hoa']
    go_wp2_with fail
    go_ret
    exact ⟨rfl, q4.out⟩
  rw [hoa]
  go_wp2_with fail
  refine (ivalid_any lb Ab cb M' S' w4 J4.out.code hYb HT4.out (by omega)).mono ?_
  rintro e w5 ⟨rfl, hb5⟩
  have q5 := Lib.hid (below_step q4.out q4.out.size hb5)
  have i5 := Lib.hid (i4.out.mono hb5)
  have J5 := Lib.hid (J4.out.mono hb5)
  have HT5 := Lib.hid (HT4.out.mono hb5)
  clear hb5 q4 i4 J4 HT4 a0 a1 a2 d0 d1 d2
  obtain ⟨a0, a1, a2, _⟩ := i5.out
  obtain ⟨d0, d1, d2, _⟩ := J5.out
  by_cases hob : okImg lb M' S' = true
  rotate_left
  · have hob' : okImg lb M' S' = false := by simpa using hob
    rw [hob']
    go_wp2_with fail
    go_ret
    exact ⟨rfl, q5.out⟩
  rw [hob]
  obtain ⟨hsa, hsta⟩ := ok_iff.1 hoa
  obtain ⟨hsb, hstb⟩ := ok_iff.1 hob
  have HSA := Lib.hid hsa
  have HSTA := Lib.hid hsta
  have HSTB := Lib.hid hstb
  have HTA := Lib.hid (tgt_ok hsta (by omega))
  have HTB := Lib.hid (tgt_ok hstb (by omega))
  have HOA := Lib.hid hoa
  have HOB := Lib.hid hob
  clear hsa hsta hsb hstb hoa hob
  have HCa := Lib.hid i5.out.code
  have HCb := Lib.hid J5.out.code
  go_wp2_with fail
  go_cut [5] (fun v wc => ∃ nb A8 c8, v = .pointer (some ⟨nb, 0, none⟩) ∧ Hid (NewAt w5 wc nb A8 c8 M S (joinL la lb)))
  case first =>
    have js := JS.start w5 la (shL la.length lb)
    have KB := Lib.hid (show ∀ w' : World, Below w5.heap.size w5 w' → (w'.cell? ⟨w.heap.size, 0, none⟩ = some (.slice Aa la.length ca) ∧ w'.cell? ⟨w.heap.size, 1, none⟩ = some (.int .i64 M) ∧ w'.cell? ⟨w.heap.size, 2, none⟩ = some (.int .i64 S) ∧ w'.cell? ⟨w.heap.size + 1, 0, none⟩ = some (.slice Ab lb.length cb)) from fun w' hb => ⟨(i5.out.mono hb).b0, (i5.out.mono hb).b1, (i5.out.mono hb).b2, (J5.out.mono hb).b0⟩)
    go_region_held3 (fun w' => w'.cell? ⟨w.heap.size, 0, none⟩ = some (.slice Aa la.length ca) ∧ w'.cell? ⟨w.heap.size, 1, none⟩ = some (.int .i64 M) ∧ w'.cell? ⟨w.heap.size, 2, none⟩ = some (.int .i64 S) ∧ w'.cell? ⟨w.heap.size + 1, 0, none⟩ = some (.slice Ab lb.length cb))
      (first | (with_reducible exact KB.out _ (js).hb) | (with_reducible exact KB.out _ (js.e).hb) | (with_reducible exact KB.out _ (js.z).hb) | (with_reducible exact KB.out _ (js.ez).hb) | (with_reducible exact KB.out _ (js.ze).hb) | (with_reducible exact KB.out _ ((js).d).hb) | (with_reducible exact KB.out _ ((js.e).d).hb) | (with_reducible exact KB.out _ ((js.z).d).hb) | (with_reducible exact KB.out _ ((js.ez).d).hb) | (with_reducible exact KB.out _ ((js.ze).d).hb) | (with_reducible exact KB.out _ jf.hb) | (with_reducible exact KB.out _ (jf.hb.alloc jf.hb.size _)) | (refine KB.out _ ?_; repeat (first | exact jf.hb | refine Below.setCell ?_ hgeb _ | refine Below.alloc ?_ jf.hb.size _)))
      (first | (go_at_call 20; first | ((with_reducible refine (call_join js lb.length rfl HCb.out hYb (by omega) (by omega) HTB.out).mono ?_); rintro e wj ⟨AC, cC, rfl, js⟩) | ((with_reducible refine (call_join js.e lb.length rfl HCb.out hYb (by omega) (by omega) HTB.out).mono ?_); rintro e wj ⟨AC, cC, rfl, js⟩) | ((with_reducible refine (call_join js.z lb.length rfl HCb.out hYb (by omega) (by omega) HTB.out).mono ?_); rintro e wj ⟨AC, cC, rfl, js⟩) | ((with_reducible refine (call_join js.ez lb.length rfl HCb.out hYb (by omega) (by omega) HTB.out).mono ?_); rintro e wj ⟨AC, cC, rfl, js⟩) | ((with_reducible refine (call_join js.ze lb.length rfl HCb.out hYb (by omega) (by omega) HTB.out).mono ?_); rintro e wj ⟨AC, cC, rfl, js⟩) | ((with_reducible refine (call_join (js).d lb.length rfl HCb.out hYb (by omega) (by omega) HTB.out).mono ?_); rintro e wj ⟨AC, cC, rfl, js⟩) | ((with_reducible refine (call_join (js.e).d lb.length rfl HCb.out hYb (by omega) (by omega) HTB.out).mono ?_); rintro e wj ⟨AC, cC, rfl, js⟩) | ((with_reducible refine (call_join (js.z).d lb.length rfl HCb.out hYb (by omega) (by omega) HTB.out).mono ?_); rintro e wj ⟨AC, cC, rfl, js⟩) | ((with_reducible refine (call_join (js.ez).d lb.length rfl HCb.out hYb (by omega) (by omega) HTB.out).mono ?_); rintro e wj ⟨AC, cC, rfl, js⟩) | ((with_reducible refine (call_join (js.ze).d lb.length rfl HCb.out hYb (by omega) (by omega) HTB.out).mono ?_); rintro e wj ⟨AC, cC, rfl, js⟩) | fail) | (first | ((with_reducible refine step_join1 js HCa.out (by omega) (by rfl) (.tmp 35) (.tmp 37) (by rfl) la.length ca rfl (by simp [Act.eval]) (by simp [Act.eval]) ?_); intro v5 wj js) | ((with_reducible refine step_join1 js.e HCa.out (by omega) (by rfl) (.tmp 35) (.tmp 37) (by rfl) la.length ca rfl (by simp [Act.eval]) (by simp [Act.eval]) ?_); intro v5 wj js) | ((with_reducible refine step_join1 js.z HCa.out (by omega) (by rfl) (.tmp 35) (.tmp 37) (by rfl) la.length ca rfl (by simp [Act.eval]) (by simp [Act.eval]) ?_); intro v5 wj js) | ((with_reducible refine step_join1 js.ez HCa.out (by omega) (by rfl) (.tmp 35) (.tmp 37) (by rfl) la.length ca rfl (by simp [Act.eval]) (by simp [Act.eval]) ?_); intro v5 wj js) | ((with_reducible refine step_join1 js.ze HCa.out (by omega) (by rfl) (.tmp 35) (.tmp 37) (by rfl) la.length ca rfl (by simp [Act.eval]) (by simp [Act.eval]) ?_); intro v5 wj js) | ((with_reducible refine step_join1 (js).d HCa.out (by omega) (by rfl) (.tmp 35) (.tmp 37) (by rfl) la.length ca rfl (by simp [Act.eval]) (by simp [Act.eval]) ?_); intro v5 wj js) | ((with_reducible refine step_join1 (js.e).d HCa.out (by omega) (by rfl) (.tmp 35) (.tmp 37) (by rfl) la.length ca rfl (by simp [Act.eval]) (by simp [Act.eval]) ?_); intro v5 wj js) | ((with_reducible refine step_join1 (js.z).d HCa.out (by omega) (by rfl) (.tmp 35) (.tmp 37) (by rfl) la.length ca rfl (by simp [Act.eval]) (by simp [Act.eval]) ?_); intro v5 wj js) | ((with_reducible refine step_join1 (js.ez).d HCa.out (by omega) (by rfl) (.tmp 35) (.tmp 37) (by rfl) la.length ca rfl (by simp [Act.eval]) (by simp [Act.eval]) ?_); intro v5 wj js) | ((with_reducible refine step_join1 (js.ze).d HCa.out (by omega) (by rfl) (.tmp 35) (.tmp 37) (by rfl) la.length ca rfl (by simp [Act.eval]) (by simp [Act.eval]) ?_); intro v5 wj js) | fail) | (first | ((with_reducible refine step_join2 js (by rw [shL_length]; omega) (by rfl) (.tmp 38) (.tmp 44) (by rfl) lb.length cC (Eq.trans rfl (shL_length _ _).symm) (by simp [Act.eval]) (by simp [Act.eval]) ?_); intro A8 c8 w8 jf; first | (obtain ⟨⟨r0, r1, r2, rz⟩, hgeb, _⟩ := jf.box _ rfl; have rz0 := rz 0; have rz1 := rz 1; have rz2 := rz 2) | skip) | ((with_reducible refine step_join2 js.e (by rw [shL_length]; omega) (by rfl) (.tmp 38) (.tmp 44) (by rfl) lb.length cC (Eq.trans rfl (shL_length _ _).symm) (by simp [Act.eval]) (by simp [Act.eval]) ?_); intro A8 c8 w8 jf; first | (obtain ⟨⟨r0, r1, r2, rz⟩, hgeb, _⟩ := jf.box _ rfl; have rz0 := rz 0; have rz1 := rz 1; have rz2 := rz 2) | skip) | ((with_reducible refine step_join2 js.z (by rw [shL_length]; omega) (by rfl) (.tmp 38) (.tmp 44) (by rfl) lb.length cC (Eq.trans rfl (shL_length _ _).symm) (by simp [Act.eval]) (by simp [Act.eval]) ?_); intro A8 c8 w8 jf; first | (obtain ⟨⟨r0, r1, r2, rz⟩, hgeb, _⟩ := jf.box _ rfl; have rz0 := rz 0; have rz1 := rz 1; have rz2 := rz 2) | skip) | ((with_reducible refine step_join2 js.ez (by rw [shL_length]; omega) (by rfl) (.tmp 38) (.tmp 44) (by rfl) lb.length cC (Eq.trans rfl (shL_length _ _).symm) (by simp [Act.eval]) (by simp [Act.eval]) ?_); intro A8 c8 w8 jf; first | (obtain ⟨⟨r0, r1, r2, rz⟩, hgeb, _⟩ := jf.box _ rfl; have rz0 := rz 0; have rz1 := rz 1; have rz2 := rz 2) | skip) | ((with_reducible refine step_join2 js.ze (by rw [shL_length]; omega) (by rfl) (.tmp 38) (.tmp 44) (by rfl) lb.length cC (Eq.trans rfl (shL_length _ _).symm) (by simp [Act.eval]) (by simp [Act.eval]) ?_); intro A8 c8 w8 jf; first | (obtain ⟨⟨r0, r1, r2, rz⟩, hgeb, _⟩ := jf.box _ rfl; have rz0 := rz 0; have rz1 := rz 1; have rz2 := rz 2) | skip) | ((with_reducible refine step_join2 (js).d (by rw [shL_length]; omega) (by rfl) (.tmp 38) (.tmp 44) (by rfl) lb.length cC (Eq.trans rfl (shL_length _ _).symm) (by simp [Act.eval]) (by simp [Act.eval]) ?_); intro A8 c8 w8 jf; first | (obtain ⟨⟨r0, r1, r2, rz⟩, hgeb, _⟩ := jf.box _ rfl; have rz0 := rz 0; have rz1 := rz 1; have rz2 := rz 2) | skip) | ((with_reducible refine step_join2 (js.e).d (by rw [shL_length]; omega) (by rfl) (.tmp 38) (.tmp 44) (by rfl) lb.length cC (Eq.trans rfl (shL_length _ _).symm) (by simp [Act.eval]) (by simp [Act.eval]) ?_); intro A8 c8 w8 jf; first | (obtain ⟨⟨r0, r1, r2, rz⟩, hgeb, _⟩ := jf.box _ rfl; have rz0 := rz 0; have rz1 := rz 1; have rz2 := rz 2) | skip) | ((with_reducible refine step_join2 (js.z).d (by rw [shL_length]; omega) (by rfl) (.tmp 38) (.tmp 44) (by rfl) lb.length cC (Eq.trans rfl (shL_length _ _).symm) (by simp [Act.eval]) (by simp [Act.eval]) ?_); intro A8 c8 w8 jf; first | (obtain ⟨⟨r0, r1, r2, rz⟩, hgeb, _⟩ := jf.box _ rfl; have rz0 := rz 0; have rz1 := rz 1; have rz2 := rz 2) | skip) | ((with_reducible refine step_join2 (js.ez).d (by rw [shL_length]; omega) (by rfl) (.tmp 38) (.tmp 44) (by rfl) lb.length cC (Eq.trans rfl (shL_length _ _).symm) (by simp [Act.eval]) (by simp [Act.eval]) ?_); intro A8 c8 w8 jf; first | (obtain ⟨⟨r0, r1, r2, rz⟩, hgeb, _⟩ := jf.box _ rfl; have rz0 := rz 0; have rz1 := rz 1; have rz2 := rz 2) | skip) | ((with_reducible refine step_join2 (js.ze).d (by rw [shL_length]; omega) (by rfl) (.tmp 38) (.tmp 44) (by rfl) lb.length cC (Eq.trans rfl (shL_length _ _).symm) (by simp [Act.eval]) (by simp [Act.eval]) ?_); intro A8 c8 w8 jf; first | (obtain ⟨⟨r0, r1, r2, rz⟩, hgeb, _⟩ := jf.box _ rfl; have rz0 := rz 0; have rz1 := rz 1; have rz2 := rz 2) | skip) | fail) | fail)
    all_goals
      go_wp2_with fail
      go_meet
      first
        | exact ⟨_, _, _, rfl, Lib.hid (new_box jf (joinL_length la lb).symm)⟩
        | exact ⟨_, _, _, rfl, Lib.hid (new_set jf (joinL_length la lb).symm)⟩
        | fail
  case rest =>
    obtain ⟨nb, A8, c8, rfl, hN⟩ := hcut
    have q6 := Lib.hid (below_step q5.out q5.out.size hN.out.hb)
    have i6 := Lib.hid (i5.out.mono hN.out.hb)
    have J6 := Lib.hid (J5.out.mono hN.out.hb)
    have HT6 := Lib.hid (HT5.out.mono hN.out.hb)
    have X6 := Lib.hid hN.out.im
    have hYj := Lib.hid (bytes_join hYa hYb)
    have hoj := Lib.hid (show okImg (joinL la lb) M S = true from ok_iff.2 ⟨sizes_join HSA.out (by omega), struct_join HSTA.out HSTB.out (by omega)⟩)
    have hjl := joinL_length la lb
    have HJL := Lib.hid hjl
    have hji := Lib.hid (inv_join HSTA.out HSTB.out)
    clear hjl q5 i5 J5 HT5 hN a0 a1 a2 d0 d1 d2 HCa HCb
    obtain ⟨x0, x1, x2, _⟩ := X6.out
    have sx := X6.out.lt
    go_wp2_with fail
    refine (invert_any (joinL la lb) A8 c8 M S wc X6.out.code hYj.out HT6.out (by rw [HJL.out]; omega)).mono ?_
    rintro e w7 (⟨_, A9, c9, rfl, hC9, hb7⟩ | ⟨h, _⟩)
    rotate_left
    · rw [hoj.out] at h; cases h
    have HC9 := Lib.hid hC9
    have q7 := Lib.hid (below_step q6.out q6.out.size hb7)
    have i7 := Lib.hid (i6.out.mono hb7)
    have J7 := Lib.hid (J6.out.mono hb7)
    have HT7 := Lib.hid (HT6.out.mono hb7)
    have X7 := Lib.hid (X6.out.mono hb7)
    clear hC9 hb7 q6 i6 J6 HT6 X6 x0 x1 x2
    obtain ⟨a0, a1, a2, _⟩ := i7.out
    have sa := i7.out.lt
    have Y8 := imgAt_box w7 24 A9 c9 M S (invL (joinL la lb)) HC9.out
    rw [invL_length] at Y8
    have hb8 := below_box w7 (Obj.cells #[.slice A9 (joinL la lb).length c9, .int .i64 M, .int .i64 S] 24)
    go_wp2_with fail
    generalize w7.alloc _ = W8 at Y8 hb8 ⊢
    have q8 := Lib.hid (below_step q7.out q7.out.size hb8)
    have i8 := Lib.hid (i7.out.mono hb8)
    have J8 := Lib.hid (J7.out.mono hb8)
    have HT8 := Lib.hid (HT7.out.mono hb8)
    have X8 := Lib.hid (X7.out.mono hb8)
    have Y8' := Lib.hid Y8
    have hw7 : w7.heap.size < W8.heap.size := Y8.lt
    clear Y8 hb8 q7 i7 J7 HT7 X7 a0 a1 a2 HC9
    refine (invert_any la Aa ca M S W8 i8.out.code hYa HT8.out (by omega)).mono ?_
    rintro e w9 (⟨_, A10, c10, rfl, hC10, hb9⟩ | ⟨h, _⟩)
    rotate_left
    · rw [HOA.out] at h; cases h
    have HC10 := Lib.hid hC10
    have q9 := Lib.hid (below_step q8.out q8.out.size hb9)
    have i9 := Lib.hid (i8.out.mono hb9)
    have J9 := Lib.hid (J8.out.mono hb9)
    have HT9 := Lib.hid (HT8.out.mono hb9)
    have X9 := Lib.hid (X8.out.mono hb9)
    have Y9 := Lib.hid (Y8'.out.mono hb9)
    clear hC10 hb9 q8 i8 J8 HT8 X8 Y8'
    obtain ⟨d0, d1, d2, _⟩ := J9.out
    have sd := J9.out.lt
    have P10 := imgAt_box w9 24 A10 c10 M S (invL la) HC10.out
    rw [invL_length] at P10
    have hb10 := below_box w9 (Obj.cells #[.slice A10 la.length c10, .int .i64 M, .int .i64 S] 24)
    go_wp2_with fail
    generalize w9.alloc _ = W10 at P10 hb10 ⊢
    have q10 := Lib.hid (below_step q9.out q9.out.size hb10)
    have i10 := Lib.hid (i9.out.mono hb10)
    have J10 := Lib.hid (J9.out.mono hb10)
    have HT10 := Lib.hid (HT9.out.mono hb10)
    have X10 := Lib.hid (X9.out.mono hb10)
    have Y10 := Lib.hid (Y9.out.mono hb10)
    have P10' := Lib.hid P10
    clear P10 hb10 q9 i9 J9 HT9 X9 Y9 d0 d1 d2
    refine (invert_any lb Ab cb M' S' W10 J10.out.code hYb HT10.out (by omega)).mono ?_
    rintro e w11 (⟨_, A12, c12, rfl, hC12, hb11⟩ | ⟨h, _⟩)
    rotate_left
    · rw [HOB.out] at h; cases h
    have HC12 := Lib.hid hC12
    have q11 := Lib.hid (below_step q10.out q10.out.size hb11)
    have i11 := Lib.hid (i10.out.mono hb11)
    have J11 := Lib.hid (J10.out.mono hb11)
    have HT11 := Lib.hid (HT10.out.mono hb11)
    have X11 := Lib.hid (X10.out.mono hb11)
    have Y11 := Lib.hid (Y10.out.mono hb11)
    have P11 := Lib.hid (P10'.out.mono hb11)
    clear hC12 hb11 q10 i10 J10 HT10 X10 Y10 P10'
    have Q12 := imgAt_box w11 24 A12 c12 M' S' (invL lb) HC12.out
    rw [invL_length] at Q12
    have hb12 := below_box w11 (Obj.cells #[.slice A12 lb.length c12, .int .i64 M', .int .i64 S'] 24)
    go_wp2_with fail
    generalize w11.alloc _ = W12 at Q12 hb12 ⊢
    have q12 := Lib.hid (below_step q11.out q11.out.size hb12)
    have i12 := Lib.hid (i11.out.mono hb12)
    have J12 := Lib.hid (J11.out.mono hb12)
    have HT12 := Lib.hid (HT11.out.mono hb12)
    have X12 := Lib.hid (X11.out.mono hb12)
    have Y12 := Lib.hid (Y11.out.mono hb12)
    have P12 := Lib.hid (P11.out.mono hb12)
    have Q12' := Lib.hid Q12
    clear Q12 hb12 q11 i11 J11 HT11 X11 Y11 P11
    have HCq := Lib.hid Q12'.out.code
    have HCp := Lib.hid P12.out.code
    have HTi := Lib.hid (tgt_ok (struct_inv HSTA.out (by omega)) (by rw [invL_length]; omega))
    have hYi := Lib.hid (bytes_inv hYa)
    go_cut [12] (fun v wc => ∃ nb A13 c13, v = .pointer (some ⟨nb, 0, none⟩) ∧ Hid (NewAt W12 wc nb A13 c13 M S (invL lb ++ shL lb.length (invL la))))
    case first =>
      have js := JS.start W12 (invL lb) (shL lb.length (invL la))
      have KB := Lib.hid (show ∀ w' : World, Below W12.heap.size W12 w' → (w'.cell? ⟨w11.heap.size, 0, none⟩ = some (.slice A12 lb.length c12) ∧ w'.cell? ⟨w9.heap.size, 0, none⟩ = some (.slice A10 la.length c10) ∧ w'.cell? ⟨w.heap.size + 1, 0, none⟩ = some (.slice Ab lb.length cb) ∧ w'.cell? ⟨w.heap.size, 1, none⟩ = some (.int .i64 M) ∧ w'.cell? ⟨w.heap.size, 2, none⟩ = some (.int .i64 S)) from fun w' hb => ⟨by have := (Q12'.out.mono hb).b0; rw [invL_length] at this; exact this, by have := (P12.out.mono hb).b0; rw [invL_length] at this; exact this, (J12.out.mono hb).b0, (i12.out.mono hb).b1, (i12.out.mono hb).b2⟩)
      go_region_held3 (fun w' => w'.cell? ⟨w11.heap.size, 0, none⟩ = some (.slice A12 lb.length c12) ∧ w'.cell? ⟨w9.heap.size, 0, none⟩ = some (.slice A10 la.length c10) ∧ w'.cell? ⟨w.heap.size + 1, 0, none⟩ = some (.slice Ab lb.length cb) ∧ w'.cell? ⟨w.heap.size, 1, none⟩ = some (.int .i64 M) ∧ w'.cell? ⟨w.heap.size, 2, none⟩ = some (.int .i64 S))
        (first | (with_reducible exact KB.out _ (js).hb) | (with_reducible exact KB.out _ (js.e).hb) | (with_reducible exact KB.out _ (js.z).hb) | (with_reducible exact KB.out _ (js.ez).hb) | (with_reducible exact KB.out _ (js.ze).hb) | (with_reducible exact KB.out _ ((js).d).hb) | (with_reducible exact KB.out _ ((js.e).d).hb) | (with_reducible exact KB.out _ ((js.z).d).hb) | (with_reducible exact KB.out _ ((js.ez).d).hb) | (with_reducible exact KB.out _ ((js.ze).d).hb) | (with_reducible exact KB.out _ jf.hb) | (with_reducible exact KB.out _ (jf.hb.alloc jf.hb.size _)) | (refine KB.out _ ?_; repeat (first | exact jf.hb | refine Below.setCell ?_ hgeb _ | refine Below.alloc ?_ jf.hb.size _)))
        (first | (go_at_call 20; first | ((with_reducible refine (call_join js la.length (invL_length la).symm HCp.out hYi.out (by simp only [invL_length]; omega) (by omega) HTi.out).mono ?_); rintro e wj ⟨AC, cC, rfl, js⟩) | ((with_reducible refine (call_join js.e la.length (invL_length la).symm HCp.out hYi.out (by simp only [invL_length]; omega) (by omega) HTi.out).mono ?_); rintro e wj ⟨AC, cC, rfl, js⟩) | ((with_reducible refine (call_join js.z la.length (invL_length la).symm HCp.out hYi.out (by simp only [invL_length]; omega) (by omega) HTi.out).mono ?_); rintro e wj ⟨AC, cC, rfl, js⟩) | ((with_reducible refine (call_join js.ez la.length (invL_length la).symm HCp.out hYi.out (by simp only [invL_length]; omega) (by omega) HTi.out).mono ?_); rintro e wj ⟨AC, cC, rfl, js⟩) | ((with_reducible refine (call_join js.ze la.length (invL_length la).symm HCp.out hYi.out (by simp only [invL_length]; omega) (by omega) HTi.out).mono ?_); rintro e wj ⟨AC, cC, rfl, js⟩) | ((with_reducible refine (call_join (js).d la.length (invL_length la).symm HCp.out hYi.out (by simp only [invL_length]; omega) (by omega) HTi.out).mono ?_); rintro e wj ⟨AC, cC, rfl, js⟩) | ((with_reducible refine (call_join (js.e).d la.length (invL_length la).symm HCp.out hYi.out (by simp only [invL_length]; omega) (by omega) HTi.out).mono ?_); rintro e wj ⟨AC, cC, rfl, js⟩) | ((with_reducible refine (call_join (js.z).d la.length (invL_length la).symm HCp.out hYi.out (by simp only [invL_length]; omega) (by omega) HTi.out).mono ?_); rintro e wj ⟨AC, cC, rfl, js⟩) | ((with_reducible refine (call_join (js.ez).d la.length (invL_length la).symm HCp.out hYi.out (by simp only [invL_length]; omega) (by omega) HTi.out).mono ?_); rintro e wj ⟨AC, cC, rfl, js⟩) | ((with_reducible refine (call_join (js.ze).d la.length (invL_length la).symm HCp.out hYi.out (by simp only [invL_length]; omega) (by omega) HTi.out).mono ?_); rintro e wj ⟨AC, cC, rfl, js⟩) | fail) | (first | ((with_reducible refine step_join1 js HCq.out (by simp only [invL_length]; omega) (by rfl) (.tmp 66) (.tmp 68) (by rfl) lb.length c12 (invL_length lb).symm (by simp [Act.eval]) (by simp [Act.eval]) ?_); intro v5 wj js) | ((with_reducible refine step_join1 js.e HCq.out (by simp only [invL_length]; omega) (by rfl) (.tmp 66) (.tmp 68) (by rfl) lb.length c12 (invL_length lb).symm (by simp [Act.eval]) (by simp [Act.eval]) ?_); intro v5 wj js) | ((with_reducible refine step_join1 js.z HCq.out (by simp only [invL_length]; omega) (by rfl) (.tmp 66) (.tmp 68) (by rfl) lb.length c12 (invL_length lb).symm (by simp [Act.eval]) (by simp [Act.eval]) ?_); intro v5 wj js) | ((with_reducible refine step_join1 js.ez HCq.out (by simp only [invL_length]; omega) (by rfl) (.tmp 66) (.tmp 68) (by rfl) lb.length c12 (invL_length lb).symm (by simp [Act.eval]) (by simp [Act.eval]) ?_); intro v5 wj js) | ((with_reducible refine step_join1 js.ze HCq.out (by simp only [invL_length]; omega) (by rfl) (.tmp 66) (.tmp 68) (by rfl) lb.length c12 (invL_length lb).symm (by simp [Act.eval]) (by simp [Act.eval]) ?_); intro v5 wj js) | ((with_reducible refine step_join1 (js).d HCq.out (by simp only [invL_length]; omega) (by rfl) (.tmp 66) (.tmp 68) (by rfl) lb.length c12 (invL_length lb).symm (by simp [Act.eval]) (by simp [Act.eval]) ?_); intro v5 wj js) | ((with_reducible refine step_join1 (js.e).d HCq.out (by simp only [invL_length]; omega) (by rfl) (.tmp 66) (.tmp 68) (by rfl) lb.length c12 (invL_length lb).symm (by simp [Act.eval]) (by simp [Act.eval]) ?_); intro v5 wj js) | ((with_reducible refine step_join1 (js.z).d HCq.out (by simp only [invL_length]; omega) (by rfl) (.tmp 66) (.tmp 68) (by rfl) lb.length c12 (invL_length lb).symm (by simp [Act.eval]) (by simp [Act.eval]) ?_); intro v5 wj js) | ((with_reducible refine step_join1 (js.ez).d HCq.out (by simp only [invL_length]; omega) (by rfl) (.tmp 66) (.tmp 68) (by rfl) lb.length c12 (invL_length lb).symm (by simp [Act.eval]) (by simp [Act.eval]) ?_); intro v5 wj js) | ((with_reducible refine step_join1 (js.ze).d HCq.out (by simp only [invL_length]; omega) (by rfl) (.tmp 66) (.tmp 68) (by rfl) lb.length c12 (invL_length lb).symm (by simp [Act.eval]) (by simp [Act.eval]) ?_); intro v5 wj js) | fail) | (first | ((with_reducible refine step_join2 js (by rw [shL_length]; simp only [invL_length]; omega) (by rfl) (.tmp 69) (.tmp 75) (by rfl) la.length cC (Eq.trans (invL_length la).symm (shL_length _ _).symm) (by simp [Act.eval]) (by simp [Act.eval]) ?_); intro A8 c8 w8 jf; first | (obtain ⟨⟨r0, r1, r2, rz⟩, hgeb, _⟩ := jf.box _ rfl; have rz0 := rz 0; have rz1 := rz 1; have rz2 := rz 2) | skip) | ((with_reducible refine step_join2 js.e (by rw [shL_length]; simp only [invL_length]; omega) (by rfl) (.tmp 69) (.tmp 75) (by rfl) la.length cC (Eq.trans (invL_length la).symm (shL_length _ _).symm) (by simp [Act.eval]) (by simp [Act.eval]) ?_); intro A8 c8 w8 jf; first | (obtain ⟨⟨r0, r1, r2, rz⟩, hgeb, _⟩ := jf.box _ rfl; have rz0 := rz 0; have rz1 := rz 1; have rz2 := rz 2) | skip) | ((with_reducible refine step_join2 js.z (by rw [shL_length]; simp only [invL_length]; omega) (by rfl) (.tmp 69) (.tmp 75) (by rfl) la.length cC (Eq.trans (invL_length la).symm (shL_length _ _).symm) (by simp [Act.eval]) (by simp [Act.eval]) ?_); intro A8 c8 w8 jf; first | (obtain ⟨⟨r0, r1, r2, rz⟩, hgeb, _⟩ := jf.box _ rfl; have rz0 := rz 0; have rz1 := rz 1; have rz2 := rz 2) | skip) | ((with_reducible refine step_join2 js.ez (by rw [shL_length]; simp only [invL_length]; omega) (by rfl) (.tmp 69) (.tmp 75) (by rfl) la.length cC (Eq.trans (invL_length la).symm (shL_length _ _).symm) (by simp [Act.eval]) (by simp [Act.eval]) ?_); intro A8 c8 w8 jf; first | (obtain ⟨⟨r0, r1, r2, rz⟩, hgeb, _⟩ := jf.box _ rfl; have rz0 := rz 0; have rz1 := rz 1; have rz2 := rz 2) | skip) | ((with_reducible refine step_join2 js.ze (by rw [shL_length]; simp only [invL_length]; omega) (by rfl) (.tmp 69) (.tmp 75) (by rfl) la.length cC (Eq.trans (invL_length la).symm (shL_length _ _).symm) (by simp [Act.eval]) (by simp [Act.eval]) ?_); intro A8 c8 w8 jf; first | (obtain ⟨⟨r0, r1, r2, rz⟩, hgeb, _⟩ := jf.box _ rfl; have rz0 := rz 0; have rz1 := rz 1; have rz2 := rz 2) | skip) | ((with_reducible refine step_join2 (js).d (by rw [shL_length]; simp only [invL_length]; omega) (by rfl) (.tmp 69) (.tmp 75) (by rfl) la.length cC (Eq.trans (invL_length la).symm (shL_length _ _).symm) (by simp [Act.eval]) (by simp [Act.eval]) ?_); intro A8 c8 w8 jf; first | (obtain ⟨⟨r0, r1, r2, rz⟩, hgeb, _⟩ := jf.box _ rfl; have rz0 := rz 0; have rz1 := rz 1; have rz2 := rz 2) | skip) | ((with_reducible refine step_join2 (js.e).d (by rw [shL_length]; simp only [invL_length]; omega) (by rfl) (.tmp 69) (.tmp 75) (by rfl) la.length cC (Eq.trans (invL_length la).symm (shL_length _ _).symm) (by simp [Act.eval]) (by simp [Act.eval]) ?_); intro A8 c8 w8 jf; first | (obtain ⟨⟨r0, r1, r2, rz⟩, hgeb, _⟩ := jf.box _ rfl; have rz0 := rz 0; have rz1 := rz 1; have rz2 := rz 2) | skip) | ((with_reducible refine step_join2 (js.z).d (by rw [shL_length]; simp only [invL_length]; omega) (by rfl) (.tmp 69) (.tmp 75) (by rfl) la.length cC (Eq.trans (invL_length la).symm (shL_length _ _).symm) (by simp [Act.eval]) (by simp [Act.eval]) ?_); intro A8 c8 w8 jf; first | (obtain ⟨⟨r0, r1, r2, rz⟩, hgeb, _⟩ := jf.box _ rfl; have rz0 := rz 0; have rz1 := rz 1; have rz2 := rz 2) | skip) | ((with_reducible refine step_join2 (js.ez).d (by rw [shL_length]; simp only [invL_length]; omega) (by rfl) (.tmp 69) (.tmp 75) (by rfl) la.length cC (Eq.trans (invL_length la).symm (shL_length _ _).symm) (by simp [Act.eval]) (by simp [Act.eval]) ?_); intro A8 c8 w8 jf; first | (obtain ⟨⟨r0, r1, r2, rz⟩, hgeb, _⟩ := jf.box _ rfl; have rz0 := rz 0; have rz1 := rz 1; have rz2 := rz 2) | skip) | ((with_reducible refine step_join2 (js.ze).d (by rw [shL_length]; simp only [invL_length]; omega) (by rfl) (.tmp 69) (.tmp 75) (by rfl) la.length cC (Eq.trans (invL_length la).symm (shL_length _ _).symm) (by simp [Act.eval]) (by simp [Act.eval]) ?_); intro A8 c8 w8 jf; first | (obtain ⟨⟨r0, r1, r2, rz⟩, hgeb, _⟩ := jf.box _ rfl; have rz0 := rz 0; have rz1 := rz 1; have rz2 := rz 2) | skip) | fail) | fail)
      all_goals
        go_wp2_with fail
        go_meet
        first
          | exact ⟨_, _, _, rfl, Lib.hid (new_box jf (lenr la lb))⟩
          | exact ⟨_, _, _, rfl, Lib.hid (new_set jf (lenr la lb))⟩
          | fail
    case rest =>
      obtain ⟨nq, A13, c13, rfl, hN⟩ := hcut
      have q13 := Lib.hid (below_step q12.out q12.out.size hN.out.hb)
      have HT13 := Lib.hid (HT12.out.mono hN.out.hb)
      have X13 := Lib.hid (X12.out.mono hN.out.hb)
      have Y13 := Lib.hid (Y12.out.mono hN.out.hb)
      have Z13 := Lib.hid hN.out.im
      clear hN q12 i12 J12 HT12 X12 Y12 P12 Q12' HCq HCp
      obtain ⟨x0, x1, x2, _⟩ := X13.out
      have sx2 := X13.out.lt
      go_wp2_with fail
      refine (ivalid_any (joinL la lb) A8 c8 M S wc X13.out.code hYj.out HT13.out (by rw [HJL.out]; omega)).mono ?_
      rintro e w14 ⟨rfl, hb14⟩
      rw [hoj.out]
      have q14 := Lib.hid (below_step q13.out q13.out.size hb14)
      have Y14 := Lib.hid (Y13.out.mono hb14)
      have Z14 := Lib.hid (Z13.out.mono hb14)
      clear hb14 q13 HT13 X13 Y13 Z13 x0 x1 x2
      obtain ⟨y0, y1, y2, _⟩ := Y14.out
      obtain ⟨z0, z1, z2, _⟩ := Z14.out
      rw [invL_length] at y0
      have HLQ := Lib.hid (lenq la lb)
      rw [← HLQ.out] at z0
      have sy := Y14.out.lt
      have sz := Z14.out.lt
      have hsame := same_any (invL (joinL la lb)) (invL lb ++ shL lb.length (invL la)) A9 A13 c9 c13 M M S S w14 Y14.out.code Z14.out.code (by rw [invL_length, HJL.out]; omega) (by rw [← HLQ.out]; omega)
      rw [invL_length, ← HLQ.out] at hsame
      have hst : sameB (invL (joinL la lb)) (invL lb ++ shL lb.length (invL la)) M M S S = true := by
        rw [hji.out]
        unfold joinL
        rw [invL_length]
        simp [sameB]
      rw [hst] at hsame
      have HSM := Lib.hid hsame
      clear hsame hst
      go_wp2_with fail
      refine HSM.out.mono ?_
      rintro e w15 ⟨rfl, hb15⟩
      go_wp2_with fail
      go_ret
      exact ⟨rfl, below_step q14.out q14.out.size hb15⟩

end Go.Proofs.YthakiaicnhkfjaaDoor
