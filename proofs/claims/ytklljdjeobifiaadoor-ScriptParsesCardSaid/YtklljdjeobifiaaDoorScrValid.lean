/-
  Commands in memory; the contracts of script.valid and script.Valid.
-/
import Derived.Test.YtklljdjeobifiaaDoorScrFind
import Derived.Test.YtklljdjeobifiaaDoorScrP2
namespace Go.Proofs.YtklljdjeobifiaaDoor
open Go.ChangeShapes Go.WideShapes Go.ChangeAt Go.RowKit Go.Sort Go.Maps
open Go.Lib (hasSuffix)

theorem find_none (k : Nat) (w : World) (h : findK k = none) : Calls Tryd.prog 22 #[.int .u8 k] w fun e w' => e = .returned (.tuple #[.string ⟨#[]⟩, .agg #[.int .u8 0, .bool false, .int .i64 0, .bool false], .bool false]) ∧ Below w.heap.size w w' := by
  have := find_any k w
  rw [h] at this
  exact this
theorem find_some (k : Nat) (s : Shp) (w : World) (h : findK k = some s) : Calls Tryd.prog 22 #[.int .u8 k] w fun e w' => e = .returned (.tuple #[.string (bs s.word), .agg #[.int .u8 s.kind, .bool s.name, .int .i64 s.nums, .bool s.text], .bool true]) ∧ Below w.heap.size w w' := by
  have := find_any k w
  rw [h] at this
  exact this
/-- The four cells of a command. -/
def cmV (c : Cm) (A : Option Addr) (cap : Nat) : Value := .agg #[.int .u8 c.kind, .string (bs c.name), .string (bs c.text), .slice A c.nums.length cap]
theorem empty_bs (l : List UInt8) : (bs l).toList.isEmpty = l.isEmpty := by
  rw [empty_iff, bs_size]
  cases l <;> simp
structure Sm (c : Cm) : Prop where
  n : c.name.length ≤ 9223372036854775807
  t : c.text.length ≤ 9223372036854775807
  k : c.nums.length ≤ 9223372036854775807

set_option maxRecDepth 100000 in
set_option maxHeartbeats 2000000 in
theorem valid_any (c : Cm) (A : Option Addr) (cap : Nat) (w : World) (hs : Sm c) :
    Calls Tryd.prog 29 #[.agg #[.int .u8 c.kind, .string (bs c.name), .string (bs c.text), .slice A c.nums.length cap]] w fun e w' => e = .returned (.bool (okC c)) ∧ Below w.heap.size w w' := by
  obtain ⟨hsn, hst, hsk⟩ := hs
  have b1 := below_box w (Obj.cells #[.int .u8 c.kind, .string (bs c.name), .string (bs c.text), .slice A c.nums.length cap] 42)
  have cb := bx_new w #[.int .u8 c.kind, .string (bs c.name), .string (bs c.text), .slice A c.nums.length cap] 42
  have HOK := Lib.hid (okC.eq_def c)
  cases hf : findK c.kind with
  | none =>
    have HO := Lib.hid (show okC c = false by rw [HOK.out, hf])
    have HF := Lib.hid hf
    clear hf
    go_enter Tryd.func29, Tryd.ntmps29
    go_wp2_with fail
    generalize w.alloc _ = W at b1 cb ⊢
    refine (find_none c.kind W HF.out).mono ?_
    rintro e w2 ⟨rfl, hb2⟩
    have q2 := below_step b1 b1.size hb2
    have bb := below_box w2 (Obj.cells #[.int .u8 0, .bool false, .int .i64 0, .bool false] 51)
    have q3 := below_step q2 q2.size bb
    clear hb2 bb b1
    go_wp2_with fail
    go_ret
    exact ⟨ret_bool HO.out.symm, q3⟩
  | some s =>
    rw [hf] at HOK
    have HF := Lib.hid hf
    clear hf
    go_enter Tryd.func29, Tryd.ntmps29
    go_wp2_with fail
    generalize w.alloc _ = W at b1 cb ⊢
    refine (find_some c.kind s W HF.out).mono ?_
    rintro e w2 ⟨rfl, hb2⟩
    have q2 := Lib.hid (below_step b1 b1.size hb2)
    have cb2 := cb.below hb2
    have bb := below_box w2 (Obj.cells #[.int .u8 s.kind, .bool s.name, .int .i64 s.nums, .bool s.text] 51)
    have sb := bx_new w2 #[.int .u8 s.kind, .bool s.name, .int .i64 s.nums, .bool s.text] 51
    have q3 := Lib.hid (below_step q2.out q2.out.size bb)
    have hlt2 := cb2.lt
    have cb3 := cb2.below bb
    clear b1 cb hb2 bb q2
    have ze := empty_bs c.name
    have te := empty_bs c.text
    generalize s.name = sn at *
    generalize s.text = st at *
    generalize s.nums = sm at *
    obtain ⟨e0, e1, e2, e3, _⟩ := cb2.four
    have HOK := Lib.hid (show okC c = if (sn && !nmB c.name || !sn && !c.name.isEmpty) = true then false else if (decide (sm ≠ -1 ∧ (c.nums.length : Int) ≠ sm) || decide (4096 < c.nums.length)) = true then false else if st = false then c.text.isEmpty else decide (c.text.length ≤ 65536) && (c.text.isEmpty || hasSuffix c.text [10]) from HOK.out)
    cases sn with
    | true =>
      have HNM := Lib.hid (fun W => lname_any (bs c.name) W (by rw [bs_size]; exact hsn))
      rw [data_bs] at HNM
      generalize nmB c.name = nm at *
      go_wp2_with fail
      generalize w2.alloc _ = W3 at q3 cb3 sb ⊢
      refine (HNM.out _).mono ?_
      rintro e w4 ⟨rfl, hb4⟩
      have q4 := Lib.hid (below_step q3.out q3.out.size hb4)
      obtain ⟨a0, a1, a2, a3, _⟩ := (cb3.below hb4).four
      obtain ⟨b0, b1, b2, b3, _⟩ := (sb.below hb4).four
      clear hb4 q3 cb3 sb e0 e1 e2 e3
      cases nm with
      | false =>
        have HO := Lib.hid (show okC c = false by rw [HOK.out]; simp)
        go_wp2_with fail
        go_ret
        exact ⟨ret_bool HO.out.symm, q4.out⟩
      | true =>
        have HO1 := Lib.hid (show okC c = if (decide (sm ≠ -1 ∧ (c.nums.length : Int) ≠ sm) || decide (4096 < c.nums.length)) = true then false else if st = false then c.text.isEmpty else decide (c.text.length ≤ 65536) && (c.text.isEmpty || hasSuffix c.text [10]) by rw [HOK.out]; simp)
        clear HOK
        have hs1 : (sm = -1 ∧ (sm != -1) = false) ∨ (sm ≠ -1 ∧ (sm != -1) = true ∧ (c.nums.length : Int) ≠ sm ∧ ((c.nums.length : Int) != sm) = true) ∨ (sm ≠ -1 ∧ (sm != -1) = true ∧ (c.nums.length : Int) = sm ∧ ((c.nums.length : Int) != sm) = false) := by
          by_cases h1 : sm = -1
          · exact .inl ⟨h1, by simpa using h1⟩
          · by_cases h2 : (c.nums.length : Int) = sm
            · exact .inr (.inr ⟨h1, by simpa using h1, h2, by simpa using h2⟩)
            · exact .inr (.inl ⟨h1, by simpa using h1, h2, by simpa using h2⟩)
        have hs2 : 4096 < c.nums.length ∨ ¬ 4096 < c.nums.length := Classical.em _
        rcases hs1 with ⟨g1, g2⟩ | ⟨g1, g2, g3, g4⟩ | ⟨g1, g2, g3, g4⟩
        all_goals
          rcases hs2 with h4 | h4
          all_goals
            first
              | (have HO := Lib.hid (show okC c = false by rw [HO1.out, if_pos (by simp; omega)])
                 clear HO1
                 have G1 := Lib.hid g1
                 clear g1
                 try (have G3 := Lib.hid g3; clear g3)
                 go_wp2_with fail
                 go_ret
                 exact ⟨ret_bool HO.out.symm, q4.out⟩)
              | (have HO2 := Lib.hid (HO1.out.trans (if_neg (by simp; omega)))
                 clear HO1
                 have G1 := Lib.hid g1
                 clear g1
                 try (have G3 := Lib.hid g3; clear g3)
                 cases st with
                 | false =>
                   have HO := Lib.hid (HO2.out.trans (if_pos rfl))
                   clear HO2
                   go_wp2_with fail
                   go_ret
                   exact ⟨ret_bool HO.out.symm, q4.out⟩
                 | true =>
                   have HO3 := Lib.hid (HO2.out.trans (if_neg (by simp)))
                   clear HO2
                   by_cases h65 : c.text.length ≤ 65536
                   · have HO4 := Lib.hid (HO3.out.trans (by simp [h65] : _ = (c.text.isEmpty || hasSuffix c.text [10])))
                     clear HO3
                     have hz : ((bs c.text).size : Int) ≤ 65536 := by rw [bs_size]; omega
                     cases hx : c.text.isEmpty with
                     | true =>
                       have HO := Lib.hid (HO4.out.trans (by rw [hx]; rfl : _ = true))
                       rw [hx] at te
                       clear hx HO4
                       go_wp2_with fail
                       go_ret
                       exact ⟨ret_bool HO.out.symm, q4.out⟩
                     | false =>
                       have HO := Lib.hid (HO4.out.trans (by rw [hx]; rfl : _ = hasSuffix c.text [10]))
                       rw [hx] at te
                       have HHS := Lib.hid (fun W => Tryd.strings_HasSuffix (bs c.text) ⟨#[10]⟩ W (by rw [bs_size]; exact hst))
                       rw [data_bs] at HHS
                       clear hx HO4
                       go_wp2_with (go_at_call 44; refine (HHS.out _).mono ?_; rintro e w' ⟨rfl, rfl⟩)
                       go_ret
                       exact ⟨ret_bool HO.out.symm, q4.out⟩
                   · have HO := Lib.hid (HO3.out.trans (by simp [h65] : _ = false))
                     clear HO3
                     have hz : ¬ ((bs c.text).size : Int) ≤ 65536 := by rw [bs_size]; omega
                     go_wp2_with fail
                     go_ret
                     exact ⟨ret_bool HO.out.symm, q4.out⟩)
    | false =>
      clear cb3 sb
      cases hn : c.name.isEmpty with
      | false =>
        have HO := Lib.hid (show okC c = false by rw [HOK.out, hn]; simp)
        rw [hn] at ze
        go_wp2_with fail
        go_ret
        exact ⟨ret_bool HO.out.symm, q3.out⟩
      | true =>
        have HO1 := Lib.hid (show okC c = if (decide (sm ≠ -1 ∧ (c.nums.length : Int) ≠ sm) || decide (4096 < c.nums.length)) = true then false else if st = false then c.text.isEmpty else decide (c.text.length ≤ 65536) && (c.text.isEmpty || hasSuffix c.text [10]) by rw [HOK.out, hn]; simp)
        rw [hn] at ze
        clear HOK hn
        have hs1 : (sm = -1 ∧ (sm != -1) = false) ∨ (sm ≠ -1 ∧ (sm != -1) = true ∧ (c.nums.length : Int) ≠ sm ∧ ((c.nums.length : Int) != sm) = true) ∨ (sm ≠ -1 ∧ (sm != -1) = true ∧ (c.nums.length : Int) = sm ∧ ((c.nums.length : Int) != sm) = false) := by
          by_cases h1 : sm = -1
          · exact .inl ⟨h1, by simpa using h1⟩
          · by_cases h2 : (c.nums.length : Int) = sm
            · exact .inr (.inr ⟨h1, by simpa using h1, h2, by simpa using h2⟩)
            · exact .inr (.inl ⟨h1, by simpa using h1, h2, by simpa using h2⟩)
        have hs2 : 4096 < c.nums.length ∨ ¬ 4096 < c.nums.length := Classical.em _
        rcases hs1 with ⟨g1, g2⟩ | ⟨g1, g2, g3, g4⟩ | ⟨g1, g2, g3, g4⟩
        all_goals
          rcases hs2 with h4 | h4
          all_goals
            first
              | (have HO := Lib.hid (show okC c = false by rw [HO1.out, if_pos (by simp; omega)])
                 clear HO1
                 have G1 := Lib.hid g1
                 clear g1
                 try (have G3 := Lib.hid g3; clear g3)
                 go_wp2_with fail
                 go_ret
                 exact ⟨ret_bool HO.out.symm, q3.out⟩)
              | (have HO2 := Lib.hid (HO1.out.trans (if_neg (by simp; omega)))
                 clear HO1
                 have G1 := Lib.hid g1
                 clear g1
                 try (have G3 := Lib.hid g3; clear g3)
                 cases st with
                 | false =>
                   have HO := Lib.hid (HO2.out.trans (if_pos rfl))
                   clear HO2
                   go_wp2_with fail
                   go_ret
                   exact ⟨ret_bool HO.out.symm, q3.out⟩
                 | true =>
                   have HO3 := Lib.hid (HO2.out.trans (if_neg (by simp)))
                   clear HO2
                   by_cases h65 : c.text.length ≤ 65536
                   · have HO4 := Lib.hid (HO3.out.trans (by simp [h65] : _ = (c.text.isEmpty || hasSuffix c.text [10])))
                     clear HO3
                     have hz : ((bs c.text).size : Int) ≤ 65536 := by rw [bs_size]; omega
                     cases hx : c.text.isEmpty with
                     | true =>
                       have HO := Lib.hid (HO4.out.trans (by rw [hx]; rfl : _ = true))
                       rw [hx] at te
                       clear hx HO4
                       go_wp2_with fail
                       go_ret
                       exact ⟨ret_bool HO.out.symm, q3.out⟩
                     | false =>
                       have HO := Lib.hid (HO4.out.trans (by rw [hx]; rfl : _ = hasSuffix c.text [10]))
                       rw [hx] at te
                       have HHS := Lib.hid (fun W => Tryd.strings_HasSuffix (bs c.text) ⟨#[10]⟩ W (by rw [bs_size]; exact hst))
                       rw [data_bs] at HHS
                       clear hx HO4
                       go_wp2_with (go_at_call 44; refine (HHS.out _).mono ?_; rintro e w' ⟨rfl, rfl⟩)
                       go_ret
                       exact ⟨ret_bool HO.out.symm, q3.out⟩
                   · have HO := Lib.hid (HO3.out.trans (by simp [h65] : _ = false))
                     clear HO3
                     have hz : ¬ ((bs c.text).size : Int) ≤ 65536 := by rw [bs_size]; omega
                     go_wp2_with fail
                     go_ret
                     exact ⟨ret_bool HO.out.symm, q3.out⟩)

end Go.Proofs.YtklljdjeobifiaaDoor
