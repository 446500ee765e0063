/-
  The contract of strings.CutPrefix(s, "r").
-/
import Derived.Test.YtodiijoeeeeicaaDoorAsmBrg
namespace Go.Proofs.YtodiijoeeeeicaaDoor
open Go.ChangeShapes Go.WideShapes Go.ChangeAt Go.RowKit Go.Sort

theorem pre_hit (r : List UInt8) : Lib.hasPrefix (bs (114 :: r)).data.toList (⟨#[114]⟩ : ByteArray).data.toList = true := by rw [data_bs]; simp [Lib.hasPrefix]
theorem pre_miss {s : List UInt8} (h : ∀ r, s ≠ 114 :: r) : Lib.hasPrefix (bs s).data.toList (⟨#[114]⟩ : ByteArray).data.toList = false := by
  rw [data_bs]
  cases s with
  | nil => rfl
  | cons b r =>
    have : b ≠ 114 := fun e => h r (by rw [e])
    show (((114 : UInt8) == b) && List.isPrefixOf [] r) = false
    rw [beq_eq_false_iff_ne.2 (Ne.symm this)]; rfl
theorem cutpreI_hit (r : List UInt8) (w : World) : Calls Tryd.prog 87 #[.string (bs (114 :: r)), .string ⟨#[114]⟩] w fun e w' => e = .returned (.tuple #[.string (bs r), .bool true]) ∧ w' = w := by
  have HP := Lib.hid (Tryd.stringslite_HasPrefix (bs (114 :: r)) ⟨#[114]⟩ w)
  rw [pre_hit] at HP
  have hx : (bs (114 :: r)).extract 1 (r.length + 1) = bs r := by
    rw [bs_ext]
    congr 1
    simp
  have hz : (bs (114 :: r)).size = r.length + 1 := by rw [bs_size]; rfl
  have HX := Lib.hid hx
  clear hx
  generalize bs (114 :: r) = q at *
  go_enter Tryd.func87, Tryd.ntmps87
  go_wp2_with (go_at_call 99; refine HP.out.mono ?_; rintro e w3 ⟨rfl, rfl⟩)
  rw [HX.out]
  exact bodyPost_ret (v := .tuple #[.string (bs r), .bool true]) (by simp [results, Tryd.results87]) rfl ⟨rfl, rfl⟩
theorem cutpreI_miss {s : List UInt8} (h : ∀ r, s ≠ 114 :: r) (w : World) : Calls Tryd.prog 87 #[.string (bs s), .string ⟨#[114]⟩] w fun e w' => e = .returned (.tuple #[.string (bs s), .bool false]) ∧ w' = w := by
  have HP := Lib.hid (Tryd.stringslite_HasPrefix (bs s) ⟨#[114]⟩ w)
  rw [pre_miss h] at HP
  clear h
  go_enter Tryd.func87, Tryd.ntmps87
  go_wp2_with (go_at_call 99; refine HP.out.mono ?_; rintro e w3 ⟨rfl, rfl⟩)
  exact bodyPost_ret (v := .tuple #[.string (bs s), .bool false]) (by simp [results, Tryd.results87]) rfl ⟨rfl, rfl⟩
theorem cutpre_hit (r : List UInt8) (w : World) : Calls Tryd.prog 76 #[.string (bs (114 :: r)), .string ⟨#[114]⟩] w fun e w' => e = .returned (.tuple #[.string (bs r), .bool true]) ∧ w' = w := by
  have HP := Lib.hid (cutpreI_hit r w)
  go_enter Tryd.func76, Tryd.ntmps76
  go_wp2_with (go_at_call 87; refine HP.out.mono ?_; rintro e w3 ⟨rfl, rfl⟩)
  exact bodyPost_ret (v := .tuple #[.string (bs r), .bool true]) (by simp [results, Tryd.results76]) rfl ⟨rfl, rfl⟩
theorem cutpre_miss {s : List UInt8} (h : ∀ r, s ≠ 114 :: r) (w : World) : Calls Tryd.prog 76 #[.string (bs s), .string ⟨#[114]⟩] w fun e w' => e = .returned (.tuple #[.string (bs s), .bool false]) ∧ w' = w := by
  have HP := Lib.hid (cutpreI_miss h w)
  clear h
  go_enter Tryd.func76, Tryd.ntmps76
  go_wp2_with (go_at_call 87; refine HP.out.mono ?_; rintro e w3 ⟨rfl, rfl⟩)
  exact bodyPost_ret (v := .tuple #[.string (bs s), .bool false]) (by simp [results, Tryd.results76]) rfl ⟨rfl, rfl⟩

end Go.Proofs.YtodiijoeeeeicaaDoor
