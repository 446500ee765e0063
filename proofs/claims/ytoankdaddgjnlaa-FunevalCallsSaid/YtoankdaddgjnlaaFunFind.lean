/-
  Contracts of fun.Find and the reference's Find.
-/
import Derived.Test.YtoankdaddgjnlaaFunBase
namespace Go.Proofs.Ytoankdaddgjnlaa
open Go.ChangeShapes Go.WideShapes Go.ChangeAt Go.RowKit Go.Sort

/-- The first function with that name, from k on. -/
def findF : List Fn1 → ByteArray → Nat → Int
  | [], _, _ => -1
  | f :: r, s, k => if (f.name.toList == s.toList) = true then k else findF r s (k + 1)
theorem findF_step {l : List Fn1} {s : ByteArray} {k : Nat} (h : k < l.length) : findF (l.drop k) s k = if (l[k].name.toList == s.toList) = true then (k : Int) else findF (l.drop (k + 1)) s (k + 1) := by
  rw [List.drop_eq_getElem_cons h]; rfl

set_option maxRecDepth 100000 in
set_option maxHeartbeats 400000 in
theorem find_any (l : List Fn1) (A : Option Addr) (cap : Nat) (s : ByteArray) (w : World) (hL : LibAt w A l) (hl : l.length ≤ 9223372036854775807) :
    Calls Try.prog 22 #[.slice A l.length cap, .string s] w fun e w' => e = .returned (.int .i64 (findF l s 0)) ∧ Below w.heap.size w w' := by
  have HL := Lib.hid hL
  clear hL
  go_enter Try.func22, Try.ntmps22
  go_wp2
  go_loopw [9] (fun i wr => ∃ k : Nat, k ≤ l.length ∧ i = .int .i64 k ∧ Hid (findF l s 0 = findF (l.drop k) s k) ∧ Below w.heap.size w wr) (fun i _ => l.length - (intOf i).toNat)
  case atStart => exact ⟨0, by omega, rfl, rfl, Below.refl _ _⟩
  case round =>
    obtain ⟨k, hk, rfl, hz, hb⟩ := hrel
    by_cases hin : k < l.length
    · have hz' := Lib.hid (hz.out.trans (findF_step hin))
      obtain ⟨b, o, rfl, hi⟩ := (HL.out.mono hb).at_ hin
      have hlt := hi.lt
      obtain ⟨c0, ⟨A1, cp1, c1, _⟩, c2, hbody⟩ := id hi
      obtain ⟨A3, cp3, d0, d1, d2, d3, _⟩ := hbody.open_
      clear hz hbody
      by_cases he : (l[k].name.toList == s.toList) = true
      · have hf := Lib.hid (hz'.out.trans (if_pos he))
        go_wp2
        go_ret
        exact ⟨ret_i64 hf.out.symm, hb.alloc hb.size _⟩
      · have hf := Lib.hid (hz'.out.trans (if_neg he))
        have he' : (l[k].name.toList == s.toList) = false := by simpa using he
        go_wp2
        exact ⟨⟨k + 1, by omega, by go_num, hf, hb.alloc hb.size _⟩, by simp [intOf]; omega⟩
    · have hz' := Lib.hid (show findF l s 0 = -1 by rw [hz.out, List.drop_of_length_le (by omega)]; rfl)
      clear hz
      go_wp2
      go_ret
      exact ⟨ret_i64 hz'.out.symm, hb⟩

set_option maxRecDepth 100000 in
set_option maxHeartbeats 400000 in
theorem rfind_any (l : List Fn1) (A : Option Addr) (cap : Nat) (s : ByteArray) (w : World) (hL : LibAt w A l) (hl : l.length ≤ 9223372036854775807) :
    Calls Try.prog 16 #[.slice A l.length cap, .string s] w fun e w' => e = .returned (.int .i64 (findF l s 0)) ∧ w' = w := by
  have HL := Lib.hid hL
  clear hL
  go_enter Try.func16, Try.ntmps16
  go_wp2
  go_loop [5] (fun i => ∃ k : Nat, k ≤ l.length ∧ i = .int .i64 k ∧ Hid (findF l s 0 = findF (l.drop k) s k)) (fun i => l.length - (intOf i).toNat)
  case atStart => exact ⟨0, by omega, rfl, rfl⟩
  case round =>
    obtain ⟨k, hk, rfl, hz⟩ := hrel
    by_cases hin : k < l.length
    · have hz' := Lib.hid (hz.out.trans (findF_step hin))
      obtain ⟨b, o, rfl, hi⟩ := HL.out.at_ hin
      have hlt := hi.lt
      obtain ⟨c0, ⟨A1, cp1, c1, _⟩, c2, hbody⟩ := id hi
      clear hz hbody
      by_cases he : (l[k].name.toList == s.toList) = true
      · have hf := Lib.hid (hz'.out.trans (if_pos he))
        go_wp2
        go_ret
        exact ⟨ret_i64 hf.out.symm, rfl⟩
      · have hf := Lib.hid (hz'.out.trans (if_neg he))
        have he' : (l[k].name.toList == s.toList) = false := by simpa using he
        go_wp2
        exact ⟨⟨k + 1, by omega, by go_num, hf⟩, by simp [intOf]; omega⟩
    · have hz' := Lib.hid (show findF l s 0 = -1 by rw [hz.out, List.drop_of_length_le (by omega)]; rfl)
      clear hz
      go_wp2
      go_ret
      exact ⟨ret_i64 hz'.out.symm, rfl⟩

end Go.Proofs.Ytoankdaddgjnlaa
