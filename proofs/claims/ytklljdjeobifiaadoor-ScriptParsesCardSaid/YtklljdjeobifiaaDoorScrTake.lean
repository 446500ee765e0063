/-
  script.take: the walk.
-/
import Derived.Test.YtklljdjeobifiaaDoorScrWld
import Derived.Test.YtklljdjeobifiaaDoorScrBrg
namespace Go.Proofs.YtklljdjeobifiaaDoor
open Go.ChangeShapes Go.WideShapes Go.ChangeAt Go.RowKit Go.Sort Go.Maps

def takeV : Option (List UInt8 × List UInt8) → Value
  | none => .tuple #[.string ⟨#[]⟩, .string ⟨#[]⟩, .bool false]
  | some (t, q) => .tuple #[.string (bs t), .string (bs q), .bool true]
structure TakeI (n : Nat) (s : List UInt8) (j : Nat) (p q : List UInt8) : Prop where
  eq : s = p ++ q
  t : takeL n s = (takeL (n - j) q).map fun x => (p ++ x.1, x.2)
theorem TakeI.nil (n : Nat) (s : List UInt8) : TakeI n s 0 [] s := ⟨rfl, by
  cases h : takeL (n - 0) s with
  | none => rfl
  | some x => rfl⟩
theorem TakeI.miss {n : Nat} {s : List UInt8} {j : Nat} {p q : List UInt8} (h : TakeI n s j p q) (hj : j < n) (hc : cutL q = none) : takeL n s = none := by
  rw [h.t, show n - j = (n - j - 1) + 1 by omega, takeL, hc]; rfl
theorem TakeI.hit {n : Nat} {s : List UInt8} {j : Nat} {p q a r : List UInt8} (h : TakeI n s j p q) (hj : j < n) (hc : cutL q = some (a, r)) : TakeI n s (j + 1) (p ++ a ++ [10]) r := by
  refine ⟨by rw [h.eq, (cutL_some hc).1]; simp, ?_⟩
  rw [h.t, show n - j = (n - (j + 1)) + 1 by omega, takeL, hc]
  dsimp only
  cases takeL (n - (j + 1)) r with
  | none => rfl
  | some x => simp
theorem TakeI.end_ {n : Nat} {s : List UInt8} {p q : List UInt8} (h : TakeI n s n p q) : takeL n s = some (p, q) := by
  rw [h.t, Nat.sub_self, takeL]; simp

set_option maxRecDepth 100000 in
set_option maxHeartbeats 1000000 in
theorem take_any (s : List UInt8) (n : Nat) (w : World) (hs : s.length ≤ 4294967280) (hn : n ≤ 9223372036854775807) :
    Calls Tryd.prog 48 #[.string (bs s), .int .i64 n] w fun e w' => e = .returned (takeV (takeL n s)) ∧ Below w.heap.size w w' := by
  go_enter Tryd.func48, Tryd.ntmps48
  go_wp2_with fail
  go_loopw [7, 10] (fun x i wr => ∃ (j : Nat) (p q : List UInt8), j ≤ n ∧ i = .int .i64 j ∧ x = .int .i64 p.length ∧ Hid (TakeI n s j p q) ∧ Hid (Below w.heap.size w wr)) (fun _ i _ => n - (intOf i).toNat)
  case atStart => exact ⟨0, [], s, by omega, rfl, rfl, .nil n s, Below.refl _ _⟩
  case round =>
    obtain ⟨j, p, q, hj, rfl, rfl, hI, hb⟩ := hrel
    have hse := hI.out.eq
    have hle : p.length + q.length = s.length := by rw [hse]; simp
    have hz := bs_size s
    have r1 : (0 : Int) ≤ p.length := by omega
    have r2 : (p.length : Int) ≤ (bs s).size := by omega
    have HX := Lib.hid (show (bs s).extract p.length s.length = bs q by rw [bs_ext, hse]; congr 1; simp)
    have HX0 := Lib.hid (show (bs s).extract 0 p.length = bs p by rw [bs_ext, hse]; congr 1; simp)
    clear hse
    by_cases hjn : j < n
    · have HIB := Lib.hid (Tryd.strings_IndexByte (bs q) 10 wr)
      rw [data_bs] at HIB
      go_wp2_with fail
      rw [HX.out]
      refine HIB.out.mono ?_
      rintro e w' ⟨rfl, rfl⟩
      cases hc : cutL q with
      | none =>
        have HR := Lib.hid (hI.out.miss hjn hc)
        rw [show (10 : Int).toNat.toUInt8 = 10 from rfl, idx_cut_none hc]
        clear hc
        go_wp2_with fail
        exact bodyPost_ret (v := takeV none) (by simp [results, Tryd.results48, takeV]) rfl ⟨by rw [HR.out], hb.out⟩
      | some x =>
        obtain ⟨a, r⟩ := x
        have HN := Lib.hid (hI.out.hit hjn hc)
        have hal : a.length + 1 + r.length = q.length := by rw [(cutL_some hc).1]; simp; omega
        rw [show (10 : Int).toNat.toUInt8 = 10 from rfl, idx_cut_some hc]
        clear hc hI HX HX0 HIB
        go_wp2_with fail
        exact ⟨⟨j + 1, p ++ a ++ [10], r, by omega, by go_num, by rw [List.length_append, List.length_append]; simp; omega, HN, hb⟩, by simp [intOf]; omega⟩
    · obtain rfl : j = n := by omega
      have HR := Lib.hid hI.out.end_
      go_upto_region 9 with fail
      have hbd := Lib.hid (belowDrawn hb.out)
      go_region
      all_goals
        go_wp2_with fail
        rw [HX.out, HX0.out]
        exact bodyPost_ret (v := takeV (some (p, q))) (by simp [results, Tryd.results48, takeV]) rfl ⟨by rw [HR.out], hbd.out⟩

end Go.Proofs.YtklljdjeobifiaaDoor
