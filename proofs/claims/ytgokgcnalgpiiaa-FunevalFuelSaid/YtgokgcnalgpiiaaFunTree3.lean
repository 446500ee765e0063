/-
  Functions that walk an expression: contracts of the reference's Depth and Size, the law's big.
-/
import Derived.Test.YtgokgcnalgpiiaaFunTree2
namespace Go.Proofs.Ytgokgcnalgpiiaa
open Go.ChangeShapes Go.WideShapes Go.ChangeAt Go.RowKit Go.Sort

set_option maxRecDepth 100000 in
set_option maxHeartbeats 1000000 in
theorem rdepth_any (n : Nat) : ∀ (x : Nd), SizeOf.sizeOf x ≤ n → NdFit x → sizeT x ≤ 4611686018427387904 → ∀ (A : Option Addr) (cap : Nat) (w : World), NdsAt w A x.kids →
    Calls Try.prog 46 #[.agg #[.int .u8 x.kind, .int .i64 x.num, .string x.name, .slice A x.kids.length cap]] w fun e w' => e = .returned (.int .i64 (depT x)) ∧ Below w.heap.size w w' := by
  induction n with
  | zero => intro x hx; exfalso; cases x; simp at hx
  | succ n ih =>
    intro x hx hfit hS A cap w hK
    obtain ⟨hf1, hf2, hf3, hf4⟩ := hfit.facts
    have hbW := below_box w (Obj.cells #[.int .u8 x.kind, .int .i64 x.num, .string x.name, .slice A x.kids.length cap] 56)
    have bx := ndB_box w 56 x A cap hK
    have hse := sizeT_eq x
    have HDE := Lib.hid (depT_eq x)
    have hsl : sizeTL x.kids ≤ 4611686018427387903 := by omega
    clear hK hse
    go_enter Try.func46, Try.ntmps46
    go_wp2_with fail
    generalize w.alloc _ = W at hbW bx ⊢
    go_loopw [3, 4] (fun d i wr => ∃ k : Nat, k ≤ x.kids.length ∧ i = .int .i64 k ∧ d = .int .i64 (depTL (x.kids.take k)) ∧ Below W.heap.size W wr) (fun _ i _ => x.kids.length - (intOf i).toNat)
    case atStart => exact ⟨0, by omega, rfl, by simp [depTL], Below.refl _ _⟩
    case round =>
      obtain ⟨k, hk, rfl, rfl, hb⟩ := hrel
      obtain ⟨b0, b1, b2, b3, bk⟩ := bx.mono hb
      by_cases hin : k < x.kids.length
      · have hz1 := sizeTL_step hin
        have hz2 := depTL_step hin
        have hle := sizeTL_le (l := x.kids) (k + 1)
        have hdl := depTL_le (x.kids.take k)
        obtain ⟨b, o, A', cap', rfl, hlt, c0, c1, c2, c3, hK'⟩ := bk.kid hin
        have hget : x.kids[k]? = some x.kids[k] := List.getElem?_eq_getElem hin
        have hfy := hfit.kid hget
        have hsz := Nd.kid_lt hget
        generalize x.kids[k] = y at *
        have hdy := depT_le y
        have HZ2 := Lib.hid hz2
        have hb1 : sizeTL (x.kids.take k) + sizeT y ≤ 4611686018427387903 := by omega
        clear hget hz1 hz2 hle bk
        go_wp2_with fail
        refine (ih y (by omega) hfy (by omega) A' cap' _ hK').mono ?_
        rintro e w3 ⟨rfl, hb3⟩
        have q3 := below_step hb hb.size hb3
        have hd0 : depTL (x.kids.take k) ≤ 4611686018427387903 := by omega
        have hd1 : depT y ≤ 4611686018427387903 := by omega
        generalize depTL (x.kids.take k) = d0 at *
        generalize depT y = d1 at *
        go_wp2_with fail
        all_goals exact ⟨⟨k + 1, by omega, by go_num, by rw [HZ2.out]; congr 1; omega, q3⟩, by simp [intOf]; omega⟩
      · obtain rfl : k = x.kids.length := by omega
        rw [List.take_length]
        have hdl := depTL_le x.kids
        have q := below_step hbW hbW.size hb
        clear bk
        go_wp2_with fail
        go_ret
        refine ⟨?_, q⟩
        have e2 : ((depTL x.kids : Nat) : Int) + 1 = ((1 + depTL x.kids : Nat) : Int) := by omega
        rw [HDE.out, e2]
        rfl

set_option maxRecDepth 100000 in
set_option maxHeartbeats 1000000 in
theorem rsize_any (n : Nat) : ∀ (x : Nd), SizeOf.sizeOf x ≤ n → NdFit x → sizeT x ≤ 4611686018427387904 → ∀ (A : Option Addr) (cap : Nat) (w : World), NdsAt w A x.kids →
    Calls Try.prog 47 #[.agg #[.int .u8 x.kind, .int .i64 x.num, .string x.name, .slice A x.kids.length cap]] w fun e w' => e = .returned (.int .i64 (sizeT x)) ∧ Below w.heap.size w w' := by
  induction n with
  | zero => intro x hx; exfalso; cases x; simp at hx
  | succ n ih =>
    intro x hx hfit hS A cap w hK
    obtain ⟨hf1, hf2, hf3, hf4⟩ := hfit.facts
    have hbW := below_box w (Obj.cells #[.int .u8 x.kind, .int .i64 x.num, .string x.name, .slice A x.kids.length cap] 56)
    have bx := ndB_box w 56 x A cap hK
    have hse := sizeT_eq x
    have HSE := Lib.hid hse
    have hsl : sizeTL x.kids ≤ 4611686018427387903 := by omega
    clear hK hse
    go_enter Try.func47, Try.ntmps47
    go_wp2_with fail
    generalize w.alloc _ = W at hbW bx ⊢
    go_loopw [3, 4] (fun d i wr => ∃ k : Nat, k ≤ x.kids.length ∧ i = .int .i64 k ∧ d = .int .i64 ((1 + sizeTL (x.kids.take k) : Nat) : Int) ∧ Below W.heap.size W wr) (fun _ i _ => x.kids.length - (intOf i).toNat)
    case atStart => exact ⟨0, by omega, rfl, by simp [sizeTL], Below.refl _ _⟩
    case round =>
      obtain ⟨k, hk, rfl, rfl, hb⟩ := hrel
      obtain ⟨b0, b1, b2, b3, bk⟩ := bx.mono hb
      by_cases hin : k < x.kids.length
      · have hz1 := sizeTL_step hin
        have hle := sizeTL_le (l := x.kids) (k + 1)
        obtain ⟨b, o, A', cap', rfl, hlt, c0, c1, c2, c3, hK'⟩ := bk.kid hin
        have hget : x.kids[k]? = some x.kids[k] := List.getElem?_eq_getElem hin
        have hfy := hfit.kid hget
        have hsz := Nd.kid_lt hget
        generalize x.kids[k] = y at *
        have HZ1 := Lib.hid hz1
        have hb1 : sizeTL (x.kids.take k) + sizeT y ≤ 4611686018427387903 := by omega
        clear hget hz1 hle bk
        go_wp2_with fail
        refine (ih y (by omega) hfy (by omega) A' cap' _ hK').mono ?_
        rintro e w3 ⟨rfl, hb3⟩
        have q3 := below_step hb hb.size hb3
        generalize sizeTL (x.kids.take k) = d0 at *
        generalize sizeT y = d1 at *
        go_wp2_with fail
        all_goals exact ⟨⟨k + 1, by omega, by go_num, by rw [HZ1.out]; congr 1; omega, q3⟩, by simp [intOf]; omega⟩
      · obtain rfl : k = x.kids.length := by omega
        rw [List.take_length]
        have q := below_step hbW hbW.size hb
        clear bk
        go_wp2_with fail
        go_ret
        refine ⟨?_, q⟩
        rw [HSE.out]
        rfl

end Go.Proofs.Ytgokgcnalgpiiaa
