/-
  Functions that walk an expression: contracts of the reference's Depth and Size, the law's big.
-/
import Derived.Test.YtafjkmhphakhhaaFunTree2
namespace Go.Proofs.Ytafjkmhphakhhaa
open Go.ChangeShapes Go.WideShapes Go.ChangeAt Go.RowKit Go.Sort

set_option maxRecDepth 100000 in
set_option maxHeartbeats 1000000 in
theorem rdepth_any (n : Nat) : ∀ (x : Nd), SizeOf.sizeOf x ≤ n → NdFit x → sizeT x ≤ 4611686018427387904 → ∀ (A : Option Addr) (cap : Nat) (w : World), NdsAt w A x.kids →
    Calls Try.prog 44 #[.agg #[.int .u8 x.kind, .int .i64 x.num, .string x.name, .slice A x.kids.length cap]] w fun e w' => e = .returned (.int .i64 (depT x)) ∧ Below w.heap.size w w' := by
  induction n with
  | zero => intro x hx; exfalso; cases x; simp at hx
  | succ n ih =>
    intro x hx hfit hS A cap w hK
    obtain ⟨hf1, hf2, hf3, hf4⟩ := hfit.facts
    have hbW := below_box w (Obj.cells #[.int .u8 x.kind, .int .i64 x.num, .string x.name, .slice A x.kids.length cap] 32)
    have bx := ndB_box w 32 x A cap hK
    have hse := sizeT_eq x
    have HDE := Lib.hid (depT_eq x)
    have hsl : sizeTL x.kids ≤ 4611686018427387903 := by omega
    clear hK hse
    go_enter Try.func44, Try.ntmps44
    go_wp2_with fail
    generalize w.alloc _ = W at hbW bx ⊢
    go_loopw [3, 4] (fun d i wr => ∃ k : Nat, k ≤ x.kids.length ∧ i = .int .i64 k ∧ d = .int .i64 (depTL (x.kids.take k)) ∧ Below W.heap.size W wr) (fun _ i _ => x.kids.length - (intOf i).toNat)
    case atStart => exact ⟨0, by omega, rfl, by simp [depTL], Below.refl _ _⟩
    case round =>
      obtain ⟨k, hk, rfl, rfl, hb⟩ := hrel
      obtain ⟨b0, b1, b2, b3, bk⟩ := bx.mono hb
      by_cases hin : k < x.kids.length
      · have hz1 := sizeTL_step hin
        have hz2 := depTL_step hin
        have hle := sizeTL_le (l := x.kids) (k + 1)
        have hdl := depTL_le (x.kids.take k)
        obtain ⟨b, o, A', cap', rfl, hlt, c0, c1, c2, c3, hK'⟩ := bk.kid hin
        have hget : x.kids[k]? = some x.kids[k] := List.getElem?_eq_getElem hin
        have hfy := hfit.kid hget
        have hsz := Nd.kid_lt hget
        generalize x.kids[k] = y at *
        have hdy := depT_le y
        have HZ2 := Lib.hid hz2
        have hb1 : sizeTL (x.kids.take k) + sizeT y ≤ 4611686018427387903 := by omega
        clear hget hz1 hz2 hle bk
        go_wp2_with fail
        refine (ih y (by omega) hfy (by omega) A' cap' _ hK').mono ?_
        rintro e w3 ⟨rfl, hb3⟩
        have q3 := below_step hb hb.size hb3
        have hd0 : depTL (x.kids.take k) ≤ 4611686018427387903 := by omega
        have hd1 : depT y ≤ 4611686018427387903 := by omega
        generalize depTL (x.kids.take k) = d0 at *
        generalize depT y = d1 at *
        go_wp2_with fail
        all_goals exact ⟨⟨k + 1, by omega, by go_num, by rw [HZ2.out]; congr 1; omega, q3⟩, by simp [intOf]; omega⟩
      · obtain rfl : k = x.kids.length := by omega
        rw [List.take_length]
        have hdl := depTL_le x.kids
        have q := below_step hbW hbW.size hb
        clear bk
        go_wp2_with fail
        go_ret
        refine ⟨?_, q⟩
        have e2 : ((depTL x.kids : Nat) : Int) + 1 = ((1 + depTL x.kids : Nat) : Int) := by omega
        rw [HDE.out, e2]
        rfl

set_option maxRecDepth 100000 in
set_option maxHeartbeats 1000000 in
theorem rsize_any (n : Nat) : ∀ (x : Nd), SizeOf.sizeOf x ≤ n → NdFit x → sizeT x ≤ 4611686018427387904 → ∀ (A : Option Addr) (cap : Nat) (w : World), NdsAt w A x.kids →
    Calls Try.prog 45 #[.agg #[.int .u8 x.kind, .int .i64 x.num, .string x.name, .slice A x.kids.length cap]] w fun e w' => e = .returned (.int .i64 (sizeT x)) ∧ Below w.heap.size w w' := by
  induction n with
  | zero => intro x hx; exfalso; cases x; simp at hx
  | succ n ih =>
    intro x hx hfit hS A cap w hK
    obtain ⟨hf1, hf2, hf3, hf4⟩ := hfit.facts
    have hbW := below_box w (Obj.cells #[.int .u8 x.kind, .int .i64 x.num, .string x.name, .slice A x.kids.length cap] 32)
    have bx := ndB_box w 32 x A cap hK
    have hse := sizeT_eq x
    have HSE := Lib.hid hse
    have hsl : sizeTL x.kids ≤ 4611686018427387903 := by omega
    clear hK hse
    go_enter Try.func45, Try.ntmps45
    go_wp2_with fail
    generalize w.alloc _ = W at hbW bx ⊢
    go_loopw [3, 4] (fun d i wr => ∃ k : Nat, k ≤ x.kids.length ∧ i = .int .i64 k ∧ d = .int .i64 ((1 + sizeTL (x.kids.take k) : Nat) : Int) ∧ Below W.heap.size W wr) (fun _ i _ => x.kids.length - (intOf i).toNat)
    case atStart => exact ⟨0, by omega, rfl, by simp [sizeTL], Below.refl _ _⟩
    case round =>
      obtain ⟨k, hk, rfl, rfl, hb⟩ := hrel
      obtain ⟨b0, b1, b2, b3, bk⟩ := bx.mono hb
      by_cases hin : k < x.kids.length
      · have hz1 := sizeTL_step hin
        have hle := sizeTL_le (l := x.kids) (k + 1)
        obtain ⟨b, o, A', cap', rfl, hlt, c0, c1, c2, c3, hK'⟩ := bk.kid hin
        have hget : x.kids[k]? = some x.kids[k] := List.getElem?_eq_getElem hin
        have hfy := hfit.kid hget
        have hsz := Nd.kid_lt hget
        generalize x.kids[k] = y at *
        have HZ1 := Lib.hid hz1
        have hb1 : sizeTL (x.kids.take k) + sizeT y ≤ 4611686018427387903 := by omega
        clear hget hz1 hle bk
        go_wp2_with fail
        refine (ih y (by omega) hfy (by omega) A' cap' _ hK').mono ?_
        rintro e w3 ⟨rfl, hb3⟩
        have q3 := below_step hb hb.size hb3
        generalize sizeTL (x.kids.take k) = d0 at *
        generalize sizeT y = d1 at *
        go_wp2_with fail
        all_goals exact ⟨⟨k + 1, by omega, by go_num, by rw [HZ1.out]; congr 1; omega, q3⟩, by simp [intOf]; omega⟩
      · obtain rfl : k = x.kids.length := by omega
        rw [List.take_length]
        have q := below_step hbW hbW.size hb
        clear bk
        go_wp2_with fail
        go_ret
        refine ⟨?_, q⟩
        rw [HSE.out]
        rfl

/-! ### The law's own count -/

def bigL (f : Nd → Int) : List Nd → Int → Int
  | [], s => s
  | y :: r, s => if f y < 0 ∨ 1000 < s then -1 else bigL f r (s + f y)
def bigD : Nat → Nd → Int
  | 0, _ => -1
  | d + 1, x => bigL (bigD d) x.kids 1
theorem bigL_ge {f : Nd → Int} : ∀ (l : List Nd) (s : Int), 0 ≤ s → -1 ≤ bigL f l s
  | [], s, h => by simp [bigL]; omega
  | y :: r, s, h => by
    unfold bigL
    split
    · omega
    · exact bigL_ge r _ (by omega)
theorem bigL_le {f : Nd → Int} {B : Int} (hB : 0 ≤ B) (hf : ∀ y, f y ≤ B) : ∀ (l : List Nd) (s : Int), s ≤ 1000 + B → bigL f l s ≤ 1000 + B
  | [], s, h => by simp [bigL]; omega
  | y :: r, s, h => by
    unfold bigL
    split
    · omega
    · have := hf y
      exact bigL_le hB hf r _ (by omega)
theorem bigD_le : ∀ (d : Nat) (x : Nd), bigD d x ≤ 1000 * d
  | 0, x => by simp [bigD]
  | d + 1, x => by
    have := bigL_le (f := bigD d) (B := 1000 * d) (by omega) (bigD_le d) x.kids 1 (by omega)
    unfold bigD; omega
theorem bigD_ge (d : Nat) (x : Nd) : -1 ≤ bigD d x := by
  cases d with
  | zero => simp [bigD]
  | succ d => unfold bigD; exact bigL_ge _ _ (by omega)
theorem bigL_step {f : Nd → Int} {l : List Nd} {k : Nat} (h : k < l.length) (s : Int) : bigL f (l.drop k) s = if f l[k] < 0 ∨ 1000 < s then -1 else bigL f (l.drop (k + 1)) (s + f l[k]) := by
  rw [List.drop_eq_getElem_cons h]; rfl

set_option maxRecDepth 100000 in
set_option maxHeartbeats 1000000 in
theorem big_any (d : Nat) : ∀ (x : Nd), d ≤ 1000 → NdFit x → ∀ (A : Option Addr) (cap : Nat) (w : World), NdsAt w A x.kids →
    Calls Try.prog 15 #[.agg #[.int .u8 x.kind, .int .i64 x.num, .string x.name, .slice A x.kids.length cap], .int .i64 d] w fun e w' => e = .returned (.int .i64 (bigD d x)) ∧ Below w.heap.size w w' := by
  induction d with
  | zero =>
    intro x hd hfit A cap w hK
    have hbW := below_box w (Obj.cells #[.int .u8 x.kind, .int .i64 x.num, .string x.name, .slice A x.kids.length cap] 32)
    clear hK
    go_enter Try.func15, Try.ntmps15
    go_wp2_with fail
    go_ret
    exact ⟨rfl, hbW⟩
  | succ d ih =>
    intro x hd hfit A cap w hK
    obtain ⟨hf1, hf2, hf3, hf4⟩ := hfit.facts
    have hbW := below_box w (Obj.cells #[.int .u8 x.kind, .int .i64 x.num, .string x.name, .slice A x.kids.length cap] 32)
    have bx := ndB_box w 32 x A cap hK
    have HB := Lib.hid (show bigD (d + 1) x = bigL (bigD d) (x.kids.drop 0) 1 by rw [List.drop_zero]; rfl)
    clear hK
    obtain ⟨D, hD⟩ : ∃ D : Int, D = ((d + 1 : Nat) : Int) := ⟨_, rfl⟩
    rw [← hD]
    have hD1 : 1 ≤ D := by omega
    have hD2 : D ≤ 1000 := by omega
    have HD := Lib.hid (show D - 1 = (d : Int) by omega)
    clear hD
    go_enter Try.func15, Try.ntmps15
    go_wp2_with fail
    generalize w.alloc _ = W at hbW bx ⊢
    go_loopw [5, 6] (fun s i wr => ∃ (k : Nat) (t : Int), k ≤ x.kids.length ∧ i = .int .i64 k ∧ s = .int .i64 t ∧ 0 ≤ t ∧ t ≤ 2000000 ∧ Hid (bigD (d + 1) x = bigL (bigD d) (x.kids.drop k) t) ∧ Below W.heap.size W wr) (fun _ i _ => x.kids.length - (intOf i).toNat)
    case atStart => exact ⟨0, 1, by omega, rfl, rfl, by omega, by omega, HB, Below.refl _ _⟩
    case round =>
      obtain ⟨k, t, hk, rfl, rfl, ht0, ht1, hz, hb⟩ := hrel
      obtain ⟨b0, b1, b2, b3, bk⟩ := bx.mono hb
      by_cases hin : k < x.kids.length
      · have hz1 := Lib.hid (hz.out.trans (bigL_step hin t))
        obtain ⟨b, o, A', cap', rfl, hlt, c0, c1, c2, c3, hK'⟩ := bk.kid hin
        have hget : x.kids[k]? = some x.kids[k] := List.getElem?_eq_getElem hin
        have hfy := hfit.kid hget
        generalize x.kids[k] = y at *
        have hby := bigD_le d y
        have hgy := bigD_ge d y
        clear hget bk hz
        go_wp2_with fail
        rw [HD.out]
        refine (ih y (by omega) hfy A' cap' _ hK').mono ?_
        rintro e w3 ⟨rfl, hb3⟩
        have q3 := below_step hb hb.size hb3
        generalize bigD d y = v at *
        by_cases hv : v < 0
        · have hN := Lib.hid (hz1.out.trans (if_pos (.inl hv)))
          go_wp2_with fail
          go_ret
          exact ⟨ret_i64 hN.out.symm, below_step hbW hbW.size q3⟩
        · by_cases h1000 : 1000 < t
          · have hN := Lib.hid (hz1.out.trans (if_pos (.inr h1000)))
            go_wp2_with fail
            go_ret
            exact ⟨ret_i64 hN.out.symm, below_step hbW hbW.size q3⟩
          · have hN := Lib.hid (hz1.out.trans (if_neg (by omega)))
            go_wp2_with fail
            exact ⟨⟨k + 1, t + v, by omega, by go_num, by go_num, by omega, by omega, hN, q3⟩, by simp [intOf]; omega⟩
      · have hN := Lib.hid (show bigD (d + 1) x = t by rw [hz.out, List.drop_of_length_le (by omega)]; rfl)
        have q := below_step hbW hbW.size hb
        clear bk
        go_wp2_with fail
        go_ret
        exact ⟨ret_i64 hN.out.symm, q⟩

end Go.Proofs.Ytafjkmhphakhhaa
