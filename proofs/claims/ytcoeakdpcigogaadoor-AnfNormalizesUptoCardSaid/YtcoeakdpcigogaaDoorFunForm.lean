/-
  The form of one node: contracts of fun.form and of the reference's kids and node.
  The form of one node, as the reference tests it.
  Functions that walk an expression: plain functions, and contracts of fun.formed and the reference's Form.
  Functions that walk an expression: contracts of the reference's Form, fun.measure, the reference's Depth and Size, the law's big and let.
  Functions that walk an expression: contracts of the reference's Depth and Size, the law's big.
-/
import Derived.Test.YtcoeakdpcigogaaDoorFunName
namespace Go.Proofs.YtcoeakdpcigogaaDoor
open Go.ChangeShapes Go.WideShapes Go.ChangeAt Go.RowKit Go.Sort

/-- The node's fields, and the number of its children, are those of its kind. -/
def formB (kind : Nat) (num : Int) (name : ByteArray) (n : Nat) : Bool :=
  if kind = 80 then decide (0 ≤ num) && name.toList.isEmpty && ((n : Int) == 0)
  else if kind = 81 then num == 0 && ((n : Int) == 0)
  else if kind = 82 then decide (8 ≤ num) && decide (num ≤ 23) && name.toList.isEmpty && ((n : Int) == 2)
  else if kind = 84 then num == 0 && nameB name && ((n : Int) == 2)
  else if kind = 85 then num == 0
  else num == 0 && name.toList.isEmpty && (if kind = 86 then ((n : Int) == 0) else if kind = 88 ∨ kind = 89 ∨ kind = 90 then ((n : Int) == 1) else if kind = 87 then ((n : Int) == 2) else if kind = 83 then ((n : Int) == 3) else false)

theorem kind_cases (k : Nat) : k = 80 ∨ k = 81 ∨ k = 82 ∨ k = 83 ∨ k = 84 ∨ k = 85 ∨ k = 86 ∨ k = 87 ∨ k = 88 ∨ k = 89 ∨ k = 90 ∨ (k < 80 ∨ 90 < k) := by omega
theorem beqK {k n : Nat} (h : k ≠ n) : ((k : Int) == (n : Int)) = false := beq_eq_false_iff_ne.2 (by omega)

set_option maxRecDepth 100000 in
set_option maxHeartbeats 2000000 in
theorem form_any (kind : Nat) (num : Int) (name : ByteArray) (n : Nat) (A : Option Addr) (cap : Nat) (w : World) (hs : name.size ≤ 9223372036854775807) (_hl : n ≤ 9223372036854775807) :
    Calls Tryd.prog 64 #[.agg #[.int .u8 kind, .int .i64 num, .string name, .slice A n cap]] w fun e w' => e = .returned (.bool (formB kind num name n)) ∧ Below w.heap.size w w' := by
  rcases kind_cases kind with rfl | rfl | rfl | rfl | rfl | rfl | rfl | rfl | rfl | rfl | rfl | hk
  case inr.inr.inr.inr.inl =>
    have hbW := below_box w (Obj.cells #[.int .u8 (84 : Nat), .int .i64 num, .string name, .slice A n cap] 53)
    by_cases h0 : num = 0
    · have hN := Lib.hid (show formB 84 num name n = (nameB name && ((n : Int) == 2)) by simp [formB, h0])
      subst h0
      go_enter Tryd.func64, Tryd.ntmps64
      go_wp2_with fail
      generalize w.alloc _ = W at hbW ⊢
      refine (isName_any name _ hs).mono ?_
      rintro e w' ⟨rfl, hb'⟩
      cases hnm : nameB name
      all_goals
        rw [hnm] at hN
        go_wp2_with fail
        go_ret
        exact ⟨ret_bool (by rw [hN.out]; simp), below_step hbW hbW.size hb'⟩
    · have hN := Lib.hid (show formB 84 num name n = false by simp [formB, h0])
      have h0' : (num == 0) = false := beq_eq_false_iff_ne.2 h0
      clear h0
      go_enter Tryd.func64, Tryd.ntmps64
      go_wp2_with fail
      go_ret
      exact ⟨ret_bool hN.out.symm, hbW⟩
  case inr.inr.inr.inr.inr.inr.inr.inr.inr.inr.inr =>
    have k0 : ((kind : Int) == 80) = false := beqK (n := 80) (by omega)
    have k1 : ((kind : Int) == 81) = false := beqK (n := 81) (by omega)
    have k2 : ((kind : Int) == 82) = false := beqK (n := 82) (by omega)
    have k3 : ((kind : Int) == 83) = false := beqK (n := 83) (by omega)
    have k4 : ((kind : Int) == 84) = false := beqK (n := 84) (by omega)
    have k5 : ((kind : Int) == 85) = false := beqK (n := 85) (by omega)
    have k6 : ((kind : Int) == 86) = false := beqK (n := 86) (by omega)
    have k7 : ((kind : Int) == 87) = false := beqK (n := 87) (by omega)
    have k8 : ((kind : Int) == 88) = false := beqK (n := 88) (by omega)
    have k9 : ((kind : Int) == 89) = false := beqK (n := 89) (by omega)
    have k10 : ((kind : Int) == 90) = false := beqK (n := 90) (by omega)
    have hN := Lib.hid (show formB kind num name n = false by
      unfold formB
      rw [if_neg (by omega), if_neg (by omega), if_neg (by omega), if_neg (by omega), if_neg (by omega), if_neg (by omega), if_neg (by omega), if_neg (by omega), if_neg (by omega)]
      simp)
    have hbW := below_box w (Obj.cells #[.int .u8 kind, .int .i64 num, .string name, .slice A n cap] 53)
    clear hk
    go_enter Tryd.func64, Tryd.ntmps64
    go_wp2_with fail
    all_goals go_ret
    all_goals exact ⟨ret_bool hN.out.symm, below_box _ _⟩
  all_goals
    go_enter Tryd.func64, Tryd.ntmps64
    go_wp2_with fail
    all_goals go_ret
    all_goals refine ⟨ret_bool ?_, below_box _ _⟩
    all_goals first
      | (simp [formB, *]; done)
      | (simp_all [formB]; done)
      | grind [formB]

end Go.Proofs.YtcoeakdpcigogaaDoor

namespace Go.Proofs.YtcoeakdpcigogaaDoor
open Go.ChangeShapes Go.WideShapes Go.ChangeAt Go.RowKit Go.Sort

def kidsN (kind : Nat) : Int :=
  if kind = 80 ∨ kind = 81 ∨ kind = 86 then 0 else if kind = 88 ∨ kind = 89 ∨ kind = 90 then 1 else if kind = 82 ∨ kind = 84 ∨ kind = 87 then 2 else if kind = 83 then 3 else if kind = 85 then -1 else -2

end Go.Proofs.YtcoeakdpcigogaaDoor

namespace Go.Proofs.YtcoeakdpcigogaaDoor
open Go.ChangeShapes Go.WideShapes Go.ChangeAt Go.RowKit Go.Sort

mutual
def formT : Nd → Bool
  | .mk k n s l => formB k n s l.length && formTL l
def formTL : List Nd → Bool
  | [] => true
  | x :: r => formT x && formTL r
end
mutual
def sizeT : Nd → Nat
  | .mk _ _ _ l => 1 + sizeTL l
def sizeTL : List Nd → Nat
  | [] => 0
  | x :: r => sizeT x + sizeTL r
end
mutual
def depT : Nd → Nat
  | .mk _ _ _ l => 1 + depTL l
def depTL : List Nd → Nat
  | [] => 0
  | x :: r => max (depT x) (depTL r)
end
theorem formT_eq (x : Nd) : formT x = (formB x.kind x.num x.name x.kids.length && formTL x.kids) := by cases x; rw [formT]; rfl
theorem sizeT_eq (x : Nd) : sizeT x = 1 + sizeTL x.kids := by cases x; rw [sizeT]; rfl
theorem depT_eq (x : Nd) : depT x = 1 + depTL x.kids := by cases x; rw [depT]; rfl
theorem formTL_drop {l : List Nd} {k : Nat} (h : k < l.length) : formTL (l.drop k) = (formT l[k] && formTL (l.drop (k + 1))) := by
  rw [List.drop_eq_getElem_cons h, formTL]

/-- An expression in a box of its own. -/
structure NdB (w : World) (b : Nat) (x : Nd) (A : Option Addr) (cap : Nat) : Prop where
  b0 : w.cell? ⟨b, 0, none⟩ = some (.int .u8 x.kind)
  b1 : w.cell? ⟨b, 1, none⟩ = some (.int .i64 x.num)
  b2 : w.cell? ⟨b, 2, none⟩ = some (.string x.name)
  b3 : w.cell? ⟨b, 3, none⟩ = some (.slice A x.kids.length cap)
  kids : NdsAt w A x.kids
theorem NdB.mono {w w' : World} {b : Nat} {x : Nd} {A : Option Addr} {cap : Nat} (h : NdB w b x A cap) (hb : Below w.heap.size w w') : NdB w' b x A cap :=
  ⟨below_cell hb h.b0, below_cell hb h.b1, below_cell hb h.b2, below_cell hb h.b3, h.kids.mono hb⟩
theorem NdB.lt {w : World} {b : Nat} {x : Nd} {A : Option Addr} {cap : Nat} (h : NdB w b x A cap) : b < w.heap.size := block_lt_of_cell h.b0
theorem ndB_box (w : World) (T : TypeId) (x : Nd) (A : Option Addr) (cap : Nat) (h : NdsAt w A x.kids) : NdB (w.alloc (Obj.cells #[.int .u8 x.kind, .int .i64 x.num, .string x.name, .slice A x.kids.length cap] T)) w.heap.size x A cap := by
  refine ⟨?_, ?_, ?_, ?_, h.mono (below_box _ _)⟩ <;> simp [go_sem]
/-- A kid, opened. -/
theorem NdsAt.kid {w : World} {A : Option Addr} {l : List Nd} (h : NdsAt w A l) {k : Nat} (hk : k < l.length) : ∃ b o A' cap', A = some ⟨b, o, none⟩ ∧ b < w.heap.size ∧ w.cell? ⟨b, o + k * 4, none⟩ = some (.int .u8 l[k].kind) ∧ w.cell? ⟨b, o + k * 4 + 1, none⟩ = some (.int .i64 l[k].num) ∧ w.cell? ⟨b, o + k * 4 + 2, none⟩ = some (.string l[k].name) ∧ w.cell? ⟨b, o + k * 4 + 3, none⟩ = some (.slice A' l[k].kids.length cap') ∧ NdsAt w A' l[k].kids := by
  obtain ⟨b, o, e, hn⟩ := h.at_ hk
  obtain ⟨A', cap', h0, h1, h2, h3, h4⟩ := hn.open_
  exact ⟨b, o, A', cap', e, hn.lt, h0, h1, h2, h3, h4⟩

set_option maxRecDepth 100000 in
set_option maxHeartbeats 1000000 in
theorem formed_any (n : Nat) : ∀ (x : Nd), SizeOf.sizeOf x ≤ n → NdFit x → ∀ (A : Option Addr) (cap : Nat) (w : World), NdsAt w A x.kids →
    Calls Tryd.prog 48 #[.agg #[.int .u8 x.kind, .int .i64 x.num, .string x.name, .slice A x.kids.length cap]] w fun e w' => e = .returned (.bool (formT x)) ∧ Below w.heap.size w w' := by
  induction n with
  | zero => intro x hx; exfalso; cases x; simp at hx
  | succ n ih =>
    intro x hx hfit A cap w hK
    obtain ⟨hf1, hf2, hf3, hf4⟩ := hfit.facts
    have hbW := below_box w (Obj.cells #[.int .u8 x.kind, .int .i64 x.num, .string x.name, .slice A x.kids.length cap] 53)
    have bx := ndB_box w 53 x A cap hK
    have HFE := Lib.hid (formT_eq x)
    clear hK
    go_enter Tryd.func48, Tryd.ntmps48
    go_wp2_with fail
    generalize w.alloc _ = W at hbW bx ⊢
    refine (form_any x.kind x.num x.name x.kids.length A cap _ hf3 hf4).mono ?_
    rintro e w1 ⟨rfl, hb1⟩
    have bx1 := bx.mono hb1
    have q1 := below_step hbW hbW.size hb1
    clear bx hbW hb1
    obtain ⟨b0, b1, b2, b3, bk⟩ := id bx1
    cases hfb : formB x.kind x.num x.name x.kids.length with
    | false =>
      rw [hfb] at HFE
      go_wp2_with fail
      go_ret
      exact ⟨ret_bool (by rw [HFE.out]; rfl), q1⟩
    | true =>
      rw [hfb, Bool.true_and] at HFE
      clear bk
      go_wp2_with fail
      clear b0 b1 b2 b3
      go_loopw [11] (fun i wr => ∃ k : Nat, k ≤ x.kids.length ∧ i = .int .i64 k ∧ Hid (formTL x.kids = formTL (x.kids.drop k)) ∧ Below w1.heap.size w1 wr) (fun i _ => x.kids.length - (intOf i).toNat)
      case atStart => exact ⟨0, by omega, rfl, rfl, Below.refl _ _⟩
      case round =>
        obtain ⟨k, hk, rfl, hz, hb⟩ := hrel
        by_cases hin : k < x.kids.length
        · have hz' := Lib.hid (hz.out.trans (formTL_drop hin))
          obtain ⟨b, o, A', cap', rfl, hlt, c0, c1, c2, c3, hK'⟩ := (bx1.kids.mono hb).kid hin
          have hget : x.kids[k]? = some x.kids[k] := List.getElem?_eq_getElem hin
          have hfy := hfit.kid hget
          have hsz := Nd.kid_lt hget
          generalize x.kids[k] = y at *
          clear hz hget
          have hbx := below_box wr (Obj.cells #[.int .u8 y.kind, .int .i64 y.num, .string y.name, .slice A' y.kids.length cap'] 53)
          have hK2 := hK'.mono hbx
          go_wp2_with fail
          generalize wr.alloc _ = W2 at hbx hK2 ⊢
          refine (ih y (by omega) hfy A' cap' _ hK2).mono ?_
          rintro e w3 ⟨rfl, hb3⟩
          have q3 := below_step (below_step hb hb.size hbx) (below_step hb hb.size hbx).size hb3
          cases hfy2 : formT y with
          | false =>
            rw [hfy2] at hz'
            go_wp2_with fail
            go_ret
            exact ⟨ret_bool (by rw [HFE.out, hz'.out]; rfl), below_step q1 q1.size q3⟩
          | true =>
            rw [hfy2, Bool.true_and] at hz'
            go_wp2_with fail
            exact ⟨⟨k + 1, by omega, by go_num, hz', q3⟩, by simp [intOf]; omega⟩
        · have hz' := Lib.hid (show formTL x.kids = true by rw [hz.out, List.drop_of_length_le (by omega), formTL])
          clear hz
          go_wp2_with fail
          go_ret
          exact ⟨ret_bool (by rw [HFE.out, hz'.out]), below_step q1 q1.size hb⟩

end Go.Proofs.YtcoeakdpcigogaaDoor

namespace Go.Proofs.YtcoeakdpcigogaaDoor
open Go.ChangeShapes Go.WideShapes Go.ChangeAt Go.RowKit Go.Sort

/-! ### Size and depth -/

theorem sizeTL_append : ∀ l r : List Nd, sizeTL (l ++ r) = sizeTL l + sizeTL r
  | [], r => by simp [sizeTL]
  | x :: l, r => by rw [List.cons_append, sizeTL, sizeTL, sizeTL_append l r]; omega
theorem depTL_append : ∀ l r : List Nd, depTL (l ++ r) = max (depTL l) (depTL r)
  | [], r => by simp [depTL]
  | x :: l, r => by rw [List.cons_append, depTL, depTL, depTL_append l r]; omega
theorem sizeTL_step {l : List Nd} {k : Nat} (h : k < l.length) : sizeTL (l.take (k + 1)) = sizeTL (l.take k) + sizeT l[k] := by
  rw [List.take_succ_eq_append_getElem h, sizeTL_append, sizeTL, sizeTL]; omega
theorem depTL_step {l : List Nd} {k : Nat} (h : k < l.length) : depTL (l.take (k + 1)) = max (depTL (l.take k)) (depT l[k]) := by
  rw [List.take_succ_eq_append_getElem h, depTL_append, depTL, depTL]; omega
theorem sizeTL_le {l : List Nd} (k : Nat) : sizeTL (l.take k) ≤ sizeTL l := by
  have := sizeTL_append (l.take k) (l.drop k)
  rw [List.take_append_drop] at this; omega
mutual
theorem depT_le : ∀ x : Nd, depT x ≤ sizeT x
  | .mk _ _ _ l => by rw [depT, sizeT]; have := depTL_le l; omega
theorem depTL_le : ∀ l : List Nd, depTL l ≤ sizeTL l
  | [] => by simp [depTL, sizeTL]
  | x :: r => by rw [depTL, sizeTL]; have := depT_le x; have := depTL_le r; omega
end

set_option maxRecDepth 100000 in
set_option maxHeartbeats 1000000 in
theorem measure_any (n : Nat) : ∀ (x : Nd), SizeOf.sizeOf x ≤ n → NdFit x → sizeT x ≤ 4611686018427387904 → ∀ (A : Option Addr) (cap : Nat) (w : World), NdsAt w A x.kids →
    Calls Tryd.prog 49 #[.agg #[.int .u8 x.kind, .int .i64 x.num, .string x.name, .slice A x.kids.length cap]] w fun e w' => e = .returned (.tuple #[.int .i64 (sizeT x), .int .i64 (depT x)]) ∧ Below w.heap.size w w' := by
  induction n with
  | zero => intro x hx; exfalso; cases x; simp at hx
  | succ n ih =>
    intro x hx hfit hS A cap w hK
    obtain ⟨hf1, hf2, hf3, hf4⟩ := hfit.facts
    have hbW := below_box w (Obj.cells #[.int .u8 x.kind, .int .i64 x.num, .string x.name, .slice A x.kids.length cap] 53)
    have bx := ndB_box w 53 x A cap hK
    have hse := sizeT_eq x
    have hde := depT_eq x
    have HSE := Lib.hid hse
    have HDE := Lib.hid hde
    have hsl : sizeTL x.kids ≤ 4611686018427387903 := by omega
    clear hK hse hde
    go_enter Tryd.func49, Tryd.ntmps49
    go_wp2_with fail
    generalize w.alloc _ = W at hbW bx ⊢
    go_loopw [2, 3, 11] (fun s d i wr => ∃ k : Nat, k ≤ x.kids.length ∧ i = .int .i64 k ∧ s = .int .i64 (sizeTL (x.kids.take k)) ∧ d = .int .i64 (depTL (x.kids.take k)) ∧ Below W.heap.size W wr) (fun _ _ i _ => x.kids.length - (intOf i).toNat)
    case atStart => exact ⟨0, by omega, rfl, by simp [sizeTL], by simp [depTL], Below.refl _ _⟩
    case round =>
      obtain ⟨k, hk, rfl, rfl, rfl, hb⟩ := hrel
      by_cases hin : k < x.kids.length
      · have hz1 := sizeTL_step hin
        have hz2 := depTL_step hin
        have hle := sizeTL_le (l := x.kids) (k + 1)
        have hdl := depTL_le (x.kids.take k)
        obtain ⟨b, o, A', cap', rfl, hlt, c0, c1, c2, c3, hK'⟩ := (bx.kids.mono hb).kid hin
        have hget : x.kids[k]? = some x.kids[k] := List.getElem?_eq_getElem hin
        have hfy := hfit.kid hget
        have hsz := Nd.kid_lt hget
        generalize x.kids[k] = y at *
        have hdy := depT_le y
        clear hget
        have HZ1 := Lib.hid hz1
        have HZ2 := Lib.hid hz2
        have hbx := below_box wr (Obj.cells #[.int .u8 y.kind, .int .i64 y.num, .string y.name, .slice A' y.kids.length cap'] 53)
        have hK2 := hK'.mono hbx
        have hb1 : sizeTL (x.kids.take k) + sizeT y ≤ 4611686018427387903 := by omega
        clear hz1 hz2 hle
        go_wp2_with fail
        generalize wr.alloc _ = W2 at hbx hK2 ⊢
        refine (ih y (by omega) hfy (by omega) A' cap' _ hK2).mono ?_
        rintro e w3 ⟨rfl, hb3⟩
        have q3 := below_step (below_step hb hb.size hbx) (below_step hb hb.size hbx).size hb3
        generalize sizeTL (x.kids.take k) = s0 at *
        generalize depTL (x.kids.take k) = d0 at *
        generalize sizeT y = s1 at *
        generalize depT y = d1 at *
        go_wp2_with fail
        all_goals exact ⟨⟨k + 1, by omega, by go_num, by rw [HZ1.out]; go_num, by rw [HZ2.out]; congr 1; omega, q3⟩, by simp [intOf]; omega⟩
      · obtain rfl : k = x.kids.length := by omega
        rw [List.take_length]
        have hdl := depTL_le x.kids
        have q := below_step hbW hbW.size hb
        go_wp2_with fail
        go_ret2
        refine ⟨?_, q⟩
        have e1 : ((sizeTL x.kids : Nat) : Int) + 1 = ((1 + sizeTL x.kids : Nat) : Int) := by omega
        have e2 : ((depTL x.kids : Nat) : Int) + 1 = ((1 + depTL x.kids : Nat) : Int) := by omega
        rw [HSE.out, HDE.out, e1, e2]
        rfl

end Go.Proofs.YtcoeakdpcigogaaDoor

namespace Go.Proofs.YtcoeakdpcigogaaDoor
open Go.ChangeShapes Go.WideShapes Go.ChangeAt Go.RowKit Go.Sort

end Go.Proofs.YtcoeakdpcigogaaDoor
