/-
  The walk of the law ImagePartner.
-/
import Derived.Test.YthakiaicnhkfjaaDoorImgAwake
namespace Go.Proofs.YthakiaicnhkfjaaDoor
open Go.ChangeShapes Go.WideShapes Go.ChangeAt Go.RowKit Go.Sort

theorem ptn_cases (l : List Ins) (i : Int) : (ptn l i = none ∧ rptn l i = -1) ∨ (∃ m : Nat, ptn l i = some (m : Int) ∧ rptn l i = m) := by
  rw [rptn_eq]
  cases hp : ptn l i with
  | none => exact .inl ⟨rfl, rfl⟩
  | some t =>
    have := (ptn_range hp).2
    exact .inr ⟨t.toNat, by congr 1; omega, by simp; omega⟩

/-- How many starts lie ahead of k. -/
def cntS (l : List Ins) (k : Nat) : Nat := ((l.take k).filter fun x => x.op == 32).length
theorem cntS_step {l : List Ins} {k : Nat} (hk : k < l.length) : cntS l (k + 1) = cntS l k + if l[k].op = 32 then 1 else 0 := by
  unfold cntS
  rw [List.take_succ_eq_append_getElem hk, List.filter_append, List.length_append]
  by_cases h : l[k].op = 32 <;> simp [h]
theorem procsF_length : ∀ (l : List Ins) (k : Nat), (procsF l k).length = (l.filter fun x => x.op == 32).length
  | [], _ => rfl
  | x :: r, k => by
    unfold procsF
    by_cases h : x.op = 32
    · rw [if_pos h]; simp [h, procsF_length r (k + 1)]
    · rw [if_neg h]; simp [h, procsF_length r (k + 1)]
theorem procsF_at : ∀ (l : List Ins) (k s : Nat) (hk : k < l.length), l[k].op = 32 → (procsF l s)[cntS l k]? = some ((s + k : Nat) : Int)
  | [], k, s, hk, _ => by simp at hk
  | x :: r, 0, s, hk, h => by
    simp at h
    simp [procsF, h, cntS]
  | x :: r, k + 1, s, hk, h => by
    simp at h
    have ih := procsF_at r k (s + 1) (by simpa using hk) h
    unfold procsF
    by_cases h32 : x.op = 32
    · rw [if_pos h32]
      have : cntS (x :: r) (k + 1) = cntS r k + 1 := by simp [cntS, h32]
      rw [this, List.getElem?_cons_succ, ih]
      congr 2; omega
    · rw [if_neg h32]
      have : cntS (x :: r) (k + 1) = cntS r k := by simp [cntS, h32]
      rw [this, ih]
      congr 2; omega
theorem cntS_all (l : List Ins) : cntS l l.length = (procsF l 0).length := by
  rw [procsF_length]; simp [cntS]
theorem cntS_lt {l : List Ins} {k : Nat} (hk : k < l.length) (h : l[k].op = 32) : cntS l k < (procsF l 0).length := by
  have := procsF_at l k 0 hk h
  exact (List.getElem?_eq_some_iff.1 this).1

/-- The first halt ahead of k, or -1. -/
def hlt (l : List Ins) (k : Nat) : Int := match haltF (l.take k) 0 with | some j => j | none => -1
theorem haltF_append : ∀ (l r : List Ins) (s : Nat), haltF (l ++ r) s = match haltF l s with | some j => some j | none => haltF r (s + l.length)
  | [], r, s => by simp [haltF]
  | x :: l, r, s => by
    simp only [List.cons_append, haltF]
    by_cases h : x.op = 34
    · rw [if_pos h, if_pos h]
    · rw [if_neg h, if_neg h, haltF_append l r (s + 1)]
      simp only [List.length_cons]
      rw [show s + 1 + l.length = s + (l.length + 1) by omega]
theorem hlt_step {l : List Ins} {k : Nat} (hk : k < l.length) : hlt l (k + 1) = if l[k].op = 34 ∧ hlt l k < 0 then (k : Int) else hlt l k := by
  unfold hlt
  rw [List.take_succ_eq_append_getElem hk, haltF_append]
  have hlen : (l.take k).length = k := by simp; omega
  cases h : haltF (l.take k) 0 with
  | some j => simp; omega
  | none =>
    simp only [haltF, hlen, Nat.zero_add]
    by_cases h34 : l[k].op = 34 <;> simp [h34]
theorem hlt_all (l : List Ins) : hlt l l.length = match haltF l 0 with | some j => (j : Int) | none => -1 := by
  unfold hlt; rw [List.take_length]
theorem hlt_ge (l : List Ins) (k : Nat) : -1 ≤ hlt l k := by
  unfold hlt; split <;> omega

set_option maxRecDepth 100000 in
set_option maxHeartbeats 2000000 in
theorem imagePartner_walk (l : List Ins) (A : Option Addr) (cap : Nat) (M S i : Int) (w : World) (hC : CodeAt w A l) (hY : Bytes l) (hl63 : l.length ≤ 9223372036854775807) (hT : Tab w) :
    Calls Tryd.prog 11 #[.agg #[.slice A l.length cap, .int .i64 M, .int .i64 S], .int .i64 i] w fun e w' => e = .returned (.bool true) ∧ Below w.heap.size w w' := by
  have hbW := below_box w (Obj.cells #[.slice A l.length cap, .int .i64 M, .int .i64 S] 24)
  have im := imgAt_box w 24 A cap M S l hC
  have HT := Lib.hid (hT.mono hbW)
  clear hC hT
  go_enter Tryd.func11, Tryd.ntmps11
  go_wp2_with fail
  generalize w.alloc _ = W at hbW im HT ⊢
  refine (awake23_any _ HT.out).mono ?_
  rintro e w1 ⟨rfl, hb1⟩
  have im1 := im.mono hb1
  have HT1 := Lib.hid (HT.out.mono hb1)
  have q1 := below_step hbW hbW.size hb1
  clear im HT hbW hb1
  obtain ⟨b0, b1, b2, bc⟩ := id im1
  clear bc
  go_wp2_with fail
  refine (great_any l _ _ _ _ _ hl63).mono ?_
  rintro e w2 ⟨rfl, hb2⟩
  have im2 := im1.mono hb2
  have HT2 := Lib.hid (HT1.out.mono hb2)
  have q2 := below_step q1 q1.size hb2
  clear im1 HT1 q1 hb2 b0 b1 b2
  obtain ⟨b0, b1, b2, bc⟩ := id im2
  clear bc
  by_cases h80 : 80 < l.length
  · have g80 : decide (80 < l.length) = true := by simpa using h80
    go_wp2
    go_ret
    exact ⟨rfl, q2⟩
  have g80 : decide (80 < l.length) = false := by simpa using h80
  have hl : l.length ≤ 1000000 := by omega
  go_wp2_with fail
  refine (partner_any l _ _ _ _ _ _ im2.code hY HT2.out hl).mono ?_
  rintro e w3 ⟨rfl, hb3⟩
  have im3 := im2.mono hb3
  have HT3 := Lib.hid (HT2.out.mono hb3)
  have q3 := below_step q2 q2.size hb3
  clear im2 HT2 q2 hb3 b0 b1 b2
  obtain ⟨b0, b1, b2, bc⟩ := id im3
  clear bc
  go_wp2_with fail
  refine (rpartner_any l _ _ _ _ im3.code hY hl).mono ?_
  rintro e w4 ⟨rfl, hb4⟩
  have im4 := im3.mono hb4
  have HT4 := Lib.hid (HT3.out.mono hb4)
  have q4 := below_step q3 q3.size hb4
  clear im3 HT3 q3 hb4 b0 b1 b2
  obtain ⟨b0, b1, b2, bc⟩ := id im4
  clear bc
  have main : ∀ K : Prop, (∀ (a b : Int) (c : Bool), ptnI (ptn l i) = a → rptn l i = b → (ptn l i).isSome = c → ((c != decide (0 ≤ b)) = false ∧ (a != (if b < 0 then 0 else b)) = false) → K) → K := fun K hK => by
    refine hK _ _ _ rfl rfl rfl ?_
    rcases ptn_cases l i with ⟨h1, h2⟩ | ⟨m, h1, h2⟩
    · rw [h1, h2]; exact ⟨rfl, rfl⟩
    · rw [h1, h2]; simp [ptnI]; omega
  rcases ptn_cases l i with ⟨h1, h2⟩ | ⟨m, h1, h2⟩
  all_goals
    have p1 : ptnI (ptn l i) = _ := congrArg ptnI h1
    have p2 : (ptn l i).isSome = _ := congrArg Option.isSome h1
    clear main
    simp only [ptnI, Option.getD_none, Option.getD_some, Option.isSome_none, Option.isSome_some] at p1 p2
    rw [h1, h2]
    clear h1 h2 p1 p2
    simp only [ptnI, Option.getD_none, Option.getD_some, Option.isSome_none, Option.isSome_some]
    go_wp2_with fail
    refine (procs_any l _ _ _ _ _ im4.code hl).mono ?_
    rintro e w5 ⟨AP, cP, rfl, hP, hb5⟩
    have im5 := im4.mono hb5
    have q5 := below_step q4 q4.size hb5
    obtain ⟨b0', b1', b2', bc'⟩ := id im5
    clear bc'
    go_wp2_with fail
    refine (halt_any l _ _ _ _ _ im5.code hl).mono ?_
    rintro e w6 ⟨rfl, hb6⟩
    have im6 := im5.mono hb6
    have q6 := below_step q5 q5.size hb6
    have HP := Lib.hid (hP.mono hb6)
    clear b0 b1 b2 b0' b1' b2' hP
    obtain ⟨b0, b1, b2, bc⟩ := id im6
    have HC := Lib.hid bc
    clear bc
    have hpl : (procsF l 0).length ≤ l.length := by rw [procsF_length]; exact List.length_filter_le _ _
    go_wp2
    clear b0 b1 b2
    go_loopw [11, 12, 49] (fun a b i wr => ∃ k : Nat, k ≤ l.length ∧ i = .int .i64 k ∧ a = .int .i64 (cntS l k) ∧ b = .int .i64 (hlt l k) ∧ Below w6.heap.size w6 wr) (fun _ _ i _ => l.length - (intOf i).toNat)
    case atStart => exact ⟨0, by omega, rfl, rfl, rfl, Below.refl _ _⟩
    case round =>
      obtain ⟨k, hk, rfl, rfl, rfl, hb⟩ := hrel
      have hh := hlt_ge l k
      by_cases hin : k < l.length
      · obtain ⟨b, o, rfl, hi⟩ := (HC.out.mono hb).at_ hin
        have hlt0 := hi.lt
        obtain ⟨c0, c1, c2, c3, c4⟩ := id hi
        have hstep := Lib.hid (cntS_step hin)
        have hhs := Lib.hid (hlt_step hin)
        have hcl : cntS l k ≤ k := by
          have h1 : cntS l k ≤ (l.take k).length := List.length_filter_le _ _
          have h2 : (l.take k).length ≤ k := by simp; omega
          omega
        have hq := below_box wr (Obj.cells #[Value.int IntKind.u8 ↑l[k].op, Value.int IntKind.i64 l[k].a, Value.int IntKind.i64 l[k].b, Value.int IntKind.i64 l[k].c, Value.int IntKind.i64 l[k].d] 38)
        have hb2 := below_step hb hb.size hq
        by_cases h32 : l[k].op = 32
        · have h32' : ((l[k].op : Int) == 32) = true := by rw [h32]; rfl
          have h34' : ((l[k].op : Int) == 34) = false := by rw [h32]; rfl
          have hlt' := cntS_lt hin h32
          have hat := procsF_at l k 0 hin h32
          obtain ⟨pb, po, rfl, hpl2, hpc⟩ := (HP.out.mono hb).at_ hlt'
          have hval : (procsF l 0)[cntS l k] = (k : Int) := by
            have := (List.getElem?_eq_some_iff.1 hat).2; simpa using this
          rw [hval] at hpc
          have h1s := Lib.hid (show cntS l (k + 1) = cntS l k + 1 by rw [hstep.out, if_pos h32])
          have h2s := Lib.hid (show hlt l (k + 1) = hlt l k by rw [hhs.out, if_neg (by rw [h32]; simp)])
          have g1 : decide ((procsF l 0).length ≤ cntS l k) = false := by simp; omega
          clear hstep hhs hval hat h32
          go_wp2
          exact ⟨⟨k + 1, by omega, by go_num, by rw [h1s.out]; go_num, by rw [h2s.out], hb2⟩, by simp [intOf]; omega⟩
        · have h32' : ((l[k].op : Int) == 32) = false := beq_eq_false_iff_ne.2 (by omega)
          have h1s := Lib.hid (show cntS l (k + 1) = cntS l k by rw [hstep.out, if_neg h32]; rfl)
          by_cases h34 : l[k].op = 34
          · have h34' : ((l[k].op : Int) == 34) = true := by rw [h34]; rfl
            by_cases hneg : hlt l k < 0
            · have h2s := Lib.hid (show hlt l (k + 1) = k by rw [hhs.out, if_pos ⟨h34, hneg⟩])
              clear hstep hhs h32 h34
              go_wp2
              exact ⟨⟨k + 1, by omega, by go_num, by rw [h1s.out], by rw [h2s.out], hb2⟩, by simp [intOf]; omega⟩
            · have h2s := Lib.hid (show hlt l (k + 1) = hlt l k by rw [hhs.out, if_neg (fun h => hneg h.2)])
              clear hstep hhs h32 h34
              go_wp2
              exact ⟨⟨k + 1, by omega, by go_num, by rw [h1s.out], by rw [h2s.out], hb2⟩, by simp [intOf]; omega⟩
          · have h34' : ((l[k].op : Int) == 34) = false := beq_eq_false_iff_ne.2 (by omega)
            have h2s := Lib.hid (show hlt l (k + 1) = hlt l k by rw [hhs.out, if_neg (fun h => h34 h.1)])
            clear hstep hhs h32 h34
            go_wp2
            exact ⟨⟨k + 1, by omega, by go_num, by rw [h1s.out], by rw [h2s.out], hb2⟩, by simp [intOf]; omega⟩
      · obtain rfl : k = l.length := by omega
        have hc := cntS_all l
        have ha := hlt_all l
        have q7 := below_step q6 q6.size hb
        rw [hc]
        cases hf : haltF l 0 with
        | none =>
          rw [hf] at ha
          simp only at ha
          rw [ha]
          simp only [optI, Option.isSome_none]
          clear hc ha hh
          go_wp2
          go_ret
          exact ⟨ret_bool (by simp), q7⟩
        | some j =>
          rw [hf] at ha
          simp only at ha
          rw [ha]
          simp only [optI, Option.isSome_some]
          clear hc ha hh
          go_wp2
          go_ret
          exact ⟨ret_bool (by simp), q7⟩

end Go.Proofs.YthakiaicnhkfjaaDoor
