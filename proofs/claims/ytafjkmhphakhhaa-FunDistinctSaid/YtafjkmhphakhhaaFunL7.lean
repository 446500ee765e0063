/-
  The walk of the law FunDistinct.
-/
import Derived.Test.YtafjkmhphakhhaaFunAwake
import Derived.Test.YtafjkmhphakhhaaFunVld
namespace Go.Proofs.Ytafjkmhphakhhaa
open Go.ChangeShapes Go.WideShapes Go.ChangeAt Go.RowKit Go.Sort

theorem find_get {lib : List Fn1} {s : ByteArray} (h : 0 ≤ findF lib s 0) : ∃ (i : Nat) (h : i < lib.length), findF lib s 0 = i ∧ lib[i].name = s := by
  rcases findF_range s lib 0 with e | ⟨i, h1, h2, h3, h4⟩
  · rw [e] at h; cases h
  · exact ⟨i, h3, by rw [h2]; simp, h4⟩

set_option maxRecDepth 100000 in
set_option maxHeartbeats 2000000 in
theorem arity_yes (lib : List Fn1) (A : Option Addr) (cap : Nat) (hF : LibFit lib) (N : Nat) : ∀ (x : Nd), SizeOf.sizeOf x ≤ N → NdFit x → arT lib x = true → ∀ (Ak : Option Addr) (ck : Nat) (w : World), LibAt w A lib → NdsAt w Ak x.kids →
    Calls Try.prog 26 #[.slice A lib.length cap, .agg #[.int .u8 x.kind, .int .i64 x.num, .string x.name, .slice Ak x.kids.length ck]] w fun e w' => e = .returned (.bool true) ∧ Below w.heap.size w w' := by
  induction N with
  | zero => intro x hx; exfalso; cases x; simp at hx
  | succ N ih =>
    intro x hx hfit har Ak ck w hL hK
    obtain ⟨hf1, hf2, hf3, hf4⟩ := hfit.facts
    have hl := hF.1
    have hbW := below_box w (Obj.cells #[.int .u8 x.kind, .int .i64 x.num, .string x.name, .slice Ak x.kids.length ck] 32)
    have bx := ndB_box w 32 x Ak ck hK
    rw [arT_eq, Bool.and_eq_true] at har
    obtain ⟨ha1, ha2⟩ := har
    have HA2 := Lib.hid ha2
    have HL := Lib.hid hL
    clear hL hK ha2
    by_cases h85 : x.kind = 85
    · rw [if_pos h85] at ha1
      simp only [Bool.and_eq_true, decide_eq_true_eq] at ha1
      obtain ⟨hf0, hfl⟩ := ha1
      obtain ⟨i, hi, hfi, _⟩ := find_get hf0
      rw [hfi, Int.toNat_natCast, List.getElem?_eq_getElem hi] at hfl
      simp at hfl
      have k85 : ((x.kind : Int) == 85) = true := by rw [h85]; rfl
      have HFI := Lib.hid hfi
      have HFL := Lib.hid hfl
      clear h85 hf0 hfi hfl
      go_enter Try.func26, Try.ntmps26
      go_wp2_with fail
      generalize w.alloc _ = W at hbW bx ⊢
      refine (find_any lib A cap x.name W (HL.out.mono hbW) hl).mono ?_
      rintro e w1 ⟨rfl, hb1⟩
      rw [HFI.out]
      have bx1 := bx.mono hb1
      have q1 := below_step hbW hbW.size hb1
      clear bx hb1 hbW k85
      obtain ⟨b, o, rfl, hfo⟩ := (HL.out.mono q1).at_ hi
      have hlt := hfo.lt
      obtain ⟨c0, ⟨A1, cp1, c1, hps⟩, c2, hbody⟩ := hfo
      clear c0 c2 hps hbody
      rw [← HFL.out] at c1
      obtain ⟨b0, b1, b2, b3, _⟩ := id bx1
      have r0 : ¬ ((i : Int) < 0) := by omega
      have r1 : (0 : Int) ≤ i := by omega
      have r2 : (i : Int) < lib.length := by omega
      have hne : ((x.kids.length : Int) != x.kids.length) = false := by simp
      go_wp2_with fail
      go_quiet (fail)
      go_wp2_with fail
      have hbd : Below w1.heap.size w1 (w1.drewN nq) := ⟨rfl, rfl, rfl, Nat.le_refl _, fun _ _ => rfl⟩
      have bx2 := bx1.mono hbd
      have q2 := below_step q1 q1.size hbd
      clear bx1 q1 b0 b1 b2 b3 c1 hne
      generalize w1.drewN nq = W1 at hbd bx2 q2 ⊢
      have BX := Lib.hid bx2
      have Q := Lib.hid q2
      clear bx2 q2
      go_loopw [6] (fun i wr => ∃ (k : Nat), k ≤ x.kids.length ∧ i = .int .i64 k ∧ Below W1.heap.size W1 wr) (fun i _ => x.kids.length - (intOf i).toNat)
      case atStart => exact ⟨0, by omega, rfl, Below.refl _ _⟩
      case round =>
        obtain ⟨k, hk, rfl, hb⟩ := hrel
        have hbw := below_step Q.out Q.out.size hb
        obtain ⟨b0, b1, b2, b3, hK⟩ := BX.out.mono hb
        by_cases hin : k < x.kids.length
        · obtain ⟨b, o, A', cap', rfl, hlt, c0, c1, c2, c3, hK0⟩ := hK.kid hin
          have hget : x.kids[k]? = some x.kids[k] := List.getElem?_eq_getElem hin
          have hfy := hfit.kid hget
          have hay := arTL_kid HA2.out hget
          have hszy := Nd.kid_lt hget
          generalize x.kids[k] = y at *
          have HIH := Lib.hid (ih y (by omega) hfy hay A' cap' wr (HL.out.mono hbw) hK0)
          clear hget hay
          go_wp2_with fail
          refine HIH.out.mono ?_
          rintro e w5 ⟨rfl, hb5⟩
          have hb6 := below_step hb hb.size hb5
          clear HIH hb5 b0 b1 b2 b3 c0 c1 c2 c3
          go_wp2_with fail
          exact ⟨⟨k + 1, by omega, by go_num, hb6⟩, by simp [intOf]; omega⟩
        · go_wp2_with fail
          go_ret
          exact ⟨rfl, hbw⟩
    · have k85 : ((x.kind : Int) == 85) = false := beqK (n := 85) h85
      clear h85 ha1
      go_enter Try.func26, Try.ntmps26
      go_wp2_with fail
      generalize w.alloc _ = W at hbW bx ⊢
      have BX := Lib.hid bx
      have Q := Lib.hid hbW
      clear bx hbW
      go_loopw [6] (fun i wr => ∃ (k : Nat), k ≤ x.kids.length ∧ i = .int .i64 k ∧ Below W.heap.size W wr) (fun i _ => x.kids.length - (intOf i).toNat)
      case atStart => exact ⟨0, by omega, rfl, Below.refl _ _⟩
      case round =>
        obtain ⟨k, hk, rfl, hb⟩ := hrel
        have hbw := below_step Q.out Q.out.size hb
        obtain ⟨b0, b1, b2, b3, hK⟩ := BX.out.mono hb
        by_cases hin : k < x.kids.length
        · obtain ⟨b, o, A', cap', rfl, hlt, c0, c1, c2, c3, hK0⟩ := hK.kid hin
          have hget : x.kids[k]? = some x.kids[k] := List.getElem?_eq_getElem hin
          have hfy := hfit.kid hget
          have hay := arTL_kid HA2.out hget
          have hszy := Nd.kid_lt hget
          generalize x.kids[k] = y at *
          have HIH := Lib.hid (ih y (by omega) hfy hay A' cap' wr (HL.out.mono hbw) hK0)
          clear hget hay
          go_wp2_with fail
          refine HIH.out.mono ?_
          rintro e w5 ⟨rfl, hb5⟩
          have hb6 := below_step hb hb.size hb5
          clear HIH hb5 b0 b1 b2 b3 c0 c1 c2 c3
          go_wp2_with fail
          exact ⟨⟨k + 1, by omega, by go_num, hb6⟩, by simp [intOf]; omega⟩
        · go_wp2_with fail
          go_ret
          exact ⟨rfl, hbw⟩

set_option maxRecDepth 100000 in
set_option maxHeartbeats 1000000 in
theorem funDistinct_walk (lib : List Fn1) (A : Option Addr) (cap : Nat) (w : World) (hL : LibAt w A lib) (hF : LibFit lib) :
    Calls Try.prog 9 #[.slice A lib.length cap] w fun e w' => e = .returned (.bool true) ∧ Below w.heap.size w w' := by
  have hl := hF.1
  have HL := Lib.hid hL
  clear hL
  go_enter Try.func9, Try.ntmps9
  go_wp2_with fail
  refine (awake_any w).mono ?_
  rintro e w1 ⟨rfl, hb1⟩
  go_wp2_with fail
  refine (great_any lib A cap w1 (HL.out.mono hb1) hF).mono ?_
  rintro e w2 ⟨rfl, hb2⟩
  have q2 := Lib.hid (below_step hb1 hb1.size hb2)
  clear hb1 hb2
  cases hg : greatB lib with
  | true =>
    go_wp2_with fail
    go_ret
    exact ⟨rfl, q2.out⟩
  | false =>
  obtain ⟨h40, hP, hN, hS⟩ := great_no hg
  have HS := Lib.hid hS
  clear hS hg
  go_wp2_with fail
  refine (valid_any lib A cap w2 (HL.out.mono q2.out) hF hP hN).mono ?_
  rintro e w3 ⟨rfl, hb3⟩
  have q3 := Lib.hid (below_step q2.out q2.out.size hb3)
  clear hb3 q2
  by_cases hv : (validR lib).2 = 0
  rotate_left
  · have hv' : ((validR lib).2 != 0) = true := by simpa using hv
    generalize (validR lib).2 = v2 at *
    go_wp2_with fail
    go_ret
    exact ⟨rfl, q3.out⟩
  have HV := Lib.hid hv
  rw [hv]
  clear hv
  go_wp2_with fail
  go_loopw [5] (fun i wr => ∃ (k : Nat), k ≤ lib.length ∧ i = .int .i64 k ∧ Below w.heap.size w wr) (fun i _ => lib.length - (intOf i).toNat)
  case atStart => exact ⟨0, by omega, rfl, q3.out⟩
  case round =>
    obtain ⟨k, hk, rfl, hb⟩ := hrel
    by_cases hin : k < lib.length
    · obtain ⟨b, o, rfl, hfo⟩ := (HL.out.mono hb).at_ hin
      have hget : lib[k]? = some lib[k] := List.getElem?_eq_getElem hin
      obtain ⟨hfn, hfp, hfb⟩ := hF.2 k _ hget
      have hnn := hN k _ hget
      have hone := one_facts (valid_facts HV.out hget)
      have hfind := valid_find HV.out hget
      have htype : typeR lib k lib[k].body = (lib[k].list, 0) := by
        unfold typeR
        rw [if_neg (by omega), if_neg (by rw [hone.2.2.2.2.1]; simp), Int.toNat_natCast, hget]
        exact hone.2.2.2.2.2.2.2
      have har := chk_ar lib lib[k].body _ (by rw [hone.2.2.2.2.2.2.2])
      generalize lib[k] = f at *
      have hname := hone.2.1
      have HFI := Lib.hid hfind
      have HTY := Lib.hid htype
      have HAR := Lib.hid har
      have HNM := Lib.hid hname
      clear hget hone hfind htype har hname
      have hlt := hfo.lt
      have HFO := Lib.hid hfo
      obtain ⟨c0, ⟨A1, cp1, c1, hps⟩, c2, hbody⟩ := id hfo
      obtain ⟨A9, cp9, d0, d1, d2, d3, hks⟩ := hbody.open_
      have HKS := Lib.hid hks
      clear hps hbody c1 hfo hks
      have r1 : (0 : Int) ≤ k := by omega
      have r2 : (k : Int) < lib.length := by omega
      go_wp2_with fail
      refine (find_any lib _ cap f.name wr (HL.out.mono hb) hl).mono ?_
      rintro e w4 ⟨rfl, hb4⟩
      rw [HFI.out]
      have p4 := below_step hb hb.size hb4
      have c04 := below_cell hb4 c0
      have d04 := below_cell hb4 d0
      have d14 := below_cell hb4 d1
      have d24 := below_cell hb4 d2
      have d34 := below_cell hb4 d3
      have c24 := below_cell hb4 c2
      have hlt4 := block_lt_of_cell c04
      have hk4 := Lib.hid (HKS.out.mono hb4)
      clear c0 c2 d0 d1 d2 d3 hb4 HKS
      have hkk : ((k : Int) != k) = false := by simp
      go_wp2_with fail
      refine (rname_any f.name w4 hfn).mono ?_
      rintro e w5 ⟨rfl, hb5⟩
      rw [HNM.out]
      have p5 := below_step p4 p4.size hb5
      have d05 := below_cell hb5 d04
      have d15 := below_cell hb5 d14
      have d25 := below_cell hb5 d24
      have d35 := below_cell hb5 d34
      have c25 := below_cell hb5 c24
      have hlt5 := block_lt_of_cell c25
      have hk5 := Lib.hid (hk4.out.mono hb5)
      clear c04 c24 d04 d14 d24 d34 hb5 hk4 p4
      go_wp2_with fail
      refine (arity_yes lib _ cap hF _ f.body (Nat.le_refl _) hfb HAR.out A9 cp9 w5 (HL.out.mono p5) hk5.out).mono ?_
      rintro e w6 ⟨rfl, hb6⟩
      have p6 := below_step p5 p5.size hb6
      have d06 := below_cell hb6 d05
      have d16 := below_cell hb6 d15
      have d26 := below_cell hb6 d25
      have d36 := below_cell hb6 d35
      have c26 := below_cell hb6 c25
      have hlt6 := block_lt_of_cell c26
      have hk6 := Lib.hid (hk5.out.mono hb6)
      clear c25 d05 d15 d25 d35 hb6 hk5 p5
      go_wp2_with fail
      refine (type_any lib _ cap k f.body A9 cp9 w6 (HL.out.mono p6) hF hP hfb hk6.out (by omega)).mono ?_
      rintro e w7 ⟨rfl, hb7⟩
      rw [HTY.out]
      have p7 := below_step p6 p6.size hb7
      have c27 := below_cell hb7 c26
      have hlt7 := block_lt_of_cell c27
      clear c26 d06 d16 d26 d36 hb7 hk6 p6 HTY HAR HFO
      generalize f.list = fl at *
      cases fl
      all_goals
        go_wp2_with fail
        exact ⟨⟨k + 1, by omega, by go_num, p7⟩, by simp [intOf]; omega⟩
    · go_wp2_with fail
      go_ret
      exact ⟨rfl, hb⟩

end Go.Proofs.Ytafjkmhphakhhaa
