/-
  The contracts of the reference's One and Valid.
-/
import Derived.Test.YtoankdaddgjnlaaFunRChk
import Derived.Test.YtoankdaddgjnlaaFunVT
import Derived.Test.YtoankdaddgjnlaaFunVld
namespace Go.Proofs.Ytoankdaddgjnlaa
open Go.ChangeShapes Go.WideShapes Go.ChangeAt Go.RowKit Go.Sort

theorem nodup_take {l : List Pm} {k : Nat} (h : k < l.length) : ((l.take (k + 1)).map Pm.name).Nodup ↔ (((l.take k).map Pm.name).Nodup ∧ ∀ j, j < k → ∀ p, l[j]? = some p → p.name ≠ l[k].name) := by
  rw [List.take_succ_eq_append_getElem h, List.map_append, List.map_cons, List.map_nil, nodup_snoc]
  constructor
  · rintro ⟨h1, h2⟩
    refine ⟨h1, fun j hj p hp e => h2 ?_⟩
    rw [← e]
    have : (l.take k)[j]? = some p := by rw [List.getElem?_take_of_lt hj]; exact hp
    exact List.mem_map.2 ⟨p, List.mem_of_getElem? this, rfl⟩
  · rintro ⟨h1, h2⟩
    refine ⟨h1, fun hm => ?_⟩
    obtain ⟨p, hp, e⟩ := List.mem_map.1 hm
    obtain ⟨j, hj⟩ := List.getElem?_of_mem hp
    have hjk : j < k := by have := (List.getElem?_eq_some_iff.1 hj).1; simp at this; omega
    rw [List.getElem?_take_of_lt hjk] at hj
    exact h2 j hjk p hj e
theorem nodup_of_take {l : List Pm} {k : Nat} (h : (l.map Pm.name).Nodup) : ((l.take k).map Pm.name).Nodup := by
  have : ((l.take k).map Pm.name) = (l.map Pm.name).take k := by rw [List.map_take]
  rw [this]
  exact h.sublist (List.take_sublist _ _)

set_option maxRecDepth 100000 in
set_option maxHeartbeats 4000000 in
theorem rone_any (lib : List Fn1) (A : Option Addr) (cap : Nat) (i : Nat) (hi : i < lib.length) (w : World) (hL : LibAt w A lib) (hF : LibFit lib) (hN : FewNodes lib) :
    Calls Try.prog 24 #[.slice A lib.length cap, .int .i64 i] w fun e w' => e = .returned (.int .i64 (oneE lib i lib[i])) ∧ Below w.heap.size w w' := by
  have hl := hF.1
  have HL := Lib.hid hL
  obtain ⟨b, o, rfl, hfo⟩ := hL.at_ hi
  have hget : lib[i]? = some lib[i] := List.getElem?_eq_getElem hi
  obtain ⟨hfn, hfp, hfb⟩ := hF.2 i _ hget
  have hnn := hN i _ hget
  have hfle := findF_le (k := 0) hget rfl
  generalize lib[i] = f at *
  clear hget hL
  have hlt := hfo.lt
  obtain ⟨c0, ⟨A1, cp1, c1, hps⟩, c2, hbody⟩ := hfo
  obtain ⟨A3, cp3, d0, d1, d2, d3, hks⟩ := hbody.open_
  have bx := fnB_box w 47 f A1 cp1 A3 cp3 hps hks
  have hb := below_box w (Obj.cells #[.string f.name, .slice A1 f.params.length cp1, .bool f.list, .int .u8 f.body.kind, .int .i64 f.body.num, .string f.body.name, .slice A3 f.body.kids.length cp3] 47)
  have HE := Lib.hid (oneE.eq_def lib i f)
  clear hps hks hbody
  have r1 : (0 : Int) ≤ i := by omega
  have r2 : (i : Int) < lib.length := by omega
  by_cases h30 : 30 ≤ i
  · rw [if_pos h30] at HE
    go_enter Try.func24, Try.ntmps24
    go_wp2_with fail
    go_ret
    exact ⟨ret_i64 HE.out.symm, hb⟩
  rw [if_neg h30] at HE
  go_enter Try.func24, Try.ntmps24
  go_wp2_with fail
  clear c0 c1 c2 d0 d1 d2 d3
  generalize w.alloc _ = W at bx hb ⊢
  refine (rname_any f.name _ hfn).mono ?_
  rintro e w1 ⟨rfl, hb1⟩
  have bx1 := bx.mono hb1
  have q1 := below_step hb hb.size hb1
  clear bx hb hb1
  obtain ⟨b0, b1, b2, b3, b4, b5, b6, _, _⟩ := id bx1
  cases hnm : nameB f.name with
  | false =>
    rw [if_pos hnm] at HE
    go_wp2_with fail
    go_ret
    exact ⟨ret_i64 HE.out.symm, q1⟩
  | true =>
  rw [if_neg (by rw [hnm]; simp)] at HE
  go_wp2_with fail
  refine (rfind_any lib _ cap f.name w1 (HL.out.mono q1) hl).mono ?_
  rintro e w1 ⟨rfl, rfl⟩
  by_cases hfi : findF lib f.name 0 < i
  · rw [if_pos hfi] at HE
    have hne : (findF lib f.name 0 != (i : Int)) = true := bne_iff_ne.2 (by omega)
    generalize findF lib f.name 0 = fz at *
    go_wp2_with fail
    go_ret
    exact ⟨ret_i64 HE.out.symm, q1⟩
  rw [if_neg hfi] at HE
  have hne : (findF lib f.name 0 != (i : Int)) = false := by
    have : findF lib f.name 0 = i := by omega
    rw [this]; simp
  generalize findF lib f.name 0 = fz at *
  clear hfi hfle
  have HPE := Lib.hid (paramE.eq_def f.params)
  by_cases h8 : 8 < f.params.length
  · rw [if_pos h8] at HPE
    rw [if_pos (by rw [HPE.out]; decide), HPE.out] at HE
    go_wp2_with fail
    go_ret
    exact ⟨ret_i64 HE.out.symm, q1⟩
  rw [if_neg h8] at HPE
  have BX := Lib.hid bx1
  have Q1 := Lib.hid q1
  go_wp2_with fail
  clear b0 b1 b2 b3 b4 b5 b6 bx1 q1 hne
  go_loopw [6] (fun i wr => ∃ k : Nat, k ≤ f.params.length ∧ i = .int .i64 k ∧ Hid (∀ (j : Nat) (p : Pm), j < k → f.params[j]? = some p → nameB p.name = true) ∧ Below w1.heap.size w1 wr) (fun i _ => f.params.length - (intOf i).toNat)
  case atStart => exact ⟨0, by omega, rfl, fun j p hj => by omega, Below.refl _ _⟩
  case round =>
    obtain ⟨k, hk, rfl, hz, hb⟩ := hrel
    obtain ⟨b0, b1, b2, b3, b4, b5, b6, hps, _⟩ := BX.out.mono hb
    have hbw := below_step Q1.out Q1.out.size hb
    by_cases hin : k < f.params.length
    · obtain ⟨bp, op, rfl, dp0, dp1⟩ := hps.at_ hin
      have hget : f.params[k]? = some f.params[k] := List.getElem?_eq_getElem hin
      have hpn := hfp.2 k _ hget
      have hmem : f.params[k] ∈ f.params := List.getElem_mem hin
      generalize f.params[k] = p at *
      have HG := Lib.hid hget
      have HME := Lib.hid hmem
      have hl2 := block_lt_of_cell dp0
      have s1 : (0 : Int) ≤ k := by omega
      have s2 : (k : Int) < f.params.length := by omega
      clear hget hmem hps
      go_wp2_with fail
      refine (rname_any p.name _ hpn).mono ?_
      rintro e w2 ⟨rfl, hb2⟩
      have p2 := below_step hb hb.size hb2
      have pw := below_step Q1.out Q1.out.size p2
      cases hnp : nameB p.name with
      | false =>
        rw [if_pos ⟨p, HME.out, hnp⟩] at HPE
        rw [if_pos (by rw [HPE.out]; decide), HPE.out] at HE
        go_wp2_with fail
        go_ret
        exact ⟨ret_i64 HE.out.symm, pw⟩
      | true =>
        have hz' := Lib.hid (fun (j : Nat) (q : Pm) (hj : j < k + 1) (hq : f.params[j]? = some q) => show nameB q.name = true from by
          by_cases e : j = k
          · subst e; rw [HG.out] at hq; have := Option.some.inj hq; rw [← this]; exact hnp
          · exact hz.out j q (by omega) hq)
        clear hz
        go_wp2_with fail
        exact ⟨⟨k + 1, by omega, by go_num, hz', p2⟩, by simp [intOf]; omega⟩
    · have hno : ¬ ∃ p ∈ f.params, nameB p.name = false := by
        rintro ⟨p, hp, hn⟩
        obtain ⟨j, hj⟩ := List.getElem?_of_mem hp
        have := (List.getElem?_eq_some_iff.1 hj).1
        rw [hz.out j p (by omega) hj] at hn; cases hn
      rw [if_neg hno] at HPE
      clear hno hz b0 b1 b2 b3 b4 b5 b6 hps
      have BX2 := Lib.hid (BX.out.mono hb)
      have Q2 := Lib.hid hbw
      have hb1' := (BX.out.mono hb).b1
      clear hbw hb BX Q1
      obtain ⟨w2, rfl⟩ : ∃ v : World, v = wr := ⟨_, rfl⟩
      go_wp2_with fail
      go_loopw [7] (fun i wr => ∃ k : Nat, k ≤ f.params.length ∧ i = .int .i64 k ∧ Hid (((f.params.take k).map Pm.name).Nodup) ∧ Below w2.heap.size w2 wr) (fun i _ => f.params.length - (intOf i).toNat)
      case atStart => exact ⟨0, by omega, rfl, Lib.hid (by simp), Below.refl _ _⟩
      case round =>
        obtain ⟨k, hk, rfl, hz, hb⟩ := hrel
        obtain ⟨b0, b1, b2, b3, b4, b5, b6, hps, hks⟩ := BX2.out.mono hb
        have hbw := Lib.hid (below_step Q2.out Q2.out.size hb)
        by_cases hin : k < f.params.length
        · obtain ⟨bp, op, rfl, dp0, dp1⟩ := hps.at_ hin
          have hl2 := block_lt_of_cell dp0
          have hnt := Lib.hid (nodup_take hin)
          have s1 : (0 : Int) ≤ k := by omega
          have s2 : (k : Int) < f.params.length := by omega
          generalize hpk : f.params[k] = p at *
          have HB := Lib.hid hb
          clear hb hpk
          go_wp2_with fail
          obtain ⟨wo, rfl⟩ : ∃ wo : World, wo = wr := ⟨_, rfl⟩
          go_loopw [8] (fun i wr => ∃ m : Nat, m ≤ k ∧ i = .int .i64 m ∧ Hid (∀ (j : Nat), j < m → ∀ (q : Pm), f.params[j]? = some q → q.name ≠ p.name) ∧ Below wo.heap.size wo wr) (fun i _ => k - (intOf i).toNat)
          case atStart => exact ⟨0, by omega, rfl, fun j hj => by omega, Below.refl _ _⟩
          case round =>
            obtain ⟨m, hm, rfl, hzm, hbm⟩ := hrel
            by_cases hin2 : m < k
            · have hinm : m < f.params.length := by omega
              obtain ⟨bq, oq, eq, dq0, dq1⟩ := (hps.mono hbm).at_ hinm
              simp at eq
              obtain ⟨rfl, rfl⟩ := eq
              have HG := Lib.hid (List.getElem?_eq_getElem hinm)
              generalize f.params[m] = q at *
              have n1 := below_cell hbm b1
              have n2 := below_cell hbm dp0
              have hl3 := block_lt_of_cell dq0
              have s3 : (0 : Int) ≤ m := by omega
              have s4 : (m : Int) < f.params.length := by omega
              cases heq : (q.name.toList == p.name.toList) with
              | true =>
                have hnd : ¬ (f.params.map Pm.name).Nodup := fun h => by
                  have h2 := (hnt.out.1 (nodup_of_take h)).2 m hin2 q HG.out
                  exact h2 (eqS_iff.1 heq)
                rw [if_neg hnd] at HPE
                rw [if_pos (by rw [HPE.out]; decide), HPE.out] at HE
                have hp := below_step hbw.out hbw.out.size hbm
                clear hnd hnt hzm
                go_wp2_with fail
                go_quiet (fail)
                go_wp2_with fail
                go_ret
                exact ⟨ret_i64 HE.out.symm, hp.trans ⟨rfl, rfl, rfl, Nat.le_refl _, fun _ _ => rfl⟩⟩
              | false =>
                have hz' := Lib.hid (fun (j : Nat) (hj : j < m + 1) (q' : Pm) (hq : f.params[j]? = some q') => show q'.name ≠ p.name from by
                  by_cases e : j = m
                  · subst e; rw [HG.out] at hq; have := Option.some.inj hq; rw [← this]
                    intro e2; rw [eqS_iff.2 e2] at heq; cases heq
                  · exact hzm.out j (by omega) q' hq)
                clear hzm
                go_wp2_with fail
                go_quiet (fail)
                go_wp2_with fail
                exact ⟨⟨m + 1, by omega, by go_num, hz', hbm.trans ⟨rfl, rfl, rfl, Nat.le_refl _, fun _ _ => rfl⟩⟩, by simp [intOf]; omega⟩
            · have hz' := Lib.hid (hnt.out.2 ⟨hz.out, fun j hj q hq => hzm.out j (by omega) q hq⟩)
              clear hzm hz hnt
              go_wp2_with fail
              exact ⟨⟨k + 1, by omega, by go_num, hz', below_step HB.out HB.out.size hbm⟩, by simp [intOf]; omega⟩
        · obtain rfl : k = f.params.length := by omega
          rw [List.take_length] at hz
          rw [if_pos hz.out] at HPE
          rw [if_neg (fun h => h HPE.out)] at HE
          have BX3 := Lib.hid (BX2.out.mono hb)
          clear hz hb BX2 Q2
          go_wp2_with fail
          refine (rform_any _ f.body (Nat.le_refl _) hfb A3 cp3 _ hks).mono ?_
          rintro e w4 ⟨rfl, hb4⟩
          have bx4 := BX3.out.mono hb4
          have q4 := below_step hbw.out hbw.out.size hb4
          clear BX3 hbw hb4 b0 b1 b2 b3 b4 b5 b6 hks hps
          obtain ⟨b0, b1, b2, b3, b4, b5, b6, _, _⟩ := id bx4
          cases hfo : formT f.body with
          | false =>
            rw [if_pos hfo] at HE
            go_wp2_with fail
            go_ret
            exact ⟨ret_i64 HE.out.symm, q4⟩
          | true =>
          rw [if_neg (by rw [hfo]; simp)] at HE
          go_wp2_with fail
          refine (rdepth_any _ f.body (Nat.le_refl _) hfb (by omega) A3 cp3 _ bx4.ks).mono ?_
          rintro e w5 ⟨rfl, hb5⟩
          have bx5 := bx4.mono hb5
          have q5 := below_step q4 q4.size hb5
          clear bx4 q4 hb5 b0 b1 b2 b3 b4 b5 b6
          obtain ⟨b0, b1, b2, b3, b4, b5, b6, _, _⟩ := id bx5
          by_cases h80 : 80 < depT f.body
          · rw [if_pos h80] at HE
            go_wp2_with fail
            go_ret
            exact ⟨ret_i64 HE.out.symm, q5⟩
          rw [if_neg h80] at HE
          go_wp2_with fail
          refine (rsize_any _ f.body (Nat.le_refl _) hfb (by omega) A3 cp3 _ bx5.ks).mono ?_
          rintro e w6 ⟨rfl, hb6⟩
          have bx6 := bx5.mono hb6
          have q6 := below_step q5 q5.size hb6
          clear bx5 q5 hb6 b0 b1 b2 b3 b4 b5 b6
          obtain ⟨b0, b1, b2, b3, b4, b5, b6, _, _⟩ := id bx6
          by_cases h2k : 2000 < sizeT f.body
          · rw [if_pos h2k] at HE
            go_wp2_with fail
            go_ret
            exact ⟨ret_i64 HE.out.symm, q6⟩
          rw [if_neg h2k] at HE
          go_wp2_with fail
          refine (rchk_any lib _ cap hF _ f.body (Nat.le_refl _) hfb hfo f.params A1 cp1 A3 cp3 _ (HL.out.mono q6) bx6.ps bx6.ks (by omega)).mono ?_
          rintro e w7 ⟨rfl, hb7⟩
          have bx7 := bx6.mono hb7
          have q7 := below_step q6 q6.size hb7
          clear bx6 q6 hb7 b0 b1 b2 b3 b4 b5 b6
          obtain ⟨b0, b1, b2, b3, b4, b5, b6, _, _⟩ := id bx7
          have HE2 := Lib.hid (HE.out.trans (chkE.eq_def lib f))
          clear HE
          by_cases her : (chkT lib f.body (envF f.params)).2 = 0
          rotate_left
          · rw [if_pos her] at HE2
            have her' : ((chkT lib f.body (envF f.params)).2 != 0) = true := by simpa using her
            go_wp2_with fail
            go_ret
            exact ⟨ret_i64 HE2.out.symm, q7⟩
          rw [if_neg (fun h => h her)] at HE2
          rw [her]
          clear bx7
          generalize (chkT lib f.body (envF f.params)).1 = t1 at *
          generalize f.list = fl at *
          cases t1 <;> cases fl
          all_goals
            go_wp2_with fail
            go_ret
            exact ⟨ret_i64 (by rw [HE2.out]; rfl), q7⟩

set_option maxRecDepth 100000 in
set_option maxHeartbeats 1000000 in
theorem rvalid_any (lib : List Fn1) (A : Option Addr) (cap : Nat) (w : World) (hL : LibAt w A lib) (hF : LibFit lib) (hN : FewNodes lib) :
    Calls Try.prog 15 #[.slice A lib.length cap] w fun e w' => e = .returned (.tuple #[.int .i64 (validR lib).1, .int .i64 (validR lib).2]) ∧ Below w.heap.size w w' := by
  have hl := hF.1
  have HL := Lib.hid hL
  clear hL
  go_enter Try.func15, Try.ntmps15
  go_wp2_with fail
  go_loopw [4] (fun i wr => ∃ k : Nat, k ≤ lib.length ∧ i = .int .i64 k ∧ Hid (validR lib = vldL (oneK lib) (lib.length - k) k) ∧ Below w.heap.size w wr) (fun i _ => lib.length - (intOf i).toNat)
  case atStart => exact ⟨0, by omega, rfl, rfl, Below.refl _ _⟩
  case round =>
    obtain ⟨k, hk, rfl, hz, hb⟩ := hrel
    by_cases hin : k < lib.length
    · have hz' := Lib.hid (hz.out.trans (vldL_step hin))
      have hfc := rone_any lib A cap k hin wr (HL.out.mono hb) hF hN
      rw [oneK_at hin] at hfc
      have HFC := Lib.hid hfc
      clear hz hfc
      go_wp2_with fail
      refine HFC.out.mono ?_
      rintro e w1 ⟨rfl, hb1⟩
      have q1 := below_step hb hb.size hb1
      clear HFC hb hb1
      by_cases he : oneK lib k = 0
      · rw [if_neg (fun h => h he)] at hz'
        have he' : (oneK lib k != 0) = false := by rw [he]; rfl
        generalize oneK lib k = ek at *
        clear he
        go_wp2_with fail
        exact ⟨⟨k + 1, by omega, by go_num, hz', q1⟩, by simp [intOf]; omega⟩
      · rw [if_pos he] at hz'
        have he' : (oneK lib k != 0) = true := by simpa using he
        generalize oneK lib k = ek at *
        go_wp2_with fail
        go_ret2
        exact ⟨by rw [hz'.out]; rfl, q1⟩
    · have hz' := Lib.hid (show validR lib = (-1, 0) by rw [hz.out, show lib.length - k = 0 by omega]; rfl)
      clear hz
      go_wp2_with fail
      go_ret2
      exact ⟨by rw [hz'.out]; rfl, hb⟩

end Go.Proofs.Ytoankdaddgjnlaa
