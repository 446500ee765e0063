/-
  Contracts of slices.Equal at bools and of fun.reach.
-/
import Derived.Test.YtoankdaddgjnlaaFunParams
namespace Go.Proofs.Ytoankdaddgjnlaa
open Go.ChangeShapes Go.WideShapes Go.ChangeAt Go.RowKit Go.Sort

def BlsAt (w : World) (A : Option Addr) (l : List Bool) : Prop :=
  ∀ k x, l[k]? = some x → ∃ b o, A = some ⟨b, o, none⟩ ∧ w.cell? ⟨b, o + k, none⟩ = some (.bool x)
theorem BlsAt.mono {w w' : World} {A : Option Addr} {l : List Bool} (h : BlsAt w A l) (hb : Below w.heap.size w w') : BlsAt w' A l := fun k x hk => by
  obtain ⟨b, o, e, h1⟩ := h k x hk
  exact ⟨b, o, e, below_cell hb h1⟩
theorem BlsAt.at_ {w : World} {A : Option Addr} {l : List Bool} (h : BlsAt w A l) {k : Nat} (hk : k < l.length) : ∃ b o, A = some ⟨b, o, none⟩ ∧ w.cell? ⟨b, o + k, none⟩ = some (.bool l[k]) :=
  h k l[k] (List.getElem?_eq_getElem hk)
theorem bls_new (w : World) (T : TypeId) (l : List Bool) (cs : Array Value) (hcs : cs = (l.map Value.bool).toArray) : BlsAt (w.alloc (Obj.cells cs T)) (some ⟨w.heap.size, 0, none⟩) l := fun k x hk => by
  subst hcs
  refine ⟨w.heap.size, 0, rfl, ?_⟩
  simp [go_sem, hk]
theorem bls_nil (w : World) : BlsAt w none [] := fun k x hk => by simp at hk

set_option maxRecDepth 100000 in
set_option maxHeartbeats 1000000 in
theorem eqB_any (l l' : List Bool) (A A' : Option Addr) (cap cap' : Nat) (w : World) (hL : BlsAt w A l) (hL' : BlsAt w A' l') (hl : l.length ≤ 9223372036854775807) (_hl' : l'.length ≤ 9223372036854775807) :
    Calls Try.prog 63 #[.slice A l.length cap, .slice A' l'.length cap'] w fun e w' => e = .returned (.bool (decide (l = l'))) ∧ Below w.heap.size w w' := by
  by_cases hln : l.length = l'.length
  rotate_left
  · have hn := Lib.hid (show decide (l = l') = false by simp; intro e; exact hln (by rw [e]))
    have h1 : ((l.length : Int) != l'.length) = true := bne_iff_ne.2 (by omega)
    clear hln
    go_enter Try.func63, Try.ntmps63
    go_wp2_with fail
    go_ret
    exact ⟨ret_bool hn.out.symm, Below.refl _ _⟩
  have h1 : ((l.length : Int) != l'.length) = false := by rw [hln]; simp
  have HLN := Lib.hid hln
  have HL := Lib.hid hL
  have HL' := Lib.hid hL'
  clear hln hL hL'
  go_enter Try.func63, Try.ntmps63
  go_wp2_with fail
  clear h1
  go_loopw [13] (fun i wr => ∃ k : Nat, k ≤ l.length ∧ i = .int .i64 k ∧ Hid (∀ j, j < k → l[j]? = l'[j]?) ∧ Below w.heap.size w wr) (fun i _ => l.length - (intOf i).toNat)
  case atStart => exact ⟨0, by omega, rfl, fun j hj => by omega, Below.refl _ _⟩
  case round =>
    obtain ⟨k, hk, rfl, hz, hb⟩ := hrel
    by_cases hin : k < l.length
    · have hin' : k < l'.length := by rw [← HLN.out]; exact hin
      obtain ⟨b, o, rfl, hi⟩ := (HL.out.mono hb).at_ hin
      obtain ⟨b', o', rfl, hi'⟩ := (HL'.out.mono hb).at_ hin'
      have HX := Lib.hid (List.getElem?_eq_getElem hin)
      have HY := Lib.hid (List.getElem?_eq_getElem hin')
      generalize l[k] = x at *
      generalize l'[k] = y at *
      have r1 : (0 : Int) ≤ k := by omega
      have r2 : (k : Int) < l.length := by omega
      have r3 : (k : Int) < l'.length := by omega
      by_cases hxy : x = y
      · subst hxy
        have hz' := Lib.hid (fun j (hj : j < k + 1) => show l[j]? = l'[j]? from by
          by_cases e : j = k
          · rw [e, HX.out, HY.out]
          · exact hz.out j (by omega))
        clear hz HX HY
        go_wp2_with fail
        go_quiet (fail)
        go_wp2_with fail
        exact ⟨⟨k + 1, by omega, by go_num, hz', hb.trans ⟨rfl, rfl, rfl, Nat.le_refl _, fun _ _ => rfl⟩⟩, by simp [intOf]; omega⟩
      · have hn := Lib.hid (show decide (l = l') = false by
          simp; intro e
          have h2 := HX.out; rw [e, HY.out] at h2
          exact hxy (Option.some.inj h2).symm)
        clear hz HX HY
        have hc : (x = true ∧ y = false) ∨ (x = false ∧ y = true) := by cases x <;> cases y <;> simp at hxy ⊢
        clear hxy
        rcases hc with ⟨rfl, rfl⟩ | ⟨rfl, rfl⟩
        all_goals
          go_wp2_with fail
          go_quiet (fail)
          go_wp2_with fail
          go_ret
          exact ⟨ret_bool hn.out.symm, hb.trans ⟨rfl, rfl, rfl, Nat.le_refl _, fun _ _ => rfl⟩⟩
    · have hn := Lib.hid (show decide (l = l') = true by
        simp
        apply List.ext_getElem?
        intro j
        by_cases hj : j < k
        · exact hz.out j hj
        · have := HLN.out
          rw [List.getElem?_eq_none (by omega), List.getElem?_eq_none (by omega)])
      clear hz
      go_wp2_with fail
      go_ret
      exact ⟨ret_bool hn.out.symm, hb⟩

theorem findF_range (s : ByteArray) : ∀ (l : List Fn1) (k : Nat), findF l s k = -1 ∨ ∃ i : Nat, i < l.length ∧ findF l s k = ((k + i : Nat) : Int) ∧ ∃ h : i < l.length, l[i].name = s
  | [], k => .inl rfl
  | f :: r, k => by
    unfold findF
    by_cases h : (f.name.toList == s.toList) = true
    · rw [if_pos h]
      exact .inr ⟨0, by simp, by simp, by simp, by simpa using eqS_iff.1 h⟩
    · rw [if_neg h]
      rcases findF_range s r (k + 1) with e | ⟨i, h1, h2, _, h3⟩
      · exact .inl e
      · exact .inr ⟨i + 1, by simpa using h1, by rw [h2]; omega, by simpa using h1, by simpa using h3⟩

/-- The error on reaching a node. -/
def reachE (lib : List Fn1) (env : ByteArray → Option Bool) (x : Nd) : Int :=
  if x.kind = 81 then (if (env x.name).isSome = true then 0 else 6)
  else if x.kind = 84 then (if (env x.name).isSome = true then 22 else 0)
  else if x.kind = 85 then (if findF lib x.name 0 < 0 then 6 else if x.kids.length ≠ ((lib[(findF lib x.name 0).toNat]?).map fun f => f.params.length).getD 0 then 7 else 0)
  else 0

theorem kind3 (k : Nat) : (((k : Int) == 81) = true ∧ k = 81) ∨ (((k : Int) == 81) = false ∧ ((k : Int) == 84) = true ∧ k = 84) ∨ (((k : Int) == 81) = false ∧ ((k : Int) == 84) = false ∧ ((k : Int) == 85) = true ∧ k = 85) ∨ (((k : Int) == 81) = false ∧ ((k : Int) == 84) = false ∧ ((k : Int) == 85) = false ∧ (k ≠ 81 ∧ k ≠ 84 ∧ k ≠ 85)) := by
  by_cases h1 : k = 81
  · exact .inl ⟨by rw [h1]; rfl, h1⟩
  · by_cases h2 : k = 84
    · exact .inr (.inl ⟨beqK (n := 81) h1, by rw [h2]; rfl, h2⟩)
    · by_cases h3 : k = 85
      · exact .inr (.inr (.inl ⟨beqK (n := 81) h1, beqK (n := 84) h2, by rw [h3]; rfl, h3⟩))
      · exact .inr (.inr (.inr ⟨beqK (n := 81) h1, beqK (n := 84) h2, beqK (n := 85) h3, h1, h2, h3⟩))

set_option maxRecDepth 100000 in
set_option maxHeartbeats 2000000 in
theorem reach_any (lib : List Fn1) (A : Option Addr) (cap : Nat) (bm n sz : Nat) (env : ByteArray → Option Bool) (x : Nd) (Ak : Option Addr) (ck : Nat) (w : World) (hL : LibAt w A lib) (hF : LibFit lib) (hM : MapB w bm n sz env) (hK : NdsAt w Ak x.kids) (hfit : NdFit x) :
    Calls Try.prog 57 #[.slice A lib.length cap, .map (some bm), .agg #[.int .u8 x.kind, .int .i64 x.num, .string x.name, .slice Ak x.kids.length ck]] w fun e w' => e = .returned (.int .i64 (reachE lib env x)) ∧ Below w.heap.size w w' := by
  obtain ⟨hf1, hf2, hf3, hf4⟩ := hfit.facts
  have hl := hF.1
  have HF := Lib.hid hF.2
  have hbW := below_box w (Obj.cells #[.int .u8 x.kind, .int .i64 x.num, .string x.name, .slice Ak x.kids.length ck] 41)
  have bx := ndB_box w 41 x Ak ck hK
  have HL := Lib.hid (hL.mono hbW)
  have HM := Lib.hid (hM.below hbW)
  clear hK hL hM hF
  rcases kind3 x.kind with ⟨k1, k1'⟩ | ⟨k1, k2, k2'⟩ | ⟨k1, k2, k3, k3'⟩ | ⟨k1, k2, k3, k3'⟩
  · have K := Lib.hid k1'
    clear k1'
    cases he : env x.name with
    | none =>
      have hR := Lib.hid (show reachE lib env x = 6 by unfold reachE; rw [if_pos K.out, he]; rfl)
      go_enter Try.func57, Try.ntmps57
      go_wp2_with (at_lookup; refine wpList_look_ok_B _ rfl _ _ 117 rfl Try.underlying117 bm n sz env rfl HM.out x.name rfl hf3 ?_; simp only [he, Option.getD_none, Option.isSome_none])
      go_ret
      exact ⟨ret_i64 hR.out.symm, hbW⟩
    | some v =>
      have hR := Lib.hid (show reachE lib env x = 0 by unfold reachE; rw [if_pos K.out, he]; rfl)
      go_enter Try.func57, Try.ntmps57
      go_wp2_with (at_lookup; refine wpList_look_ok_B _ rfl _ _ 117 rfl Try.underlying117 bm n sz env rfl HM.out x.name rfl hf3 ?_; simp only [he, Option.getD_some, Option.isSome_some])
      go_ret
      exact ⟨ret_i64 hR.out.symm, hbW⟩
  · have hn1 := Lib.hid (show ¬ x.kind = 81 by omega)
    have K := Lib.hid k2'
    clear k2'
    cases he : env x.name with
    | none =>
      have hR := Lib.hid (show reachE lib env x = 0 by unfold reachE; rw [if_neg hn1.out, if_pos K.out, he]; rfl)
      go_enter Try.func57, Try.ntmps57
      go_wp2_with (at_lookup; refine wpList_look_ok_B _ rfl _ _ 117 rfl Try.underlying117 bm n sz env rfl HM.out x.name rfl hf3 ?_; simp only [he, Option.getD_none, Option.isSome_none])
      go_ret
      exact ⟨ret_i64 hR.out.symm, hbW⟩
    | some v =>
      have hR := Lib.hid (show reachE lib env x = 22 by unfold reachE; rw [if_neg hn1.out, if_pos K.out, he]; rfl)
      go_enter Try.func57, Try.ntmps57
      go_wp2_with (at_lookup; refine wpList_look_ok_B _ rfl _ _ 117 rfl Try.underlying117 bm n sz env rfl HM.out x.name rfl hf3 ?_; simp only [he, Option.getD_some, Option.isSome_some])
      go_ret
      exact ⟨ret_i64 hR.out.symm, hbW⟩
  · have hn1 : ¬ x.kind = 81 := by omega
    have hn2 : ¬ x.kind = 84 := by omega
    have hR0 := Lib.hid (show reachE lib env x = if findF lib x.name 0 < 0 then 6 else if x.kids.length ≠ ((lib[(findF lib x.name 0).toNat]?).map fun f => f.params.length).getD 0 then 7 else 0 by unfold reachE; rw [if_neg hn1, if_neg hn2, if_pos k3'])
    clear hn1 hn2 k3'
    go_enter Try.func57, Try.ntmps57
    go_wp2_with (at_lookup; refine wpList_look_ok_B _ rfl _ _ 117 rfl Try.underlying117 bm n sz env rfl HM.out x.name rfl hf3 ?_)
    generalize w.alloc _ = W at hbW bx HL HM ⊢
    refine (find_any lib A cap x.name _ HL.out hl).mono ?_
    rintro e w1 ⟨rfl, hb1⟩
    have q1 := below_step hbW hbW.size hb1
    have bx1 := bx.mono hb1
    obtain ⟨e0, e1, e2, e3, ek⟩ := id bx1
    clear ek
    rcases findF_range x.name lib 0 with hf | ⟨i, hi, hf, _, _⟩
    · have hR := Lib.hid (hR0.out.trans (if_pos (by rw [hf]; omega)))
      rw [hf]
      go_wp2_with fail
      go_ret
      exact ⟨ret_i64 hR.out.symm, q1⟩
    · rw [Nat.zero_add] at hf
      rw [hf] at hR0 ⊢
      have hlib := (HL.out.mono hb1)
      obtain ⟨b, o, rfl, hfo⟩ := hlib.at_ hi
      have hget : lib[i]? = some lib[i] := List.getElem?_eq_getElem hi
      obtain ⟨_, hpf, _⟩ := HF.out i _ hget
      have hpl := hpf.1
      have hR1 := Lib.hid (show reachE lib env x = if x.kids.length ≠ lib[i].params.length then 7 else 0 by rw [hR0.out, if_neg (by omega), Int.toNat_natCast, hget]; rfl)
      generalize lib[i] = f at *
      obtain ⟨c0, ⟨A1, cp1, c1, _⟩, c2, _⟩ := id hfo
      clear hR0 hget hlib hpf
      have r1 : (0 : Int) ≤ i := by omega
      have r2 : (i : Int) < lib.length := by omega
      by_cases hne : x.kids.length = f.params.length
      · have hR := Lib.hid (hR1.out.trans (if_neg (fun h => h hne)))
        have hb' : ((x.kids.length : Int) != f.params.length) = false := by rw [hne]; simp
        clear hne
        go_wp2_with fail
        go_quiet (fail)
        go_wp2_with fail
        go_ret
        exact ⟨ret_i64 hR.out.symm, q1.trans ⟨rfl, rfl, rfl, Nat.le_refl _, fun _ _ => rfl⟩⟩
      · have hR := Lib.hid (hR1.out.trans (if_pos hne))
        have hb' : ((x.kids.length : Int) != f.params.length) = true := bne_iff_ne.2 (by omega)
        clear hne
        go_wp2_with fail
        go_quiet (fail)
        go_wp2_with fail
        go_ret
        exact ⟨ret_i64 hR.out.symm, q1.trans ⟨rfl, rfl, rfl, Nat.le_refl _, fun _ _ => rfl⟩⟩
  · have hR := Lib.hid (show reachE lib env x = 0 by unfold reachE; rw [if_neg (by omega), if_neg (by omega), if_neg (by omega)])
    go_enter Try.func57, Try.ntmps57
    go_wp2_with (at_lookup; refine wpList_look_ok_B _ rfl _ _ 117 rfl Try.underlying117 bm n sz env rfl HM.out x.name rfl hf3 ?_)
    go_ret
    exact ⟨ret_i64 hR.out.symm, hbW⟩

end Go.Proofs.Ytoankdaddgjnlaa
