/-
  Contracts of slices.Equal at bools and of fun.reach.
  The contract of fun.result.
-/
import Derived.Test.YtcoeakdpcigogaaDoorFunParams
import Derived.WalkSpells
import Derived.Deep.AppendLies
namespace Go.Proofs.YtcoeakdpcigogaaDoor
open Go.ChangeShapes Go.WideShapes Go.ChangeAt Go.RowKit Go.Sort

def BlsAt (w : World) (A : Option Addr) (l : List Bool) : Prop :=
  ∀ k x, l[k]? = some x → ∃ b o, A = some ⟨b, o, none⟩ ∧ w.cell? ⟨b, o + k, none⟩ = some (.bool x)
theorem BlsAt.mono {w w' : World} {A : Option Addr} {l : List Bool} (h : BlsAt w A l) (hb : Below w.heap.size w w') : BlsAt w' A l := fun k x hk => by
  obtain ⟨b, o, e, h1⟩ := h k x hk
  exact ⟨b, o, e, below_cell hb h1⟩
theorem BlsAt.at_ {w : World} {A : Option Addr} {l : List Bool} (h : BlsAt w A l) {k : Nat} (hk : k < l.length) : ∃ b o, A = some ⟨b, o, none⟩ ∧ w.cell? ⟨b, o + k, none⟩ = some (.bool l[k]) :=
  h k l[k] (List.getElem?_eq_getElem hk)
theorem bls_new (w : World) (T : TypeId) (l : List Bool) (cs : Array Value) (hcs : cs = (l.map Value.bool).toArray) : BlsAt (w.alloc (Obj.cells cs T)) (some ⟨w.heap.size, 0, none⟩) l := fun k x hk => by
  subst hcs
  refine ⟨w.heap.size, 0, rfl, ?_⟩
  simp [go_sem, hk]
theorem bls_nil (w : World) : BlsAt w none [] := fun k x hk => by simp at hk

set_option maxRecDepth 100000 in
set_option maxHeartbeats 1000000 in
theorem eqB_any (l l' : List Bool) (A A' : Option Addr) (cap cap' : Nat) (w : World) (hL : BlsAt w A l) (hL' : BlsAt w A' l') (hl : l.length ≤ 9223372036854775807) (_hl' : l'.length ≤ 9223372036854775807) :
    Calls Tryd.prog 71 #[.slice A l.length cap, .slice A' l'.length cap'] w fun e w' => e = .returned (.bool (decide (l = l'))) ∧ Below w.heap.size w w' := by
  by_cases hln : l.length = l'.length
  rotate_left
  · have hn := Lib.hid (show decide (l = l') = false by simp; intro e; exact hln (by rw [e]))
    have h1 : ((l.length : Int) != l'.length) = true := bne_iff_ne.2 (by omega)
    clear hln
    go_enter Tryd.func71, Tryd.ntmps71
    go_wp2_with fail
    go_ret
    exact ⟨ret_bool hn.out.symm, Below.refl _ _⟩
  have h1 : ((l.length : Int) != l'.length) = false := by rw [hln]; simp
  have HLN := Lib.hid hln
  have HL := Lib.hid hL
  have HL' := Lib.hid hL'
  clear hln hL hL'
  go_enter Tryd.func71, Tryd.ntmps71
  go_wp2_with fail
  clear h1
  go_loopw [13] (fun i wr => ∃ k : Nat, k ≤ l.length ∧ i = .int .i64 k ∧ Hid (∀ j, j < k → l[j]? = l'[j]?) ∧ Below w.heap.size w wr) (fun i _ => l.length - (intOf i).toNat)
  case atStart => exact ⟨0, by omega, rfl, fun j hj => by omega, Below.refl _ _⟩
  case round =>
    obtain ⟨k, hk, rfl, hz, hb⟩ := hrel
    by_cases hin : k < l.length
    · have hin' : k < l'.length := by rw [← HLN.out]; exact hin
      obtain ⟨b, o, rfl, hi⟩ := (HL.out.mono hb).at_ hin
      obtain ⟨b', o', rfl, hi'⟩ := (HL'.out.mono hb).at_ hin'
      have HX := Lib.hid (List.getElem?_eq_getElem hin)
      have HY := Lib.hid (List.getElem?_eq_getElem hin')
      generalize l[k] = x at *
      generalize l'[k] = y at *
      have r1 : (0 : Int) ≤ k := by omega
      have r2 : (k : Int) < l.length := by omega
      have r3 : (k : Int) < l'.length := by omega
      by_cases hxy : x = y
      · subst hxy
        have hz' := Lib.hid (fun j (hj : j < k + 1) => show l[j]? = l'[j]? from by
          by_cases e : j = k
          · rw [e, HX.out, HY.out]
          · exact hz.out j (by omega))
        clear hz HX HY
        go_wp2_with fail
        go_quiet (fail)
        go_wp2_with fail
        exact ⟨⟨k + 1, by omega, by go_num, hz', hb.trans ⟨rfl, rfl, rfl, Nat.le_refl _, fun _ _ => rfl⟩⟩, by simp [intOf]; omega⟩
      · have hn := Lib.hid (show decide (l = l') = false by
          simp; intro e
          have h2 := HX.out; rw [e, HY.out] at h2
          exact hxy (Option.some.inj h2).symm)
        clear hz HX HY
        have hc : (x = true ∧ y = false) ∨ (x = false ∧ y = true) := by cases x <;> cases y <;> simp at hxy ⊢
        clear hxy
        rcases hc with ⟨rfl, rfl⟩ | ⟨rfl, rfl⟩
        all_goals
          go_wp2_with fail
          go_quiet (fail)
          go_wp2_with fail
          go_ret
          exact ⟨ret_bool hn.out.symm, hb.trans ⟨rfl, rfl, rfl, Nat.le_refl _, fun _ _ => rfl⟩⟩
    · have hn := Lib.hid (show decide (l = l') = true by
        simp
        apply List.ext_getElem?
        intro j
        by_cases hj : j < k
        · exact hz.out j hj
        · have := HLN.out
          rw [List.getElem?_eq_none (by omega), List.getElem?_eq_none (by omega)])
      clear hz
      go_wp2_with fail
      go_ret
      exact ⟨ret_bool hn.out.symm, hb⟩

theorem findF_range (s : ByteArray) : ∀ (l : List Fn1) (k : Nat), findF l s k = -1 ∨ ∃ i : Nat, i < l.length ∧ findF l s k = ((k + i : Nat) : Int) ∧ ∃ h : i < l.length, l[i].name = s
  | [], k => .inl rfl
  | f :: r, k => by
    unfold findF
    by_cases h : (f.name.toList == s.toList) = true
    · rw [if_pos h]
      exact .inr ⟨0, by simp, by simp, by simp, by simpa using eqS_iff.1 h⟩
    · rw [if_neg h]
      rcases findF_range s r (k + 1) with e | ⟨i, h1, h2, _, h3⟩
      · exact .inl e
      · exact .inr ⟨i + 1, by simpa using h1, by rw [h2]; omega, by simpa using h1, by simpa using h3⟩

/-- The error on reaching a node. -/
def reachE (lib : List Fn1) (env : ByteArray → Option Bool) (x : Nd) : Int :=
  if x.kind = 81 then (if (env x.name).isSome = true then 0 else 6)
  else if x.kind = 84 then (if (env x.name).isSome = true then 22 else 0)
  else if x.kind = 85 then (if findF lib x.name 0 < 0 then 6 else if x.kids.length ≠ ((lib[(findF lib x.name 0).toNat]?).map fun f => f.params.length).getD 0 then 7 else 0)
  else 0

theorem kind3 (k : Nat) : (((k : Int) == 81) = true ∧ k = 81) ∨ (((k : Int) == 81) = false ∧ ((k : Int) == 84) = true ∧ k = 84) ∨ (((k : Int) == 81) = false ∧ ((k : Int) == 84) = false ∧ ((k : Int) == 85) = true ∧ k = 85) ∨ (((k : Int) == 81) = false ∧ ((k : Int) == 84) = false ∧ ((k : Int) == 85) = false ∧ (k ≠ 81 ∧ k ≠ 84 ∧ k ≠ 85)) := by
  by_cases h1 : k = 81
  · exact .inl ⟨by rw [h1]; rfl, h1⟩
  · by_cases h2 : k = 84
    · exact .inr (.inl ⟨beqK (n := 81) h1, by rw [h2]; rfl, h2⟩)
    · by_cases h3 : k = 85
      · exact .inr (.inr (.inl ⟨beqK (n := 81) h1, beqK (n := 84) h2, by rw [h3]; rfl, h3⟩))
      · exact .inr (.inr (.inr ⟨beqK (n := 81) h1, beqK (n := 84) h2, beqK (n := 85) h3, h1, h2, h3⟩))

set_option maxRecDepth 100000 in
set_option maxHeartbeats 2000000 in
theorem reach_any (lib : List Fn1) (A : Option Addr) (cap : Nat) (bm n sz : Nat) (env : ByteArray → Option Bool) (x : Nd) (Ak : Option Addr) (ck : Nat) (w : World) (hL : LibAt w A lib) (hF : LibFit lib) (hM : MapB w bm n sz env) (hK : NdsAt w Ak x.kids) (hfit : NdFit x) :
    Calls Tryd.prog 66 #[.slice A lib.length cap, .map (some bm), .agg #[.int .u8 x.kind, .int .i64 x.num, .string x.name, .slice Ak x.kids.length ck]] w fun e w' => e = .returned (.int .i64 (reachE lib env x)) ∧ Below w.heap.size w w' := by
  obtain ⟨hf1, hf2, hf3, hf4⟩ := hfit.facts
  have hl := hF.1
  have HF := Lib.hid hF.2
  have hbW := below_box w (Obj.cells #[.int .u8 x.kind, .int .i64 x.num, .string x.name, .slice Ak x.kids.length ck] 53)
  have bx := ndB_box w 53 x Ak ck hK
  have HL := Lib.hid (hL.mono hbW)
  have HM := Lib.hid (hM.below hbW)
  clear hK hL hM hF
  rcases kind3 x.kind with ⟨k1, k1'⟩ | ⟨k1, k2, k2'⟩ | ⟨k1, k2, k3, k3'⟩ | ⟨k1, k2, k3, k3'⟩
  · have K := Lib.hid k1'
    clear k1'
    cases he : env x.name with
    | none =>
      have hR := Lib.hid (show reachE lib env x = 6 by unfold reachE; rw [if_pos K.out, he]; rfl)
      go_enter Tryd.func66, Tryd.ntmps66
      go_wp2_with (at_lookup; refine wpList_look_ok_B _ rfl _ _ 122 rfl Tryd.underlying122 bm n sz env rfl HM.out x.name rfl hf3 ?_; simp only [he, Option.getD_none, Option.isSome_none])
      go_ret
      exact ⟨ret_i64 hR.out.symm, hbW⟩
    | some v =>
      have hR := Lib.hid (show reachE lib env x = 0 by unfold reachE; rw [if_pos K.out, he]; rfl)
      go_enter Tryd.func66, Tryd.ntmps66
      go_wp2_with (at_lookup; refine wpList_look_ok_B _ rfl _ _ 122 rfl Tryd.underlying122 bm n sz env rfl HM.out x.name rfl hf3 ?_; simp only [he, Option.getD_some, Option.isSome_some])
      go_ret
      exact ⟨ret_i64 hR.out.symm, hbW⟩
  · have hn1 := Lib.hid (show ¬ x.kind = 81 by omega)
    have K := Lib.hid k2'
    clear k2'
    cases he : env x.name with
    | none =>
      have hR := Lib.hid (show reachE lib env x = 0 by unfold reachE; rw [if_neg hn1.out, if_pos K.out, he]; rfl)
      go_enter Tryd.func66, Tryd.ntmps66
      go_wp2_with (at_lookup; refine wpList_look_ok_B _ rfl _ _ 122 rfl Tryd.underlying122 bm n sz env rfl HM.out x.name rfl hf3 ?_; simp only [he, Option.getD_none, Option.isSome_none])
      go_ret
      exact ⟨ret_i64 hR.out.symm, hbW⟩
    | some v =>
      have hR := Lib.hid (show reachE lib env x = 22 by unfold reachE; rw [if_neg hn1.out, if_pos K.out, he]; rfl)
      go_enter Tryd.func66, Tryd.ntmps66
      go_wp2_with (at_lookup; refine wpList_look_ok_B _ rfl _ _ 122 rfl Tryd.underlying122 bm n sz env rfl HM.out x.name rfl hf3 ?_; simp only [he, Option.getD_some, Option.isSome_some])
      go_ret
      exact ⟨ret_i64 hR.out.symm, hbW⟩
  · have hn1 : ¬ x.kind = 81 := by omega
    have hn2 : ¬ x.kind = 84 := by omega
    have hR0 := Lib.hid (show reachE lib env x = if findF lib x.name 0 < 0 then 6 else if x.kids.length ≠ ((lib[(findF lib x.name 0).toNat]?).map fun f => f.params.length).getD 0 then 7 else 0 by unfold reachE; rw [if_neg hn1, if_neg hn2, if_pos k3'])
    clear hn1 hn2 k3'
    go_enter Tryd.func66, Tryd.ntmps66
    go_wp2_with (at_lookup; refine wpList_look_ok_B _ rfl _ _ 122 rfl Tryd.underlying122 bm n sz env rfl HM.out x.name rfl hf3 ?_)
    generalize w.alloc _ = W at hbW bx HL HM ⊢
    refine (find_any lib A cap x.name _ HL.out hl).mono ?_
    rintro e w1 ⟨rfl, hb1⟩
    have q1 := below_step hbW hbW.size hb1
    have bx1 := bx.mono hb1
    obtain ⟨e0, e1, e2, e3, ek⟩ := id bx1
    clear ek
    rcases findF_range x.name lib 0 with hf | ⟨i, hi, hf, _, _⟩
    · have hR := Lib.hid (hR0.out.trans (if_pos (by rw [hf]; omega)))
      rw [hf]
      go_wp2_with fail
      go_ret
      exact ⟨ret_i64 hR.out.symm, q1⟩
    · rw [Nat.zero_add] at hf
      rw [hf] at hR0 ⊢
      have hlib := (HL.out.mono hb1)
      obtain ⟨b, o, rfl, hfo⟩ := hlib.at_ hi
      have hget : lib[i]? = some lib[i] := List.getElem?_eq_getElem hi
      obtain ⟨_, hpf, _⟩ := HF.out i _ hget
      have hpl := hpf.1
      have hR1 := Lib.hid (show reachE lib env x = if x.kids.length ≠ lib[i].params.length then 7 else 0 by rw [hR0.out, if_neg (by omega), Int.toNat_natCast, hget]; rfl)
      generalize lib[i] = f at *
      obtain ⟨c0, ⟨A1, cp1, c1, _⟩, c2, _⟩ := id hfo
      clear hR0 hget hlib hpf
      have r1 : (0 : Int) ≤ i := by omega
      have r2 : (i : Int) < lib.length := by omega
      by_cases hne : x.kids.length = f.params.length
      · have hR := Lib.hid (hR1.out.trans (if_neg (fun h => h hne)))
        have hb' : ((x.kids.length : Int) != f.params.length) = false := by rw [hne]; simp
        clear hne
        go_wp2_with fail
        go_quiet (fail)
        go_wp2_with fail
        go_ret
        exact ⟨ret_i64 hR.out.symm, q1.trans ⟨rfl, rfl, rfl, Nat.le_refl _, fun _ _ => rfl⟩⟩
      · have hR := Lib.hid (hR1.out.trans (if_pos hne))
        have hb' : ((x.kids.length : Int) != f.params.length) = true := bne_iff_ne.2 (by omega)
        clear hne
        go_wp2_with fail
        go_quiet (fail)
        go_wp2_with fail
        go_ret
        exact ⟨ret_i64 hR.out.symm, q1.trans ⟨rfl, rfl, rfl, Nat.le_refl _, fun _ _ => rfl⟩⟩
  · have hR := Lib.hid (show reachE lib env x = 0 by unfold reachE; rw [if_neg (by omega), if_neg (by omega), if_neg (by omega)])
    go_enter Tryd.func66, Tryd.ntmps66
    go_wp2_with (at_lookup; refine wpList_look_ok_B _ rfl _ _ 122 rfl Tryd.underlying122 bm n sz env rfl HM.out x.name rfl hf3 ?_)
    go_ret
    exact ⟨ret_i64 hR.out.symm, hbW⟩

end Go.Proofs.YtcoeakdpcigogaaDoor

namespace Go.Proofs.YtcoeakdpcigogaaDoor
open Go.ChangeShapes Go.WideShapes Go.ChangeAt Go.RowKit Go.Sort

/-- What the children's types must be, and the node's own type. -/
def wantR (lib : List Fn1) (x : Nd) (ts : List Bool) : List Bool × Bool :=
  if x.kind = 82 then ([false, false], false)
  else if x.kind = 83 then ([false, ts.getD 1 false, ts.getD 1 false], ts.getD 1 false)
  else if x.kind = 84 then (ts, ts.getD 1 false)
  else if x.kind = 85 then (match lib[(findF lib x.name 0).toNat]? with | some f => (f.params.map Pm.list, f.list) | none => ([], false))
  else if x.kind = 86 then ([], true)
  else if x.kind = 87 then ([false, true], true)
  else if x.kind = 88 ∨ x.kind = 90 then ([true], false)
  else if x.kind = 89 then ([true], true)
  else ([], false)
def resQ (ts : List Bool) (q : List Bool × Bool) : Bool × Int := if ts = q.1 then (q.2, 0) else (false, 7)
def resR (lib : List Fn1) (x : Nd) (ts : List Bool) : Bool × Int := resQ ts (wantR lib x ts)
theorem info_bool : (Tryd.prog.info? 4).map (fun i => (i.zero, i.size, i.bytes)) = some (some (.bool false), 1, 1) := by kernel_rfl
theorem add0 (g j : Nat) : (⟨g, 0, none⟩ : Addr).add j = ⟨g, j, none⟩ := by
  unfold Addr.add; by_cases h : j = 0 <;> simp [h]
theorem one_newB {w : World} {B : Nat} (hB : B = w.heap.size) (v : Value) (T : TypeId) : ∀ (j : Nat) (u : Value), [v][j]? = some u → (w.alloc (Obj.cells #[v] T)).cell? ((⟨B, 0, none⟩ : Addr).add j) = some u := by
  subst hB
  intro j u hj
  cases j with
  | zero => simp at hj; subst hj; rw [add0]; simp [go_sem]
  | succ j => simp at hj
theorem one_bool (v : Bool) : ∀ u : Value, u ∈ [Value.bool v] → u.oneCell' = true := by
  intro u hu; simp at hu; subst hu; rfl
theorem own_block_geB {w : World} {base : Nat} {e : TypeId} {size n : Nat} {v : Value} {xs : List Value} (h : w.ownsRow base e size v n xs) : ∀ g, v.ownBlock = some g → base ≤ g := by
  rcases h.2 with ⟨rfl, _⟩ | ⟨g, cap, cur, rfl, hg, _⟩
  · intro g hg; cases hg
  · intro g' hg'; obtain rfl := Option.some.inj hg'; exact hg
theorem bls_of_own {w : World} {base : Nat} {e : TypeId} {v : Value} {l : List Bool} (h : w.ownsRow base e 1 v l.length (l.map Value.bool)) : ∃ A c, v = .slice A l.length c ∧ BlsAt w A l := by
  obtain ⟨h1, h2⟩ := id h
  rcases h2 with ⟨rfl, h0⟩ | ⟨g, cap, cur, rfl, hg, hh, hc1, hc2, hc3, hc4⟩
  · refine ⟨none, 0, by rw [h0], fun k x hk => ?_⟩
    have : l = [] := List.length_eq_zero_iff.1 h0
    subst this; simp at hk
  · refine ⟨some ⟨g, 0, none⟩, cap, rfl, fun k x hk => ⟨g, 0, rfl, ?_⟩⟩
    have := h.cells (g := g) rfl k (.bool x) (by simp [hk])
    rw [add0] at this; simpa using this
/-- No function has very many parameters. -/
def FewParams (lib : List Fn1) : Prop := ∀ (k : Nat) (f : Fn1), lib[k]? = some f → f.params.length ≤ 400000
theorem kindF {k n : Nat} (h : k ≠ n) : ((k : Int) == (n : Int)) = false := beqK h

set_option maxRecDepth 100000 in
set_option maxHeartbeats 2000000 in
theorem result_any (lib : List Fn1) (A : Option Addr) (cap : Nat) (x : Nd) (Ak : Option Addr) (ck : Nat) (ts : List Bool) (At : Option Addr) (cT : Nat) (w : World) (hL : LibAt w A lib) (hF : LibFit lib) (hfit : NdFit x) (hts : BlsAt w At ts) (hlt : ts.length ≤ 9223372036854775807)
    (h2 : (x.kind = 83 ∨ x.kind = 84) → 2 ≤ ts.length) (h85 : x.kind = 85 → 0 ≤ findF lib x.name 0) (hP : FewParams lib) :
    Calls Tryd.prog 67 #[.slice A lib.length cap, .agg #[.int .u8 x.kind, .int .i64 x.num, .string x.name, .slice Ak x.kids.length ck], .slice At ts.length cT] w fun e w' => e = .returned (.tuple #[.bool (resR lib x ts).1, .int .i64 (resR lib x ts).2]) ∧ Below w.heap.size w w' := by
  obtain ⟨hf1, hf2, hf3, hf4⟩ := hfit.facts
  have hl := hF.1
  have HF := Lib.hid hF.2
  have hbW := below_box w (Obj.cells #[.int .u8 x.kind, .int .i64 x.num, .string x.name, .slice Ak x.kids.length ck] 53)
  clear hF
  rcases kind_cases x.kind with h | h | h | h | h | h | h | h | h | h | h | h
  case inl =>
    have hW := Lib.hid (show resR lib x ts = resQ ts ([], false) by unfold resR wantR; rw [if_neg (by omega), if_neg (by omega), if_neg (by omega), if_neg (by omega), if_neg (by omega), if_neg (by omega), if_neg (by omega), if_neg (by omega)])
    have k82 : ((x.kind : Int) == 82) = false := by rw [h]; rfl
    have k83 : ((x.kind : Int) == 83) = false := by rw [h]; rfl
    have k84 : ((x.kind : Int) == 84) = false := by rw [h]; rfl
    have k85 : ((x.kind : Int) == 85) = false := by rw [h]; rfl
    have k86 : ((x.kind : Int) == 86) = false := by rw [h]; rfl
    have k87 : ((x.kind : Int) == 87) = false := by rw [h]; rfl
    have k88 : ((x.kind : Int) == 88) = false := by rw [h]; rfl
    have k90 : ((x.kind : Int) == 90) = false := by rw [h]; rfl
    have k89 : ((x.kind : Int) == 89) = false := by rw [h]; rfl
    clear h h2 h85
    go_enter Tryd.func67, Tryd.ntmps67
    go_wp2_with fail
    have hts2 := hts.mono hbW
    have q2 := hbW
    clear hbW
    generalize World.alloc _ _ = W2 at hts2 q2 ⊢
    have hw2 := bls_nil W2
    refine (eqB_any ts [] _ _ cT 0 _ hts2 hw2 hlt (by simp)).mono ?_
    rintro e w3 ⟨rfl, hb3⟩
    have q3 := below_step q2 q2.size hb3
    by_cases heq : ts = []
    · have hR := Lib.hid (show resR lib x ts = (false, 0) by rw [hW.out]; unfold resQ; rw [if_pos heq])
      have hd : decide (ts = []) = true := by simpa using heq
      go_wp2_with fail
      go_ret2
      exact ⟨by rw [hR.out]; rfl, q3⟩
    · have hR := Lib.hid (show resR lib x ts = (false, 7) by rw [hW.out]; unfold resQ; rw [if_neg heq])
      have hd : decide (ts = []) = false := by simpa using heq
      go_wp2_with fail
      go_ret2
      exact ⟨by rw [hR.out]; rfl, q3⟩
  case inr.inl =>
    have hW := Lib.hid (show resR lib x ts = resQ ts ([], false) by unfold resR wantR; rw [if_neg (by omega), if_neg (by omega), if_neg (by omega), if_neg (by omega), if_neg (by omega), if_neg (by omega), if_neg (by omega), if_neg (by omega)])
    have k82 : ((x.kind : Int) == 82) = false := by rw [h]; rfl
    have k83 : ((x.kind : Int) == 83) = false := by rw [h]; rfl
    have k84 : ((x.kind : Int) == 84) = false := by rw [h]; rfl
    have k85 : ((x.kind : Int) == 85) = false := by rw [h]; rfl
    have k86 : ((x.kind : Int) == 86) = false := by rw [h]; rfl
    have k87 : ((x.kind : Int) == 87) = false := by rw [h]; rfl
    have k88 : ((x.kind : Int) == 88) = false := by rw [h]; rfl
    have k90 : ((x.kind : Int) == 90) = false := by rw [h]; rfl
    have k89 : ((x.kind : Int) == 89) = false := by rw [h]; rfl
    clear h h2 h85
    go_enter Tryd.func67, Tryd.ntmps67
    go_wp2_with fail
    have hts2 := hts.mono hbW
    have q2 := hbW
    clear hbW
    generalize World.alloc _ _ = W2 at hts2 q2 ⊢
    have hw2 := bls_nil W2
    refine (eqB_any ts [] _ _ cT 0 _ hts2 hw2 hlt (by simp)).mono ?_
    rintro e w3 ⟨rfl, hb3⟩
    have q3 := below_step q2 q2.size hb3
    by_cases heq : ts = []
    · have hR := Lib.hid (show resR lib x ts = (false, 0) by rw [hW.out]; unfold resQ; rw [if_pos heq])
      have hd : decide (ts = []) = true := by simpa using heq
      go_wp2_with fail
      go_ret2
      exact ⟨by rw [hR.out]; rfl, q3⟩
    · have hR := Lib.hid (show resR lib x ts = (false, 7) by rw [hW.out]; unfold resQ; rw [if_neg heq])
      have hd : decide (ts = []) = false := by simpa using heq
      go_wp2_with fail
      go_ret2
      exact ⟨by rw [hR.out]; rfl, q3⟩
  case inr.inr.inl =>
    have hW := Lib.hid (show resR lib x ts = resQ ts ([false, false], false) by unfold resR wantR; rw [if_pos h])
    have k82 : ((x.kind : Int) == 82) = true := by rw [h]; rfl
    clear h h2 h85
    have hwn := bls_new (w.alloc (Obj.cells #[.int .u8 x.kind, .int .i64 x.num, .string x.name, .slice Ak x.kids.length ck] 53)) 4 [false, false] _ rfl
    have hbn := below_box (w.alloc (Obj.cells #[.int .u8 x.kind, .int .i64 x.num, .string x.name, .slice Ak x.kids.length ck] 53)) (Obj.cells (([false, false] : List Bool).map Value.bool).toArray 4)
    have hsz1 : (w.alloc (Obj.cells #[.int .u8 x.kind, .int .i64 x.num, .string x.name, .slice Ak x.kids.length ck] 53)).heap.size = w.heap.size + 1 := by simp
    rw [hsz1] at hwn
    simp only [List.map_cons, List.map_nil] at hwn hbn
    go_enter Tryd.func67, Tryd.ntmps67
    go_wp2_with fail
    have hts2 := (hts.mono hbW).mono hbn
    have q2 := below_step hbW hbW.size hbn
    have hw2 := hwn
    clear hwn hbn hsz1 hbW
    generalize World.alloc _ _ = W2 at hts2 q2 hw2 ⊢
    refine (eqB_any ts [false, false] _ _ cT 2 _ hts2 hw2 hlt (by simp)).mono ?_
    rintro e w3 ⟨rfl, hb3⟩
    have q3 := below_step q2 q2.size hb3
    by_cases heq : ts = [false, false]
    · have hR := Lib.hid (show resR lib x ts = (false, 0) by rw [hW.out]; unfold resQ; rw [if_pos heq])
      have hd : decide (ts = [false, false]) = true := by simpa using heq
      go_wp2_with fail
      go_ret2
      exact ⟨by rw [hR.out]; rfl, q3⟩
    · have hR := Lib.hid (show resR lib x ts = (false, 7) by rw [hW.out]; unfold resQ; rw [if_neg heq])
      have hd : decide (ts = [false, false]) = false := by simpa using heq
      go_wp2_with fail
      go_ret2
      exact ⟨by rw [hR.out]; rfl, q3⟩
  case inr.inr.inr.inl =>
    obtain ⟨bt, ot, rfl, ct⟩ := hts.at_ (k := 1) (by have := h2 (by omega); omega)
    have hlen2 : 2 ≤ ts.length := h2 (by omega)
    have hg1 : ts.getD 1 false = ts[1]'(by omega) := by simp [List.getD_eq_getElem?_getD, List.getElem?_eq_getElem (show 1 < ts.length by omega)]
    have hW := Lib.hid (show resR lib x ts = resQ ts ([false, ts[1]'(by omega), ts[1]'(by omega)], ts[1]'(by omega)) by unfold resR wantR; rw [if_neg (by omega), if_pos h, hg1])
    have k82 : ((x.kind : Int) == 82) = false := by rw [h]; rfl
    have k83 : ((x.kind : Int) == 83) = true := by rw [h]; rfl
    have hltb : bt < w.heap.size := block_lt_of_cell ct
    generalize ts[1]'(by omega) = t1 at *
    clear h h2 h85 hg1
    have hwn := bls_new (w.alloc (Obj.cells #[.int .u8 x.kind, .int .i64 x.num, .string x.name, .slice Ak x.kids.length ck] 53)) 4 [false, t1, t1] _ rfl
    have hbn := below_box (w.alloc (Obj.cells #[.int .u8 x.kind, .int .i64 x.num, .string x.name, .slice Ak x.kids.length ck] 53)) (Obj.cells (([false, t1, t1] : List Bool).map Value.bool).toArray 4)
    have hsz1 : (w.alloc (Obj.cells #[.int .u8 x.kind, .int .i64 x.num, .string x.name, .slice Ak x.kids.length ck] 53)).heap.size = w.heap.size + 1 := by simp
    rw [hsz1] at hwn
    simp only [List.map_cons, List.map_nil] at hwn hbn
    go_enter Tryd.func67, Tryd.ntmps67
    go_wp2_with fail
    have hts2 := (hts.mono hbW).mono hbn
    have q2 := below_step hbW hbW.size hbn
    have hw2 := hwn
    clear hwn hbn hsz1 hbW
    generalize World.alloc _ _ = W2 at hts2 q2 hw2 ⊢
    refine (eqB_any ts [false, t1, t1] _ _ cT 3 _ hts2 hw2 hlt (by simp)).mono ?_
    rintro e w3 ⟨rfl, hb3⟩
    have q3 := below_step q2 q2.size hb3
    by_cases heq : ts = [false, t1, t1]
    · have hR := Lib.hid (show resR lib x ts = (t1, 0) by rw [hW.out]; unfold resQ; rw [if_pos heq])
      have hd : decide (ts = [false, t1, t1]) = true := by simpa using heq
      go_wp2_with fail
      go_ret2
      exact ⟨by rw [hR.out]; rfl, q3⟩
    · have hR := Lib.hid (show resR lib x ts = (false, 7) by rw [hW.out]; unfold resQ; rw [if_neg heq])
      have hd : decide (ts = [false, t1, t1]) = false := by simpa using heq
      go_wp2_with fail
      go_ret2
      exact ⟨by rw [hR.out]; rfl, q3⟩
  case inr.inr.inr.inr.inl =>
    obtain ⟨bt, ot, rfl, ct⟩ := hts.at_ (k := 1) (by have := h2 (by omega); omega)
    have hlen2 : 2 ≤ ts.length := h2 (by omega)
    have hg1 : ts.getD 1 false = ts[1]'(by omega) := by simp [List.getD_eq_getElem?_getD, List.getElem?_eq_getElem (show 1 < ts.length by omega)]
    have hW := Lib.hid (show resR lib x ts = resQ ts (ts, ts[1]'(by omega)) by unfold resR wantR; rw [if_neg (by omega), if_neg (by omega), if_pos h, hg1])
    have k82 : ((x.kind : Int) == 82) = false := by rw [h]; rfl
    have k83 : ((x.kind : Int) == 83) = false := by rw [h]; rfl
    have k84 : ((x.kind : Int) == 84) = true := by rw [h]; rfl
    have hltb : bt < w.heap.size := block_lt_of_cell ct
    generalize ts[1]'(by omega) = t1 at *
    clear h h2 h85 hg1
    go_enter Tryd.func67, Tryd.ntmps67
    go_wp2_with fail
    have hts2 := hts.mono hbW
    have q2 := hbW
    clear hbW ct
    generalize World.alloc _ _ = W2 at hts2 q2 ⊢
    refine (eqB_any ts ts _ _ cT cT _ hts2 hts2 hlt hlt).mono ?_
    rintro e w3 ⟨rfl, hb3⟩
    have q3 := below_step q2 q2.size hb3
    have hR := Lib.hid (show resR lib x ts = (t1, 0) by rw [hW.out]; unfold resQ; rw [if_pos rfl])
    have hd : decide (ts = ts) = true := by simp
    go_wp2_with fail
    go_ret2
    exact ⟨by rw [hR.out]; rfl, q3⟩
  case inr.inr.inr.inr.inr.inl =>
    have k82 : ((x.kind : Int) == 82) = false := by rw [h]; rfl
    have k83 : ((x.kind : Int) == 83) = false := by rw [h]; rfl
    have k84 : ((x.kind : Int) == 84) = false := by rw [h]; rfl
    have k85 : ((x.kind : Int) == 85) = true := by rw [h]; rfl
    have h0 := h85 h
    have HW := Lib.hid (show wantR lib x ts = (match lib[(findF lib x.name 0).toNat]? with | some f => (f.params.map Pm.list, f.list) | none => ([], false)) by unfold wantR; rw [if_neg (by omega), if_neg (by omega), if_neg (by omega), if_pos h])
    clear h h2 h85
    obtain ⟨i0, hi0, hz0, hz1, hz2⟩ := info_parts info_bool
    have HI := Lib.hid (And.intro hi0 (And.intro hz0 (And.intro hz1 hz2)))
    clear hi0 hz0 hz1 hz2
    have HL := Lib.hid (hL.mono hbW)
    have hts1 := hts.mono hbW
    clear hL hts
    have bx2 : (w.alloc (Obj.cells #[.int .u8 x.kind, .int .i64 x.num, .string x.name, .slice Ak x.kids.length ck] 53)).cell? ⟨w.heap.size, 2, none⟩ = some (.string x.name) := by simp [go_sem]
    go_enter Tryd.func67, Tryd.ntmps67
    go_wp2_with fail
    generalize World.alloc _ _ = W at hbW HL hts1 bx2 ⊢
    refine (find_any lib A cap x.name _ HL.out hl).mono ?_
    rintro e w1 ⟨rfl, hb1⟩
    have HL1 := Lib.hid (HL.out.mono hb1)
    have hts2 := hts1.mono hb1
    have q1 := below_step hbW hbW.size hb1
    clear HL hts1 hbW hb1 bx2
    rcases findF_range x.name lib 0 with hf | ⟨i, hi, hf, _, hnm⟩
    · omega
    clear hnm
    rw [Nat.zero_add] at hf
    rw [hf] at HW ⊢
    have hget : lib[i]? = some lib[i] := List.getElem?_eq_getElem hi
    obtain ⟨_, hpf, _⟩ := HF.out i _ hget
    have hpl := hpf.1
    have hp1000 := hP i _ hget
    obtain ⟨b, o, rfl, hfo⟩ := HL1.out.at_ hi
    have hW := Lib.hid (show resR lib x ts = resQ ts (lib[i].params.map Pm.list, lib[i].list) by unfold resR; rw [HW.out, Int.toNat_natCast, hget])
    generalize lib[i] = f at *
    have hltb := hfo.lt
    obtain ⟨c0, ⟨A1, cp1, c1, hps⟩, c2, hbody⟩ := id hfo
    obtain ⟨A3, cp3, d0, d1, d2, d3, _⟩ := hbody.open_
    clear hget hpf HW hbody h0 hf
    have hbx := below_box w1 (Obj.cells #[.string f.name, .slice A1 f.params.length cp1, .bool f.list, .int .u8 f.body.kind, .int .i64 f.body.num, .string f.body.name, .slice A3 f.body.kids.length cp3] 55)
    have g2 : (w1.alloc (Obj.cells #[.string f.name, .slice A1 f.params.length cp1, .bool f.list, .int .u8 f.body.kind, .int .i64 f.body.num, .string f.body.name, .slice A3 f.body.kids.length cp3] 55)).cell? ⟨w1.heap.size, 2, none⟩ = some (.bool f.list) := by simp [go_sem]
    go_wp2_with fail
    generalize World.alloc _ _ = W2 at hbx g2 ⊢
    have hts3 := hts2.mono hbx
    have HPS := Lib.hid (hps.mono hbx)
    have q2 := below_step q1 q1.size hbx
    clear c0 c1 c2 d0 d1 d2 d3 hfo hltb hts2 hps hbx q1 HL1
    go_loopw [8, 44] (fun v i wr => ∃ k : Nat, k ≤ f.params.length ∧ i = .int .i64 k ∧ Hid (wr.ownsRow W2.heap.size 4 1 v k ((f.params.take k).map fun p => Value.bool p.list)) ∧ Below W2.heap.size W2 wr) (fun _ i _ => f.params.length - (intOf i).toNat)
    case atStart => exact ⟨0, by omega, rfl, ⟨by simp, .inl ⟨rfl, rfl⟩⟩, Below.refl _ _⟩
    case round =>
      obtain ⟨k, hk, rfl, hown, hb⟩ := hrel
      by_cases hin : k < f.params.length
      · obtain ⟨bp, op, rfl, e0, e1⟩ := (HPS.out.mono hb).at_ hin
        have htk := Lib.hid (List.take_succ_eq_append_getElem hin)
        generalize f.params[k] = p at *
        have hltp := block_lt_of_cell e0
        have hsz := hb.size
        go_wp2_with (at_builtin; go_loud (refine wpList_append_own _ rfl _ _ 138 rfl W2.heap.size 4 i0 (.bool false) 1 1 Tryd.underlying138 HI.out.1 HI.out.2.1 HI.out.2.2.1 HI.out.2.2.2 rfl (by decide) _ k _ rfl ((hown.out.alloc _).alloc _) ⟨wr.heap.size + 1, 0, none⟩ 1 1 [.bool p.list] rfl rfl (one_newB (by simp) _ _) (one_bool _) (by unfold maxLen; omega) (by omega) (by simp; omega) ?_; intro v' w4 hown' hgrow _))
        have q4 := ((hb.alloc hb.size _).alloc (by simp; omega) _).grown hgrow (by simp; omega) (own_block_geB hown.out)
        exact ⟨⟨k + 1, by omega, by go_num, Lib.hid (by rw [htk.out, List.map_append]; exact hown'), q4⟩, by simp [intOf]; omega⟩
      · obtain rfl : k = f.params.length := by omega
        have hown2 := hown.out
        rw [List.take_length] at hown2
        obtain ⟨Aw, cw, rfl, hw3⟩ := bls_of_own (l := f.params.map Pm.list) (by rw [List.length_map, List.map_map]; exact hown2)
        have g3 := below_cell hb g2
        have hts4 := hts3.mono hb
        have q3 := below_step q2 q2.size hb
        rw [List.length_map]
        go_wp2_with fail
        have ceq := eqB_any ts (f.params.map Pm.list) _ _ cT cw _ hts4 hw3 hlt (by rw [List.length_map]; exact hpl)
        rw [List.length_map] at ceq
        refine ceq.mono ?_
        rintro e w5 ⟨rfl, hb5⟩
        have q5 := below_step q3 q3.size hb5
        by_cases heq : ts = f.params.map Pm.list
        · have hR := Lib.hid (show resR lib x ts = (f.list, 0) by rw [hW.out]; unfold resQ; rw [if_pos heq])
          have hd : decide (ts = f.params.map Pm.list) = true := by simpa using heq
          go_wp2_with fail
          go_ret2
          exact ⟨by rw [hR.out]; rfl, q5⟩
        · have hR := Lib.hid (show resR lib x ts = (false, 7) by rw [hW.out]; unfold resQ; rw [if_neg heq])
          have hd : decide (ts = f.params.map Pm.list) = false := by simpa using heq
          go_wp2_with fail
          go_ret2
          exact ⟨by rw [hR.out]; rfl, q5⟩
  case inr.inr.inr.inr.inr.inr.inl =>
    have hW := Lib.hid (show resR lib x ts = resQ ts ([], true) by unfold resR wantR; rw [if_neg (by omega), if_neg (by omega), if_neg (by omega), if_neg (by omega), if_pos h])
    have k82 : ((x.kind : Int) == 82) = false := by rw [h]; rfl
    have k83 : ((x.kind : Int) == 83) = false := by rw [h]; rfl
    have k84 : ((x.kind : Int) == 84) = false := by rw [h]; rfl
    have k85 : ((x.kind : Int) == 85) = false := by rw [h]; rfl
    have k86 : ((x.kind : Int) == 86) = true := by rw [h]; rfl
    clear h h2 h85
    go_enter Tryd.func67, Tryd.ntmps67
    go_wp2_with fail
    have hts2 := hts.mono hbW
    have q2 := hbW
    clear hbW
    generalize World.alloc _ _ = W2 at hts2 q2 ⊢
    have hw2 := bls_nil W2
    refine (eqB_any ts [] _ _ cT 0 _ hts2 hw2 hlt (by simp)).mono ?_
    rintro e w3 ⟨rfl, hb3⟩
    have q3 := below_step q2 q2.size hb3
    by_cases heq : ts = []
    · have hR := Lib.hid (show resR lib x ts = (true, 0) by rw [hW.out]; unfold resQ; rw [if_pos heq])
      have hd : decide (ts = []) = true := by simpa using heq
      go_wp2_with fail
      go_ret2
      exact ⟨by rw [hR.out]; rfl, q3⟩
    · have hR := Lib.hid (show resR lib x ts = (false, 7) by rw [hW.out]; unfold resQ; rw [if_neg heq])
      have hd : decide (ts = []) = false := by simpa using heq
      go_wp2_with fail
      go_ret2
      exact ⟨by rw [hR.out]; rfl, q3⟩
  case inr.inr.inr.inr.inr.inr.inr.inl =>
    have hW := Lib.hid (show resR lib x ts = resQ ts ([false, true], true) by unfold resR wantR; rw [if_neg (by omega), if_neg (by omega), if_neg (by omega), if_neg (by omega), if_neg (by omega), if_pos h])
    have k82 : ((x.kind : Int) == 82) = false := by rw [h]; rfl
    have k83 : ((x.kind : Int) == 83) = false := by rw [h]; rfl
    have k84 : ((x.kind : Int) == 84) = false := by rw [h]; rfl
    have k85 : ((x.kind : Int) == 85) = false := by rw [h]; rfl
    have k86 : ((x.kind : Int) == 86) = false := by rw [h]; rfl
    have k87 : ((x.kind : Int) == 87) = true := by rw [h]; rfl
    clear h h2 h85
    have hwn := bls_new (w.alloc (Obj.cells #[.int .u8 x.kind, .int .i64 x.num, .string x.name, .slice Ak x.kids.length ck] 53)) 4 [false, true] _ rfl
    have hbn := below_box (w.alloc (Obj.cells #[.int .u8 x.kind, .int .i64 x.num, .string x.name, .slice Ak x.kids.length ck] 53)) (Obj.cells (([false, true] : List Bool).map Value.bool).toArray 4)
    have hsz1 : (w.alloc (Obj.cells #[.int .u8 x.kind, .int .i64 x.num, .string x.name, .slice Ak x.kids.length ck] 53)).heap.size = w.heap.size + 1 := by simp
    rw [hsz1] at hwn
    simp only [List.map_cons, List.map_nil] at hwn hbn
    go_enter Tryd.func67, Tryd.ntmps67
    go_wp2_with fail
    have hts2 := (hts.mono hbW).mono hbn
    have q2 := below_step hbW hbW.size hbn
    have hw2 := hwn
    clear hwn hbn hsz1 hbW
    generalize World.alloc _ _ = W2 at hts2 q2 hw2 ⊢
    refine (eqB_any ts [false, true] _ _ cT 2 _ hts2 hw2 hlt (by simp)).mono ?_
    rintro e w3 ⟨rfl, hb3⟩
    have q3 := below_step q2 q2.size hb3
    by_cases heq : ts = [false, true]
    · have hR := Lib.hid (show resR lib x ts = (true, 0) by rw [hW.out]; unfold resQ; rw [if_pos heq])
      have hd : decide (ts = [false, true]) = true := by simpa using heq
      go_wp2_with fail
      go_ret2
      exact ⟨by rw [hR.out]; rfl, q3⟩
    · have hR := Lib.hid (show resR lib x ts = (false, 7) by rw [hW.out]; unfold resQ; rw [if_neg heq])
      have hd : decide (ts = [false, true]) = false := by simpa using heq
      go_wp2_with fail
      go_ret2
      exact ⟨by rw [hR.out]; rfl, q3⟩
  case inr.inr.inr.inr.inr.inr.inr.inr.inl =>
    have hW := Lib.hid (show resR lib x ts = resQ ts ([true], false) by unfold resR wantR; rw [if_neg (by omega), if_neg (by omega), if_neg (by omega), if_neg (by omega), if_neg (by omega), if_neg (by omega), if_pos (by omega)])
    have k82 : ((x.kind : Int) == 82) = false := by rw [h]; rfl
    have k83 : ((x.kind : Int) == 83) = false := by rw [h]; rfl
    have k84 : ((x.kind : Int) == 84) = false := by rw [h]; rfl
    have k85 : ((x.kind : Int) == 85) = false := by rw [h]; rfl
    have k86 : ((x.kind : Int) == 86) = false := by rw [h]; rfl
    have k87 : ((x.kind : Int) == 87) = false := by rw [h]; rfl
    have k88 : ((x.kind : Int) == 88) = true := by rw [h]; rfl
    clear h h2 h85
    have hwn := bls_new (w.alloc (Obj.cells #[.int .u8 x.kind, .int .i64 x.num, .string x.name, .slice Ak x.kids.length ck] 53)) 4 [true] _ rfl
    have hbn := below_box (w.alloc (Obj.cells #[.int .u8 x.kind, .int .i64 x.num, .string x.name, .slice Ak x.kids.length ck] 53)) (Obj.cells (([true] : List Bool).map Value.bool).toArray 4)
    have hsz1 : (w.alloc (Obj.cells #[.int .u8 x.kind, .int .i64 x.num, .string x.name, .slice Ak x.kids.length ck] 53)).heap.size = w.heap.size + 1 := by simp
    rw [hsz1] at hwn
    simp only [List.map_cons, List.map_nil] at hwn hbn
    go_enter Tryd.func67, Tryd.ntmps67
    go_wp2_with fail
    have hts2 := (hts.mono hbW).mono hbn
    have q2 := below_step hbW hbW.size hbn
    have hw2 := hwn
    clear hwn hbn hsz1 hbW
    generalize World.alloc _ _ = W2 at hts2 q2 hw2 ⊢
    refine (eqB_any ts [true] _ _ cT 1 _ hts2 hw2 hlt (by simp)).mono ?_
    rintro e w3 ⟨rfl, hb3⟩
    have q3 := below_step q2 q2.size hb3
    by_cases heq : ts = [true]
    · have hR := Lib.hid (show resR lib x ts = (false, 0) by rw [hW.out]; unfold resQ; rw [if_pos heq])
      have hd : decide (ts = [true]) = true := by simpa using heq
      go_wp2_with fail
      go_ret2
      exact ⟨by rw [hR.out]; rfl, q3⟩
    · have hR := Lib.hid (show resR lib x ts = (false, 7) by rw [hW.out]; unfold resQ; rw [if_neg heq])
      have hd : decide (ts = [true]) = false := by simpa using heq
      go_wp2_with fail
      go_ret2
      exact ⟨by rw [hR.out]; rfl, q3⟩
  case inr.inr.inr.inr.inr.inr.inr.inr.inr.inl =>
    have hW := Lib.hid (show resR lib x ts = resQ ts ([true], true) by unfold resR wantR; rw [if_neg (by omega), if_neg (by omega), if_neg (by omega), if_neg (by omega), if_neg (by omega), if_neg (by omega), if_neg (by omega), if_pos h])
    have k82 : ((x.kind : Int) == 82) = false := by rw [h]; rfl
    have k83 : ((x.kind : Int) == 83) = false := by rw [h]; rfl
    have k84 : ((x.kind : Int) == 84) = false := by rw [h]; rfl
    have k85 : ((x.kind : Int) == 85) = false := by rw [h]; rfl
    have k86 : ((x.kind : Int) == 86) = false := by rw [h]; rfl
    have k87 : ((x.kind : Int) == 87) = false := by rw [h]; rfl
    have k88 : ((x.kind : Int) == 88) = false := by rw [h]; rfl
    have k90 : ((x.kind : Int) == 90) = false := by rw [h]; rfl
    have k89 : ((x.kind : Int) == 89) = true := by rw [h]; rfl
    clear h h2 h85
    have hwn := bls_new (w.alloc (Obj.cells #[.int .u8 x.kind, .int .i64 x.num, .string x.name, .slice Ak x.kids.length ck] 53)) 4 [true] _ rfl
    have hbn := below_box (w.alloc (Obj.cells #[.int .u8 x.kind, .int .i64 x.num, .string x.name, .slice Ak x.kids.length ck] 53)) (Obj.cells (([true] : List Bool).map Value.bool).toArray 4)
    have hsz1 : (w.alloc (Obj.cells #[.int .u8 x.kind, .int .i64 x.num, .string x.name, .slice Ak x.kids.length ck] 53)).heap.size = w.heap.size + 1 := by simp
    rw [hsz1] at hwn
    simp only [List.map_cons, List.map_nil] at hwn hbn
    go_enter Tryd.func67, Tryd.ntmps67
    go_wp2_with fail
    have hts2 := (hts.mono hbW).mono hbn
    have q2 := below_step hbW hbW.size hbn
    have hw2 := hwn
    clear hwn hbn hsz1 hbW
    generalize World.alloc _ _ = W2 at hts2 q2 hw2 ⊢
    refine (eqB_any ts [true] _ _ cT 1 _ hts2 hw2 hlt (by simp)).mono ?_
    rintro e w3 ⟨rfl, hb3⟩
    have q3 := below_step q2 q2.size hb3
    by_cases heq : ts = [true]
    · have hR := Lib.hid (show resR lib x ts = (true, 0) by rw [hW.out]; unfold resQ; rw [if_pos heq])
      have hd : decide (ts = [true]) = true := by simpa using heq
      go_wp2_with fail
      go_ret2
      exact ⟨by rw [hR.out]; rfl, q3⟩
    · have hR := Lib.hid (show resR lib x ts = (false, 7) by rw [hW.out]; unfold resQ; rw [if_neg heq])
      have hd : decide (ts = [true]) = false := by simpa using heq
      go_wp2_with fail
      go_ret2
      exact ⟨by rw [hR.out]; rfl, q3⟩
  case inr.inr.inr.inr.inr.inr.inr.inr.inr.inr.inl =>
    have hW := Lib.hid (show resR lib x ts = resQ ts ([true], false) by unfold resR wantR; rw [if_neg (by omega), if_neg (by omega), if_neg (by omega), if_neg (by omega), if_neg (by omega), if_neg (by omega), if_pos (by omega)])
    have k82 : ((x.kind : Int) == 82) = false := by rw [h]; rfl
    have k83 : ((x.kind : Int) == 83) = false := by rw [h]; rfl
    have k84 : ((x.kind : Int) == 84) = false := by rw [h]; rfl
    have k85 : ((x.kind : Int) == 85) = false := by rw [h]; rfl
    have k86 : ((x.kind : Int) == 86) = false := by rw [h]; rfl
    have k87 : ((x.kind : Int) == 87) = false := by rw [h]; rfl
    have k88 : ((x.kind : Int) == 88) = false := by rw [h]; rfl
    have k90 : ((x.kind : Int) == 90) = true := by rw [h]; rfl
    clear h h2 h85
    have hwn := bls_new (w.alloc (Obj.cells #[.int .u8 x.kind, .int .i64 x.num, .string x.name, .slice Ak x.kids.length ck] 53)) 4 [true] _ rfl
    have hbn := below_box (w.alloc (Obj.cells #[.int .u8 x.kind, .int .i64 x.num, .string x.name, .slice Ak x.kids.length ck] 53)) (Obj.cells (([true] : List Bool).map Value.bool).toArray 4)
    have hsz1 : (w.alloc (Obj.cells #[.int .u8 x.kind, .int .i64 x.num, .string x.name, .slice Ak x.kids.length ck] 53)).heap.size = w.heap.size + 1 := by simp
    rw [hsz1] at hwn
    simp only [List.map_cons, List.map_nil] at hwn hbn
    go_enter Tryd.func67, Tryd.ntmps67
    go_wp2_with fail
    have hts2 := (hts.mono hbW).mono hbn
    have q2 := below_step hbW hbW.size hbn
    have hw2 := hwn
    clear hwn hbn hsz1 hbW
    generalize World.alloc _ _ = W2 at hts2 q2 hw2 ⊢
    refine (eqB_any ts [true] _ _ cT 1 _ hts2 hw2 hlt (by simp)).mono ?_
    rintro e w3 ⟨rfl, hb3⟩
    have q3 := below_step q2 q2.size hb3
    by_cases heq : ts = [true]
    · have hR := Lib.hid (show resR lib x ts = (false, 0) by rw [hW.out]; unfold resQ; rw [if_pos heq])
      have hd : decide (ts = [true]) = true := by simpa using heq
      go_wp2_with fail
      go_ret2
      exact ⟨by rw [hR.out]; rfl, q3⟩
    · have hR := Lib.hid (show resR lib x ts = (false, 7) by rw [hW.out]; unfold resQ; rw [if_neg heq])
      have hd : decide (ts = [true]) = false := by simpa using heq
      go_wp2_with fail
      go_ret2
      exact ⟨by rw [hR.out]; rfl, q3⟩
  case inr.inr.inr.inr.inr.inr.inr.inr.inr.inr.inr =>
    have hW := Lib.hid (show resR lib x ts = resQ ts ([], false) by unfold resR wantR; rw [if_neg (by omega), if_neg (by omega), if_neg (by omega), if_neg (by omega), if_neg (by omega), if_neg (by omega), if_neg (by omega), if_neg (by omega)])
    have k82 : ((x.kind : Int) == 82) = false := kindF (n := 82) (by omega)
    have k83 : ((x.kind : Int) == 83) = false := kindF (n := 83) (by omega)
    have k84 : ((x.kind : Int) == 84) = false := kindF (n := 84) (by omega)
    have k85 : ((x.kind : Int) == 85) = false := kindF (n := 85) (by omega)
    have k86 : ((x.kind : Int) == 86) = false := kindF (n := 86) (by omega)
    have k87 : ((x.kind : Int) == 87) = false := kindF (n := 87) (by omega)
    have k88 : ((x.kind : Int) == 88) = false := kindF (n := 88) (by omega)
    have k90 : ((x.kind : Int) == 90) = false := kindF (n := 90) (by omega)
    have k89 : ((x.kind : Int) == 89) = false := kindF (n := 89) (by omega)
    clear h h2 h85
    go_enter Tryd.func67, Tryd.ntmps67
    go_wp2_with fail
    have hts2 := hts.mono hbW
    have q2 := hbW
    clear hbW
    generalize World.alloc _ _ = W2 at hts2 q2 ⊢
    have hw2 := bls_nil W2
    refine (eqB_any ts [] _ _ cT 0 _ hts2 hw2 hlt (by simp)).mono ?_
    rintro e w3 ⟨rfl, hb3⟩
    have q3 := below_step q2 q2.size hb3
    by_cases heq : ts = []
    · have hR := Lib.hid (show resR lib x ts = (false, 0) by rw [hW.out]; unfold resQ; rw [if_pos heq])
      have hd : decide (ts = []) = true := by simpa using heq
      go_wp2_with fail
      go_ret2
      exact ⟨by rw [hR.out]; rfl, q3⟩
    · have hR := Lib.hid (show resR lib x ts = (false, 7) by rw [hW.out]; unfold resQ; rw [if_neg heq])
      have hd : decide (ts = []) = false := by simpa using heq
      go_wp2_with fail
      go_ret2
      exact ⟨by rw [hR.out]; rfl, q3⟩

end Go.Proofs.YtcoeakdpcigogaaDoor
