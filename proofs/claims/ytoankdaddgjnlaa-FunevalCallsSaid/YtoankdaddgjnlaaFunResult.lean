/-
  The contract of fun.result.
-/
import Derived.Test.YtoankdaddgjnlaaFunReach
import Derived.WalkSpells
import Derived.Deep.AppendLies
namespace Go.Proofs.Ytoankdaddgjnlaa
open Go.ChangeShapes Go.WideShapes Go.ChangeAt Go.RowKit Go.Sort

/-- What the children's types must be, and the node's own type. -/
def wantR (lib : List Fn1) (x : Nd) (ts : List Bool) : List Bool × Bool :=
  if x.kind = 82 then ([false, false], false)
  else if x.kind = 83 then ([false, ts.getD 1 false, ts.getD 1 false], ts.getD 1 false)
  else if x.kind = 84 then (ts, ts.getD 1 false)
  else if x.kind = 85 then (match lib[(findF lib x.name 0).toNat]? with | some f => (f.params.map Pm.list, f.list) | none => ([], false))
  else if x.kind = 86 then ([], true)
  else if x.kind = 87 then ([false, true], true)
  else if x.kind = 88 ∨ x.kind = 90 then ([true], false)
  else if x.kind = 89 then ([true], true)
  else ([], false)
def resQ (ts : List Bool) (q : List Bool × Bool) : Bool × Int := if ts = q.1 then (q.2, 0) else (false, 7)
def resR (lib : List Fn1) (x : Nd) (ts : List Bool) : Bool × Int := resQ ts (wantR lib x ts)
theorem info_bool : (Try.prog.info? 4).map (fun i => (i.zero, i.size, i.bytes)) = some (some (.bool false), 1, 1) := by kernel_rfl
theorem add0 (g j : Nat) : (⟨g, 0, none⟩ : Addr).add j = ⟨g, j, none⟩ := by
  unfold Addr.add; by_cases h : j = 0 <;> simp [h]
theorem one_newB {w : World} {B : Nat} (hB : B = w.heap.size) (v : Value) (T : TypeId) : ∀ (j : Nat) (u : Value), [v][j]? = some u → (w.alloc (Obj.cells #[v] T)).cell? ((⟨B, 0, none⟩ : Addr).add j) = some u := by
  subst hB
  intro j u hj
  cases j with
  | zero => simp at hj; subst hj; rw [add0]; simp [go_sem]
  | succ j => simp at hj
theorem one_bool (v : Bool) : ∀ u : Value, u ∈ [Value.bool v] → u.oneCell' = true := by
  intro u hu; simp at hu; subst hu; rfl
theorem own_block_geB {w : World} {base : Nat} {e : TypeId} {size n : Nat} {v : Value} {xs : List Value} (h : w.ownsRow base e size v n xs) : ∀ g, v.ownBlock = some g → base ≤ g := by
  rcases h.2 with ⟨rfl, _⟩ | ⟨g, cap, cur, rfl, hg, _⟩
  · intro g hg; cases hg
  · intro g' hg'; obtain rfl := Option.some.inj hg'; exact hg
theorem bls_of_own {w : World} {base : Nat} {e : TypeId} {v : Value} {l : List Bool} (h : w.ownsRow base e 1 v l.length (l.map Value.bool)) : ∃ A c, v = .slice A l.length c ∧ BlsAt w A l := by
  obtain ⟨h1, h2⟩ := id h
  rcases h2 with ⟨rfl, h0⟩ | ⟨g, cap, cur, rfl, hg, hh, hc1, hc2, hc3, hc4⟩
  · refine ⟨none, 0, by rw [h0], fun k x hk => ?_⟩
    have : l = [] := List.length_eq_zero_iff.1 h0
    subst this; simp at hk
  · refine ⟨some ⟨g, 0, none⟩, cap, rfl, fun k x hk => ⟨g, 0, rfl, ?_⟩⟩
    have := h.cells (g := g) rfl k (.bool x) (by simp [hk])
    rw [add0] at this; simpa using this
/-- No function has very many parameters. -/
def FewParams (lib : List Fn1) : Prop := ∀ (k : Nat) (f : Fn1), lib[k]? = some f → f.params.length ≤ 400000
theorem kindF {k n : Nat} (h : k ≠ n) : ((k : Int) == (n : Int)) = false := beqK h

set_option maxRecDepth 100000 in
set_option maxHeartbeats 2000000 in
theorem result_any (lib : List Fn1) (A : Option Addr) (cap : Nat) (x : Nd) (Ak : Option Addr) (ck : Nat) (ts : List Bool) (At : Option Addr) (cT : Nat) (w : World) (hL : LibAt w A lib) (hF : LibFit lib) (hfit : NdFit x) (hts : BlsAt w At ts) (hlt : ts.length ≤ 9223372036854775807)
    (h2 : (x.kind = 83 ∨ x.kind = 84) → 2 ≤ ts.length) (h85 : x.kind = 85 → 0 ≤ findF lib x.name 0) (hP : FewParams lib) :
    Calls Try.prog 58 #[.slice A lib.length cap, .agg #[.int .u8 x.kind, .int .i64 x.num, .string x.name, .slice Ak x.kids.length ck], .slice At ts.length cT] w fun e w' => e = .returned (.tuple #[.bool (resR lib x ts).1, .int .i64 (resR lib x ts).2]) ∧ Below w.heap.size w w' := by
  obtain ⟨hf1, hf2, hf3, hf4⟩ := hfit.facts
  have hl := hF.1
  have HF := Lib.hid hF.2
  have hbW := below_box w (Obj.cells #[.int .u8 x.kind, .int .i64 x.num, .string x.name, .slice Ak x.kids.length ck] 41)
  clear hF
  rcases kind_cases x.kind with h | h | h | h | h | h | h | h | h | h | h | h
  case inl =>
    have hW := Lib.hid (show resR lib x ts = resQ ts ([], false) by unfold resR wantR; rw [if_neg (by omega), if_neg (by omega), if_neg (by omega), if_neg (by omega), if_neg (by omega), if_neg (by omega), if_neg (by omega), if_neg (by omega)])
    have k82 : ((x.kind : Int) == 82) = false := by rw [h]; rfl
    have k83 : ((x.kind : Int) == 83) = false := by rw [h]; rfl
    have k84 : ((x.kind : Int) == 84) = false := by rw [h]; rfl
    have k85 : ((x.kind : Int) == 85) = false := by rw [h]; rfl
    have k86 : ((x.kind : Int) == 86) = false := by rw [h]; rfl
    have k87 : ((x.kind : Int) == 87) = false := by rw [h]; rfl
    have k88 : ((x.kind : Int) == 88) = false := by rw [h]; rfl
    have k90 : ((x.kind : Int) == 90) = false := by rw [h]; rfl
    have k89 : ((x.kind : Int) == 89) = false := by rw [h]; rfl
    clear h h2 h85
    go_enter Try.func58, Try.ntmps58
    go_wp2_with fail
    have hts2 := hts.mono hbW
    have q2 := hbW
    clear hbW
    generalize World.alloc _ _ = W2 at hts2 q2 ⊢
    have hw2 := bls_nil W2
    refine (eqB_any ts [] _ _ cT 0 _ hts2 hw2 hlt (by simp)).mono ?_
    rintro e w3 ⟨rfl, hb3⟩
    have q3 := below_step q2 q2.size hb3
    by_cases heq : ts = []
    · have hR := Lib.hid (show resR lib x ts = (false, 0) by rw [hW.out]; unfold resQ; rw [if_pos heq])
      have hd : decide (ts = []) = true := by simpa using heq
      go_wp2_with fail
      go_ret2
      exact ⟨by rw [hR.out]; rfl, q3⟩
    · have hR := Lib.hid (show resR lib x ts = (false, 7) by rw [hW.out]; unfold resQ; rw [if_neg heq])
      have hd : decide (ts = []) = false := by simpa using heq
      go_wp2_with fail
      go_ret2
      exact ⟨by rw [hR.out]; rfl, q3⟩
  case inr.inl =>
    have hW := Lib.hid (show resR lib x ts = resQ ts ([], false) by unfold resR wantR; rw [if_neg (by omega), if_neg (by omega), if_neg (by omega), if_neg (by omega), if_neg (by omega), if_neg (by omega), if_neg (by omega), if_neg (by omega)])
    have k82 : ((x.kind : Int) == 82) = false := by rw [h]; rfl
    have k83 : ((x.kind : Int) == 83) = false := by rw [h]; rfl
    have k84 : ((x.kind : Int) == 84) = false := by rw [h]; rfl
    have k85 : ((x.kind : Int) == 85) = false := by rw [h]; rfl
    have k86 : ((x.kind : Int) == 86) = false := by rw [h]; rfl
    have k87 : ((x.kind : Int) == 87) = false := by rw [h]; rfl
    have k88 : ((x.kind : Int) == 88) = false := by rw [h]; rfl
    have k90 : ((x.kind : Int) == 90) = false := by rw [h]; rfl
    have k89 : ((x.kind : Int) == 89) = false := by rw [h]; rfl
    clear h h2 h85
    go_enter Try.func58, Try.ntmps58
    go_wp2_with fail
    have hts2 := hts.mono hbW
    have q2 := hbW
    clear hbW
    generalize World.alloc _ _ = W2 at hts2 q2 ⊢
    have hw2 := bls_nil W2
    refine (eqB_any ts [] _ _ cT 0 _ hts2 hw2 hlt (by simp)).mono ?_
    rintro e w3 ⟨rfl, hb3⟩
    have q3 := below_step q2 q2.size hb3
    by_cases heq : ts = []
    · have hR := Lib.hid (show resR lib x ts = (false, 0) by rw [hW.out]; unfold resQ; rw [if_pos heq])
      have hd : decide (ts = []) = true := by simpa using heq
      go_wp2_with fail
      go_ret2
      exact ⟨by rw [hR.out]; rfl, q3⟩
    · have hR := Lib.hid (show resR lib x ts = (false, 7) by rw [hW.out]; unfold resQ; rw [if_neg heq])
      have hd : decide (ts = []) = false := by simpa using heq
      go_wp2_with fail
      go_ret2
      exact ⟨by rw [hR.out]; rfl, q3⟩
  case inr.inr.inl =>
    have hW := Lib.hid (show resR lib x ts = resQ ts ([false, false], false) by unfold resR wantR; rw [if_pos h])
    have k82 : ((x.kind : Int) == 82) = true := by rw [h]; rfl
    clear h h2 h85
    have hwn := bls_new (w.alloc (Obj.cells #[.int .u8 x.kind, .int .i64 x.num, .string x.name, .slice Ak x.kids.length ck] 41)) 4 [false, false] _ rfl
    have hbn := below_box (w.alloc (Obj.cells #[.int .u8 x.kind, .int .i64 x.num, .string x.name, .slice Ak x.kids.length ck] 41)) (Obj.cells (([false, false] : List Bool).map Value.bool).toArray 4)
    have hsz1 : (w.alloc (Obj.cells #[.int .u8 x.kind, .int .i64 x.num, .string x.name, .slice Ak x.kids.length ck] 41)).heap.size = w.heap.size + 1 := by simp
    rw [hsz1] at hwn
    simp only [List.map_cons, List.map_nil] at hwn hbn
    go_enter Try.func58, Try.ntmps58
    go_wp2_with fail
    have hts2 := (hts.mono hbW).mono hbn
    have q2 := below_step hbW hbW.size hbn
    have hw2 := hwn
    clear hwn hbn hsz1 hbW
    generalize World.alloc _ _ = W2 at hts2 q2 hw2 ⊢
    refine (eqB_any ts [false, false] _ _ cT 2 _ hts2 hw2 hlt (by simp)).mono ?_
    rintro e w3 ⟨rfl, hb3⟩
    have q3 := below_step q2 q2.size hb3
    by_cases heq : ts = [false, false]
    · have hR := Lib.hid (show resR lib x ts = (false, 0) by rw [hW.out]; unfold resQ; rw [if_pos heq])
      have hd : decide (ts = [false, false]) = true := by simpa using heq
      go_wp2_with fail
      go_ret2
      exact ⟨by rw [hR.out]; rfl, q3⟩
    · have hR := Lib.hid (show resR lib x ts = (false, 7) by rw [hW.out]; unfold resQ; rw [if_neg heq])
      have hd : decide (ts = [false, false]) = false := by simpa using heq
      go_wp2_with fail
      go_ret2
      exact ⟨by rw [hR.out]; rfl, q3⟩
  case inr.inr.inr.inl =>
    obtain ⟨bt, ot, rfl, ct⟩ := hts.at_ (k := 1) (by have := h2 (by omega); omega)
    have hlen2 : 2 ≤ ts.length := h2 (by omega)
    have hg1 : ts.getD 1 false = ts[1]'(by omega) := by simp [List.getD_eq_getElem?_getD, List.getElem?_eq_getElem (show 1 < ts.length by omega)]
    have hW := Lib.hid (show resR lib x ts = resQ ts ([false, ts[1]'(by omega), ts[1]'(by omega)], ts[1]'(by omega)) by unfold resR wantR; rw [if_neg (by omega), if_pos h, hg1])
    have k82 : ((x.kind : Int) == 82) = false := by rw [h]; rfl
    have k83 : ((x.kind : Int) == 83) = true := by rw [h]; rfl
    have hltb : bt < w.heap.size := block_lt_of_cell ct
    generalize ts[1]'(by omega) = t1 at *
    clear h h2 h85 hg1
    have hwn := bls_new (w.alloc (Obj.cells #[.int .u8 x.kind, .int .i64 x.num, .string x.name, .slice Ak x.kids.length ck] 41)) 4 [false, t1, t1] _ rfl
    have hbn := below_box (w.alloc (Obj.cells #[.int .u8 x.kind, .int .i64 x.num, .string x.name, .slice Ak x.kids.length ck] 41)) (Obj.cells (([false, t1, t1] : List Bool).map Value.bool).toArray 4)
    have hsz1 : (w.alloc (Obj.cells #[.int .u8 x.kind, .int .i64 x.num, .string x.name, .slice Ak x.kids.length ck] 41)).heap.size = w.heap.size + 1 := by simp
    rw [hsz1] at hwn
    simp only [List.map_cons, List.map_nil] at hwn hbn
    go_enter Try.func58, Try.ntmps58
    go_wp2_with fail
    have hts2 := (hts.mono hbW).mono hbn
    have q2 := below_step hbW hbW.size hbn
    have hw2 := hwn
    clear hwn hbn hsz1 hbW
    generalize World.alloc _ _ = W2 at hts2 q2 hw2 ⊢
    refine (eqB_any ts [false, t1, t1] _ _ cT 3 _ hts2 hw2 hlt (by simp)).mono ?_
    rintro e w3 ⟨rfl, hb3⟩
    have q3 := below_step q2 q2.size hb3
    by_cases heq : ts = [false, t1, t1]
    · have hR := Lib.hid (show resR lib x ts = (t1, 0) by rw [hW.out]; unfold resQ; rw [if_pos heq])
      have hd : decide (ts = [false, t1, t1]) = true := by simpa using heq
      go_wp2_with fail
      go_ret2
      exact ⟨by rw [hR.out]; rfl, q3⟩
    · have hR := Lib.hid (show resR lib x ts = (false, 7) by rw [hW.out]; unfold resQ; rw [if_neg heq])
      have hd : decide (ts = [false, t1, t1]) = false := by simpa using heq
      go_wp2_with fail
      go_ret2
      exact ⟨by rw [hR.out]; rfl, q3⟩
  case inr.inr.inr.inr.inl =>
    obtain ⟨bt, ot, rfl, ct⟩ := hts.at_ (k := 1) (by have := h2 (by omega); omega)
    have hlen2 : 2 ≤ ts.length := h2 (by omega)
    have hg1 : ts.getD 1 false = ts[1]'(by omega) := by simp [List.getD_eq_getElem?_getD, List.getElem?_eq_getElem (show 1 < ts.length by omega)]
    have hW := Lib.hid (show resR lib x ts = resQ ts (ts, ts[1]'(by omega)) by unfold resR wantR; rw [if_neg (by omega), if_neg (by omega), if_pos h, hg1])
    have k82 : ((x.kind : Int) == 82) = false := by rw [h]; rfl
    have k83 : ((x.kind : Int) == 83) = false := by rw [h]; rfl
    have k84 : ((x.kind : Int) == 84) = true := by rw [h]; rfl
    have hltb : bt < w.heap.size := block_lt_of_cell ct
    generalize ts[1]'(by omega) = t1 at *
    clear h h2 h85 hg1
    go_enter Try.func58, Try.ntmps58
    go_wp2_with fail
    have hts2 := hts.mono hbW
    have q2 := hbW
    clear hbW ct
    generalize World.alloc _ _ = W2 at hts2 q2 ⊢
    refine (eqB_any ts ts _ _ cT cT _ hts2 hts2 hlt hlt).mono ?_
    rintro e w3 ⟨rfl, hb3⟩
    have q3 := below_step q2 q2.size hb3
    have hR := Lib.hid (show resR lib x ts = (t1, 0) by rw [hW.out]; unfold resQ; rw [if_pos rfl])
    have hd : decide (ts = ts) = true := by simp
    go_wp2_with fail
    go_ret2
    exact ⟨by rw [hR.out]; rfl, q3⟩
  case inr.inr.inr.inr.inr.inl =>
    have k82 : ((x.kind : Int) == 82) = false := by rw [h]; rfl
    have k83 : ((x.kind : Int) == 83) = false := by rw [h]; rfl
    have k84 : ((x.kind : Int) == 84) = false := by rw [h]; rfl
    have k85 : ((x.kind : Int) == 85) = true := by rw [h]; rfl
    have h0 := h85 h
    have HW := Lib.hid (show wantR lib x ts = (match lib[(findF lib x.name 0).toNat]? with | some f => (f.params.map Pm.list, f.list) | none => ([], false)) by unfold wantR; rw [if_neg (by omega), if_neg (by omega), if_neg (by omega), if_pos h])
    clear h h2 h85
    obtain ⟨i0, hi0, hz0, hz1, hz2⟩ := info_parts info_bool
    have HI := Lib.hid (And.intro hi0 (And.intro hz0 (And.intro hz1 hz2)))
    clear hi0 hz0 hz1 hz2
    have HL := Lib.hid (hL.mono hbW)
    have hts1 := hts.mono hbW
    clear hL hts
    have bx2 : (w.alloc (Obj.cells #[.int .u8 x.kind, .int .i64 x.num, .string x.name, .slice Ak x.kids.length ck] 41)).cell? ⟨w.heap.size, 2, none⟩ = some (.string x.name) := by simp [go_sem]
    go_enter Try.func58, Try.ntmps58
    go_wp2_with fail
    generalize World.alloc _ _ = W at hbW HL hts1 bx2 ⊢
    refine (find_any lib A cap x.name _ HL.out hl).mono ?_
    rintro e w1 ⟨rfl, hb1⟩
    have HL1 := Lib.hid (HL.out.mono hb1)
    have hts2 := hts1.mono hb1
    have q1 := below_step hbW hbW.size hb1
    clear HL hts1 hbW hb1 bx2
    rcases findF_range x.name lib 0 with hf | ⟨i, hi, hf, _, hnm⟩
    · omega
    clear hnm
    rw [Nat.zero_add] at hf
    rw [hf] at HW ⊢
    have hget : lib[i]? = some lib[i] := List.getElem?_eq_getElem hi
    obtain ⟨_, hpf, _⟩ := HF.out i _ hget
    have hpl := hpf.1
    have hp1000 := hP i _ hget
    obtain ⟨b, o, rfl, hfo⟩ := HL1.out.at_ hi
    have hW := Lib.hid (show resR lib x ts = resQ ts (lib[i].params.map Pm.list, lib[i].list) by unfold resR; rw [HW.out, Int.toNat_natCast, hget])
    generalize lib[i] = f at *
    have hltb := hfo.lt
    obtain ⟨c0, ⟨A1, cp1, c1, hps⟩, c2, hbody⟩ := id hfo
    obtain ⟨A3, cp3, d0, d1, d2, d3, _⟩ := hbody.open_
    clear hget hpf HW hbody h0 hf
    have hbx := below_box w1 (Obj.cells #[.string f.name, .slice A1 f.params.length cp1, .bool f.list, .int .u8 f.body.kind, .int .i64 f.body.num, .string f.body.name, .slice A3 f.body.kids.length cp3] 47)
    have g2 : (w1.alloc (Obj.cells #[.string f.name, .slice A1 f.params.length cp1, .bool f.list, .int .u8 f.body.kind, .int .i64 f.body.num, .string f.body.name, .slice A3 f.body.kids.length cp3] 47)).cell? ⟨w1.heap.size, 2, none⟩ = some (.bool f.list) := by simp [go_sem]
    go_wp2_with fail
    generalize World.alloc _ _ = W2 at hbx g2 ⊢
    have hts3 := hts2.mono hbx
    have HPS := Lib.hid (hps.mono hbx)
    have q2 := below_step q1 q1.size hbx
    clear c0 c1 c2 d0 d1 d2 d3 hfo hltb hts2 hps hbx q1 HL1
    go_loopw [8, 44] (fun v i wr => ∃ k : Nat, k ≤ f.params.length ∧ i = .int .i64 k ∧ Hid (wr.ownsRow W2.heap.size 4 1 v k ((f.params.take k).map fun p => Value.bool p.list)) ∧ Below W2.heap.size W2 wr) (fun _ i _ => f.params.length - (intOf i).toNat)
    case atStart => exact ⟨0, by omega, rfl, ⟨by simp, .inl ⟨rfl, rfl⟩⟩, Below.refl _ _⟩
    case round =>
      obtain ⟨k, hk, rfl, hown, hb⟩ := hrel
      by_cases hin : k < f.params.length
      · obtain ⟨bp, op, rfl, e0, e1⟩ := (HPS.out.mono hb).at_ hin
        have htk := Lib.hid (List.take_succ_eq_append_getElem hin)
        generalize f.params[k] = p at *
        have hltp := block_lt_of_cell e0
        have hsz := hb.size
        go_wp2_with (at_builtin; go_loud (refine wpList_append_own _ rfl _ _ 112 rfl W2.heap.size 4 i0 (.bool false) 1 1 Try.underlying112 HI.out.1 HI.out.2.1 HI.out.2.2.1 HI.out.2.2.2 rfl (by decide) _ k _ rfl ((hown.out.alloc _).alloc _) ⟨wr.heap.size + 1, 0, none⟩ 1 1 [.bool p.list] rfl rfl (one_newB (by simp) _ _) (one_bool _) (by unfold maxLen; omega) (by omega) (by simp; omega) ?_; intro v' w4 hown' hgrow _))
        have q4 := ((hb.alloc hb.size _).alloc (by simp; omega) _).grown hgrow (by simp; omega) (own_block_geB hown.out)
        exact ⟨⟨k + 1, by omega, by go_num, Lib.hid (by rw [htk.out, List.map_append]; exact hown'), q4⟩, by simp [intOf]; omega⟩
      · obtain rfl : k = f.params.length := by omega
        have hown2 := hown.out
        rw [List.take_length] at hown2
        obtain ⟨Aw, cw, rfl, hw3⟩ := bls_of_own (l := f.params.map Pm.list) (by rw [List.length_map, List.map_map]; exact hown2)
        have g3 := below_cell hb g2
        have hts4 := hts3.mono hb
        have q3 := below_step q2 q2.size hb
        rw [List.length_map]
        go_wp2_with fail
        have ceq := eqB_any ts (f.params.map Pm.list) _ _ cT cw _ hts4 hw3 hlt (by rw [List.length_map]; exact hpl)
        rw [List.length_map] at ceq
        refine ceq.mono ?_
        rintro e w5 ⟨rfl, hb5⟩
        have q5 := below_step q3 q3.size hb5
        by_cases heq : ts = f.params.map Pm.list
        · have hR := Lib.hid (show resR lib x ts = (f.list, 0) by rw [hW.out]; unfold resQ; rw [if_pos heq])
          have hd : decide (ts = f.params.map Pm.list) = true := by simpa using heq
          go_wp2_with fail
          go_ret2
          exact ⟨by rw [hR.out]; rfl, q5⟩
        · have hR := Lib.hid (show resR lib x ts = (false, 7) by rw [hW.out]; unfold resQ; rw [if_neg heq])
          have hd : decide (ts = f.params.map Pm.list) = false := by simpa using heq
          go_wp2_with fail
          go_ret2
          exact ⟨by rw [hR.out]; rfl, q5⟩
  case inr.inr.inr.inr.inr.inr.inl =>
    have hW := Lib.hid (show resR lib x ts = resQ ts ([], true) by unfold resR wantR; rw [if_neg (by omega), if_neg (by omega), if_neg (by omega), if_neg (by omega), if_pos h])
    have k82 : ((x.kind : Int) == 82) = false := by rw [h]; rfl
    have k83 : ((x.kind : Int) == 83) = false := by rw [h]; rfl
    have k84 : ((x.kind : Int) == 84) = false := by rw [h]; rfl
    have k85 : ((x.kind : Int) == 85) = false := by rw [h]; rfl
    have k86 : ((x.kind : Int) == 86) = true := by rw [h]; rfl
    clear h h2 h85
    go_enter Try.func58, Try.ntmps58
    go_wp2_with fail
    have hts2 := hts.mono hbW
    have q2 := hbW
    clear hbW
    generalize World.alloc _ _ = W2 at hts2 q2 ⊢
    have hw2 := bls_nil W2
    refine (eqB_any ts [] _ _ cT 0 _ hts2 hw2 hlt (by simp)).mono ?_
    rintro e w3 ⟨rfl, hb3⟩
    have q3 := below_step q2 q2.size hb3
    by_cases heq : ts = []
    · have hR := Lib.hid (show resR lib x ts = (true, 0) by rw [hW.out]; unfold resQ; rw [if_pos heq])
      have hd : decide (ts = []) = true := by simpa using heq
      go_wp2_with fail
      go_ret2
      exact ⟨by rw [hR.out]; rfl, q3⟩
    · have hR := Lib.hid (show resR lib x ts = (false, 7) by rw [hW.out]; unfold resQ; rw [if_neg heq])
      have hd : decide (ts = []) = false := by simpa using heq
      go_wp2_with fail
      go_ret2
      exact ⟨by rw [hR.out]; rfl, q3⟩
  case inr.inr.inr.inr.inr.inr.inr.inl =>
    have hW := Lib.hid (show resR lib x ts = resQ ts ([false, true], true) by unfold resR wantR; rw [if_neg (by omega), if_neg (by omega), if_neg (by omega), if_neg (by omega), if_neg (by omega), if_pos h])
    have k82 : ((x.kind : Int) == 82) = false := by rw [h]; rfl
    have k83 : ((x.kind : Int) == 83) = false := by rw [h]; rfl
    have k84 : ((x.kind : Int) == 84) = false := by rw [h]; rfl
    have k85 : ((x.kind : Int) == 85) = false := by rw [h]; rfl
    have k86 : ((x.kind : Int) == 86) = false := by rw [h]; rfl
    have k87 : ((x.kind : Int) == 87) = true := by rw [h]; rfl
    clear h h2 h85
    have hwn := bls_new (w.alloc (Obj.cells #[.int .u8 x.kind, .int .i64 x.num, .string x.name, .slice Ak x.kids.length ck] 41)) 4 [false, true] _ rfl
    have hbn := below_box (w.alloc (Obj.cells #[.int .u8 x.kind, .int .i64 x.num, .string x.name, .slice Ak x.kids.length ck] 41)) (Obj.cells (([false, true] : List Bool).map Value.bool).toArray 4)
    have hsz1 : (w.alloc (Obj.cells #[.int .u8 x.kind, .int .i64 x.num, .string x.name, .slice Ak x.kids.length ck] 41)).heap.size = w.heap.size + 1 := by simp
    rw [hsz1] at hwn
    simp only [List.map_cons, List.map_nil] at hwn hbn
    go_enter Try.func58, Try.ntmps58
    go_wp2_with fail
    have hts2 := (hts.mono hbW).mono hbn
    have q2 := below_step hbW hbW.size hbn
    have hw2 := hwn
    clear hwn hbn hsz1 hbW
    generalize World.alloc _ _ = W2 at hts2 q2 hw2 ⊢
    refine (eqB_any ts [false, true] _ _ cT 2 _ hts2 hw2 hlt (by simp)).mono ?_
    rintro e w3 ⟨rfl, hb3⟩
    have q3 := below_step q2 q2.size hb3
    by_cases heq : ts = [false, true]
    · have hR := Lib.hid (show resR lib x ts = (true, 0) by rw [hW.out]; unfold resQ; rw [if_pos heq])
      have hd : decide (ts = [false, true]) = true := by simpa using heq
      go_wp2_with fail
      go_ret2
      exact ⟨by rw [hR.out]; rfl, q3⟩
    · have hR := Lib.hid (show resR lib x ts = (false, 7) by rw [hW.out]; unfold resQ; rw [if_neg heq])
      have hd : decide (ts = [false, true]) = false := by simpa using heq
      go_wp2_with fail
      go_ret2
      exact ⟨by rw [hR.out]; rfl, q3⟩
  case inr.inr.inr.inr.inr.inr.inr.inr.inl =>
    have hW := Lib.hid (show resR lib x ts = resQ ts ([true], false) by unfold resR wantR; rw [if_neg (by omega), if_neg (by omega), if_neg (by omega), if_neg (by omega), if_neg (by omega), if_neg (by omega), if_pos (by omega)])
    have k82 : ((x.kind : Int) == 82) = false := by rw [h]; rfl
    have k83 : ((x.kind : Int) == 83) = false := by rw [h]; rfl
    have k84 : ((x.kind : Int) == 84) = false := by rw [h]; rfl
    have k85 : ((x.kind : Int) == 85) = false := by rw [h]; rfl
    have k86 : ((x.kind : Int) == 86) = false := by rw [h]; rfl
    have k87 : ((x.kind : Int) == 87) = false := by rw [h]; rfl
    have k88 : ((x.kind : Int) == 88) = true := by rw [h]; rfl
    clear h h2 h85
    have hwn := bls_new (w.alloc (Obj.cells #[.int .u8 x.kind, .int .i64 x.num, .string x.name, .slice Ak x.kids.length ck] 41)) 4 [true] _ rfl
    have hbn := below_box (w.alloc (Obj.cells #[.int .u8 x.kind, .int .i64 x.num, .string x.name, .slice Ak x.kids.length ck] 41)) (Obj.cells (([true] : List Bool).map Value.bool).toArray 4)
    have hsz1 : (w.alloc (Obj.cells #[.int .u8 x.kind, .int .i64 x.num, .string x.name, .slice Ak x.kids.length ck] 41)).heap.size = w.heap.size + 1 := by simp
    rw [hsz1] at hwn
    simp only [List.map_cons, List.map_nil] at hwn hbn
    go_enter Try.func58, Try.ntmps58
    go_wp2_with fail
    have hts2 := (hts.mono hbW).mono hbn
    have q2 := below_step hbW hbW.size hbn
    have hw2 := hwn
    clear hwn hbn hsz1 hbW
    generalize World.alloc _ _ = W2 at hts2 q2 hw2 ⊢
    refine (eqB_any ts [true] _ _ cT 1 _ hts2 hw2 hlt (by simp)).mono ?_
    rintro e w3 ⟨rfl, hb3⟩
    have q3 := below_step q2 q2.size hb3
    by_cases heq : ts = [true]
    · have hR := Lib.hid (show resR lib x ts = (false, 0) by rw [hW.out]; unfold resQ; rw [if_pos heq])
      have hd : decide (ts = [true]) = true := by simpa using heq
      go_wp2_with fail
      go_ret2
      exact ⟨by rw [hR.out]; rfl, q3⟩
    · have hR := Lib.hid (show resR lib x ts = (false, 7) by rw [hW.out]; unfold resQ; rw [if_neg heq])
      have hd : decide (ts = [true]) = false := by simpa using heq
      go_wp2_with fail
      go_ret2
      exact ⟨by rw [hR.out]; rfl, q3⟩
  case inr.inr.inr.inr.inr.inr.inr.inr.inr.inl =>
    have hW := Lib.hid (show resR lib x ts = resQ ts ([true], true) by unfold resR wantR; rw [if_neg (by omega), if_neg (by omega), if_neg (by omega), if_neg (by omega), if_neg (by omega), if_neg (by omega), if_neg (by omega), if_pos h])
    have k82 : ((x.kind : Int) == 82) = false := by rw [h]; rfl
    have k83 : ((x.kind : Int) == 83) = false := by rw [h]; rfl
    have k84 : ((x.kind : Int) == 84) = false := by rw [h]; rfl
    have k85 : ((x.kind : Int) == 85) = false := by rw [h]; rfl
    have k86 : ((x.kind : Int) == 86) = false := by rw [h]; rfl
    have k87 : ((x.kind : Int) == 87) = false := by rw [h]; rfl
    have k88 : ((x.kind : Int) == 88) = false := by rw [h]; rfl
    have k90 : ((x.kind : Int) == 90) = false := by rw [h]; rfl
    have k89 : ((x.kind : Int) == 89) = true := by rw [h]; rfl
    clear h h2 h85
    have hwn := bls_new (w.alloc (Obj.cells #[.int .u8 x.kind, .int .i64 x.num, .string x.name, .slice Ak x.kids.length ck] 41)) 4 [true] _ rfl
    have hbn := below_box (w.alloc (Obj.cells #[.int .u8 x.kind, .int .i64 x.num, .string x.name, .slice Ak x.kids.length ck] 41)) (Obj.cells (([true] : List Bool).map Value.bool).toArray 4)
    have hsz1 : (w.alloc (Obj.cells #[.int .u8 x.kind, .int .i64 x.num, .string x.name, .slice Ak x.kids.length ck] 41)).heap.size = w.heap.size + 1 := by simp
    rw [hsz1] at hwn
    simp only [List.map_cons, List.map_nil] at hwn hbn
    go_enter Try.func58, Try.ntmps58
    go_wp2_with fail
    have hts2 := (hts.mono hbW).mono hbn
    have q2 := below_step hbW hbW.size hbn
    have hw2 := hwn
    clear hwn hbn hsz1 hbW
    generalize World.alloc _ _ = W2 at hts2 q2 hw2 ⊢
    refine (eqB_any ts [true] _ _ cT 1 _ hts2 hw2 hlt (by simp)).mono ?_
    rintro e w3 ⟨rfl, hb3⟩
    have q3 := below_step q2 q2.size hb3
    by_cases heq : ts = [true]
    · have hR := Lib.hid (show resR lib x ts = (true, 0) by rw [hW.out]; unfold resQ; rw [if_pos heq])
      have hd : decide (ts = [true]) = true := by simpa using heq
      go_wp2_with fail
      go_ret2
      exact ⟨by rw [hR.out]; rfl, q3⟩
    · have hR := Lib.hid (show resR lib x ts = (false, 7) by rw [hW.out]; unfold resQ; rw [if_neg heq])
      have hd : decide (ts = [true]) = false := by simpa using heq
      go_wp2_with fail
      go_ret2
      exact ⟨by rw [hR.out]; rfl, q3⟩
  case inr.inr.inr.inr.inr.inr.inr.inr.inr.inr.inl =>
    have hW := Lib.hid (show resR lib x ts = resQ ts ([true], false) by unfold resR wantR; rw [if_neg (by omega), if_neg (by omega), if_neg (by omega), if_neg (by omega), if_neg (by omega), if_neg (by omega), if_pos (by omega)])
    have k82 : ((x.kind : Int) == 82) = false := by rw [h]; rfl
    have k83 : ((x.kind : Int) == 83) = false := by rw [h]; rfl
    have k84 : ((x.kind : Int) == 84) = false := by rw [h]; rfl
    have k85 : ((x.kind : Int) == 85) = false := by rw [h]; rfl
    have k86 : ((x.kind : Int) == 86) = false := by rw [h]; rfl
    have k87 : ((x.kind : Int) == 87) = false := by rw [h]; rfl
    have k88 : ((x.kind : Int) == 88) = false := by rw [h]; rfl
    have k90 : ((x.kind : Int) == 90) = true := by rw [h]; rfl
    clear h h2 h85
    have hwn := bls_new (w.alloc (Obj.cells #[.int .u8 x.kind, .int .i64 x.num, .string x.name, .slice Ak x.kids.length ck] 41)) 4 [true] _ rfl
    have hbn := below_box (w.alloc (Obj.cells #[.int .u8 x.kind, .int .i64 x.num, .string x.name, .slice Ak x.kids.length ck] 41)) (Obj.cells (([true] : List Bool).map Value.bool).toArray 4)
    have hsz1 : (w.alloc (Obj.cells #[.int .u8 x.kind, .int .i64 x.num, .string x.name, .slice Ak x.kids.length ck] 41)).heap.size = w.heap.size + 1 := by simp
    rw [hsz1] at hwn
    simp only [List.map_cons, List.map_nil] at hwn hbn
    go_enter Try.func58, Try.ntmps58
    go_wp2_with fail
    have hts2 := (hts.mono hbW).mono hbn
    have q2 := below_step hbW hbW.size hbn
    have hw2 := hwn
    clear hwn hbn hsz1 hbW
    generalize World.alloc _ _ = W2 at hts2 q2 hw2 ⊢
    refine (eqB_any ts [true] _ _ cT 1 _ hts2 hw2 hlt (by simp)).mono ?_
    rintro e w3 ⟨rfl, hb3⟩
    have q3 := below_step q2 q2.size hb3
    by_cases heq : ts = [true]
    · have hR := Lib.hid (show resR lib x ts = (false, 0) by rw [hW.out]; unfold resQ; rw [if_pos heq])
      have hd : decide (ts = [true]) = true := by simpa using heq
      go_wp2_with fail
      go_ret2
      exact ⟨by rw [hR.out]; rfl, q3⟩
    · have hR := Lib.hid (show resR lib x ts = (false, 7) by rw [hW.out]; unfold resQ; rw [if_neg heq])
      have hd : decide (ts = [true]) = false := by simpa using heq
      go_wp2_with fail
      go_ret2
      exact ⟨by rw [hR.out]; rfl, q3⟩
  case inr.inr.inr.inr.inr.inr.inr.inr.inr.inr.inr =>
    have hW := Lib.hid (show resR lib x ts = resQ ts ([], false) by unfold resR wantR; rw [if_neg (by omega), if_neg (by omega), if_neg (by omega), if_neg (by omega), if_neg (by omega), if_neg (by omega), if_neg (by omega), if_neg (by omega)])
    have k82 : ((x.kind : Int) == 82) = false := kindF (n := 82) (by omega)
    have k83 : ((x.kind : Int) == 83) = false := kindF (n := 83) (by omega)
    have k84 : ((x.kind : Int) == 84) = false := kindF (n := 84) (by omega)
    have k85 : ((x.kind : Int) == 85) = false := kindF (n := 85) (by omega)
    have k86 : ((x.kind : Int) == 86) = false := kindF (n := 86) (by omega)
    have k87 : ((x.kind : Int) == 87) = false := kindF (n := 87) (by omega)
    have k88 : ((x.kind : Int) == 88) = false := kindF (n := 88) (by omega)
    have k90 : ((x.kind : Int) == 90) = false := kindF (n := 90) (by omega)
    have k89 : ((x.kind : Int) == 89) = false := kindF (n := 89) (by omega)
    clear h h2 h85
    go_enter Try.func58, Try.ntmps58
    go_wp2_with fail
    have hts2 := hts.mono hbW
    have q2 := hbW
    clear hbW
    generalize World.alloc _ _ = W2 at hts2 q2 ⊢
    have hw2 := bls_nil W2
    refine (eqB_any ts [] _ _ cT 0 _ hts2 hw2 hlt (by simp)).mono ?_
    rintro e w3 ⟨rfl, hb3⟩
    have q3 := below_step q2 q2.size hb3
    by_cases heq : ts = []
    · have hR := Lib.hid (show resR lib x ts = (false, 0) by rw [hW.out]; unfold resQ; rw [if_pos heq])
      have hd : decide (ts = []) = true := by simpa using heq
      go_wp2_with fail
      go_ret2
      exact ⟨by rw [hR.out]; rfl, q3⟩
    · have hR := Lib.hid (show resR lib x ts = (false, 7) by rw [hW.out]; unfold resQ; rw [if_neg heq])
      have hd : decide (ts = []) = false := by simpa using heq
      go_wp2_with fail
      go_ret2
      exact ⟨by rw [hR.out]; rfl, q3⟩

end Go.Proofs.Ytoankdaddgjnlaa
