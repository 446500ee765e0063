/-
  The contract of the evaluator's expr: numbers, variables, conditions and bindings.
-/
import Derived.Test.YtoankdaddgjnlaaFevExpr2
import Derived.Test.YtoankdaddgjnlaaFevType
namespace Go.Proofs.Ytoankdaddgjnlaa
open Go.ChangeShapes Go.WideShapes Go.ChangeAt Go.RowKit Go.Sort Go.Maps

theorem epre_ret {W0 : World} {A : Option Addr} {cap : Nat} {lib : List Fn1} {bv : Nat} {tr : Bool} {d : Nat} {x : Nd} {Ak : Option Addr} {F : Int} {act n bm bc : Nat} {env : ByteArray → Option Vl} {S : Nat → Prop} {v : Value} {ts : List Tr} {w : World} (h : EPre W0 A cap lib bv tr d x Ak F act n bm bc env S v ts w) (hF : 0 < F) {y : Vl} {A' : Option Addr} {c' : Nat} (hi : IntsC w (Hd S v) A' c' y.l) (hy : y.l.length ≤ 1000000) {o : Out} (ho : o = .ok y (F.toNat - 1) []) (u0 u1 u2 u3 : Value) (T1 T2 : TypeId) :
    RetE o A cap lib bv bc tr act S v ts w (.returned (.tuple #[.agg #[.bool y.list, .int .i64 y.n, .slice A' y.l.length c'], .int .i64 0])) (((w.setCell ⟨bv, 1, none⟩ (.int .i64 (F - 1))).alloc (Obj.cells #[u0, u1, u2, u3] T1)).alloc (Obj.cells #[.bool y.list, .int .i64 y.n, .slice A' y.l.length c'] T2)) := by
  have f1 := Fr.of_set w ⟨bv, 1, none⟩ (.int .i64 (F - 1))
  have ev1 := Bx.set h.ev 1 (.int .i64 (F - 1))
  have hFe : F - 1 = ((F.toNat - 1 : Nat) : Int) := by omega
  rw [hFe] at f1 ev1 ⊢
  generalize hw1 : w.setCell ⟨bv, 1, none⟩ (.int .i64 ((F.toNat - 1 : Nat) : Int)) = w1 at *
  have b2 := two_box w1 (Obj.cells #[u0, u1, u2, u3] T1) (Obj.cells #[.bool y.list, .int .i64 y.n, .slice A' y.l.length c'] T2)
  have fr := f1.trans (Fr.of_below b2 (fun _ => False)) (fun _ _ e => e.elim)
  have hm : ∀ k, k < w.heap.size → k = bv → Hd S v k := fun k _ e => .inl (by rw [e]; exact h.Sv)
  have hown := h.cs.own_gt
  refine ⟨fr.mono fun k _ e => .inl e, .inr ⟨y, F.toNat - 1, [], ho, A', c', v, rfl, hy, hi.le (Le.of_fr fr hm fun _ _ e => e), ev1.below b2, ?_, .inl rfl⟩⟩
  have := h.cs.fr fr (fun e => by have : bc = bv := e; have := h.bcl; omega) (fun g hg e => by have : g = bv := e; have := (hown g hg).1; have := h.bcl; omega) hm (fun _ _ e => e)
  cases tr <;> simpa [trC] using this

theorem ev_80 {lib : List Fn1} {d act : Nat} {env : ByteArray → Option Vl} {x : Nd} {f : Nat} (h0 : 0 < f) (hk : x.kind = 80) : ev apR lib (d + 1) act env x f = .ok ⟨false, x.num, []⟩ (f - 1) [] := by
  rw [ev, if_neg (by omega), if_pos hk]
theorem ev_81 {lib : List Fn1} {d act : Nat} {env : ByteArray → Option Vl} {x : Nd} {f : Nat} (h0 : 0 < f) (hk : x.kind = 81) : ev apR lib (d + 1) act env x f = .ok ((env x.name).getD zeroV) (f - 1) [] := by
  rw [ev, if_neg (by omega), if_neg (by omega), if_pos hk]

set_option maxRecDepth 100000 in
set_option maxHeartbeats 1000000 in
theorem expr_80 {W0 : World} {A : Option Addr} {cap : Nat} {lib : List Fn1} {bv : Nat} {tr : Bool} {d : Nat} {x : Nd} {Ak : Option Addr} {F : Int} {act n bm bc : Nat} {env : ByteArray → Option Vl} {S : Nat → Prop} {v : Value} {ts : List Tr} {w : World} (h : EPre W0 A cap lib bv tr (d + 1) x Ak F act n bm bc env S v ts w) (ck : Nat) (hF : 0 < F) (hk : x.kind = 80) :
    Calls Try.prog 28 #[.pointer (some ⟨bv, 0, none⟩), .agg #[.int .u8 x.kind, .int .i64 x.num, .string x.name, .slice Ak x.kids.length ck], .map (some bm), .pointer (some ⟨bc, 0, none⟩)] w
      (RetE (ev apR lib (d + 1) act env x F.toNat) A cap lib bv bc tr act S v ts w) := by
  have HR := Lib.hid (epre_ret h hF (y := ⟨false, x.num, []⟩) (IntsC.nil _ _ none 0) (by simp) (ev_80 (lib := lib) (d := d) (act := act) (env := env) (by omega : 0 < F.toNat) hk) (.int .u8 x.kind) (.int .i64 x.num) (.string x.name) (.slice Ak x.kids.length ck) 41 28)
  obtain ⟨v0, v1, v2, v3, z0, z1, z2, z3⟩ := h.ev.four
  have hlv : bv < w.heap.size := h.ev.lt
  have hes := Lib.hid (h.start (.int .u8 x.kind) (.int .i64 x.num) (.string x.name) (.slice Ak x.kids.length ck) 41 28)
  have hF0 : decide (F ≤ 0) = false := by simp; omega
  have hFu : F ≤ 1000000 := by have := h.tn; omega
  obtain ⟨hf1, hf2, hf3, hf4⟩ := h.fit.facts
  have HP := Lib.hid h
  clear h
  have k80 : ((x.kind : Int) == 80) = true := by rw [hk]; rfl
  clear hk hes HP
  go_enter Try.func28, Try.ntmps28
  go_wp2_with fail
  exact bodyPost_ret (v := .tuple #[.agg #[.bool false, .int .i64 x.num, .slice none 0 0], .int .i64 0]) (by simp [results, Try.results28, go_sem]) rfl HR.out

set_option maxRecDepth 100000 in
set_option maxHeartbeats 1000000 in
theorem expr_81 {W0 : World} {A : Option Addr} {cap : Nat} {lib : List Fn1} {bv : Nat} {tr : Bool} {d : Nat} {x : Nd} {Ak : Option Addr} {F : Int} {act n bm bc : Nat} {env : ByteArray → Option Vl} {S : Nat → Prop} {v : Value} {ts : List Tr} {w : World} (h : EPre W0 A cap lib bv tr (d + 1) x Ak F act n bm bc env S v ts w) (ck : Nat) (hF : 0 < F) (hk : x.kind = 81) :
    Calls Try.prog 28 #[.pointer (some ⟨bv, 0, none⟩), .agg #[.int .u8 x.kind, .int .i64 x.num, .string x.name, .slice Ak x.kids.length ck], .map (some bm), .pointer (some ⟨bc, 0, none⟩)] w
      (RetE (ev apR lib (d + 1) act env x F.toNat) A cap lib bv bc tr act S v ts w) := by
  obtain ⟨raw, hM, A', c', hraw, hi, hil⟩ := h.env.get x.name
  have HR := Lib.hid (epre_ret h hF hi hil (ev_81 (lib := lib) (d := d) (act := act) (env := env) (by omega : 0 < F.toNat) hk) (.int .u8 x.kind) (.int .i64 x.num) (.string x.name) (.slice Ak x.kids.length ck) 41 28)
  have hbm : bm ≠ bv := fun e => h.env.1 (by rw [e]; exact .inl h.Sv)
  have HM := Lib.hid (hM.fr ((Fr.of_set w ⟨bv, 1, none⟩ (.int .i64 (F - 1))).trans (Fr.of_below (two_box (w.setCell ⟨bv, 1, none⟩ (.int .i64 (F - 1))) (Obj.cells #[.int .u8 x.kind, .int .i64 x.num, .string x.name, .slice Ak x.kids.length ck] 41) (Obj.cells #[.bool false, .int .i64 0, .slice none 0 0] 28)) (fun _ => False)) (fun _ _ e => e.elim)) hbm)
  have HRAW := Lib.hid hraw
  obtain ⟨v0, v1, v2, v3, z0, z1, z2, z3⟩ := h.ev.four
  have hlv : bv < w.heap.size := h.ev.lt
  have hes := Lib.hid (h.start (.int .u8 x.kind) (.int .i64 x.num) (.string x.name) (.slice Ak x.kids.length ck) 41 28)
  have hF0 : decide (F ≤ 0) = false := by simp; omega
  have hFu : F ≤ 1000000 := by have := h.tn; omega
  obtain ⟨hf1, hf2, hf3, hf4⟩ := h.fit.facts
  have HP := Lib.hid h
  clear h
  have k80 : ((x.kind : Int) == 80) = false := beqK (n := 80) (by omega)
  have k81 : ((x.kind : Int) == 81) = true := by rw [hk]; rfl
  clear hk hes HP hM hraw hi hil hbm
  generalize (env x.name).getD zeroV = y at *
  go_enter Try.func28, Try.ntmps28
  go_wp2_with (at_lookup; go_loud (refine wpList_look_V _ rfl _ _ 89 rfl Try.underlying89 bm n raw rfl HM.out x.name rfl hf3 ?_; rw [HRAW.out]))
  exact bodyPost_ret (v := .tuple #[.agg #[.bool y.list, .int .i64 y.n, .slice A' y.l.length c'], .int .i64 0]) (by simp [results, Try.results28, go_sem]) rfl HR.out

theorem ev_83 {lib : List Fn1} {d act : Nat} {env : ByteArray → Option Vl} {x : Nd} {f : Nat} (h0 : 0 < f) (hk : x.kind = 83) {y0 y1 y2 : Nd} (hkids : x.kids = [y0, y1, y2]) : ev apR lib (d + 1) act env x f = (ev apR lib d act env y0 (f - 1)).bind fun t f1 => ev apR lib d act env (if t.n ≠ 0 then y1 else y2) f1 := by
  rw [ev, if_neg (by omega), if_neg (by omega), if_neg (by omega), if_pos hk]
  have n0 : kidN x 0 = y0 := by unfold kidN; rw [hkids]; rfl
  have n1 : kidN x 1 = y1 := by unfold kidN; rw [hkids]; rfl
  have n2 : kidN x 2 = y2 := by unfold kidN; rw [hkids]; rfl
  rw [n0]
  congr 1
  funext t f1
  by_cases ht : t.n ≠ 0
  · rw [if_pos ht, if_pos ht, n1]
  · rw [if_neg ht, if_neg ht, n2]
theorem ev_84 {lib : List Fn1} {d act : Nat} {env : ByteArray → Option Vl} {x : Nd} {f : Nat} (h0 : 0 < f) (hk : x.kind = 84) {y0 y1 : Nd} (hkids : x.kids = [y0, y1]) : ev apR lib (d + 1) act env x f = (ev apR lib d act env y0 (f - 1)).bind fun t f1 => ev apR lib d act (setV env x.name t) y1 f1 := by
  rw [ev, if_neg (by omega), if_neg (by omega), if_neg (by omega), if_neg (by omega), if_pos hk]
  have n0 : kidN x 0 = y0 := by unfold kidN; rw [hkids]; rfl
  have n1 : kidN x 1 = y1 := by unfold kidN; rw [hkids]; rfl
  rw [n0, n1]
theorem RetE.below {o : Out} {A : Option Addr} {cap : Nat} {lib : List Fn1} {bv bc : Nat} {tr : Bool} {act : Nat} {S : Nat → Prop} {v : Value} {ts : List Tr} {w : World} {e : Ending} {w' w'' : World} (h : RetE o A cap lib bv bc tr act S v ts w e w') (hb : Below w'.heap.size w' w'') : RetE o A cap lib bv bc tr act S v ts w e w'' := by
  have f := Fr.of_below hb (fun _ => False)
  obtain ⟨h1, h2⟩ := h
  refine ⟨h1.trans f (fun _ _ e => e.elim), ?_⟩
  rcases h2 with ⟨q, ho, hq0, he, F', ev4⟩ | ⟨y, f1, c, ho, A', c', v', he, hyl, hi, ev4, cs4, hat⟩
  · exact .inl ⟨q, ho, hq0, he, F', ev4.below hb⟩
  · exact .inr ⟨y, f1, c, ho, A', c', v', he, hyl, hi.le (Le.of_fr f (fun _ _ e => e.elim) fun _ _ e => e), ev4.below hb, cs4.fr f id (fun _ _ => id) (fun _ _ e => e.elim) (fun _ _ e => e), hat⟩
theorem ES.turned {W0 : World} {A : Option Addr} {cap : Nat} {lib : List Fn1} {bv bc : Nat} {tr : Bool} {act n bm : Nat} {env : ByteArray → Option Vl} {S : Nat → Prop} {v0 : Value} {w : World} {u0 u1 u2 u3 : Value} {wc : World} {G : Int} {vc : Value} {ts : List Tr} (h : ES W0 A cap lib bv bc tr act n bm env S v0 w u0 u1 u2 u3 wc G vc ts) {w' : World} {b : Nat} (hT : wc.mapTurned w' b) (hlb : w.heap.size + 2 ≤ b) (hbm : bm ≠ b) : ES W0 A cap lib bv bc tr act n bm env S v0 w u0 u1 u2 u3 w' G vc ts := by
  have f := Fr.of_turned hT
  have hb := h.bvl
  obtain ⟨hx, raw, hM, h3, h4⟩ := h.env
  obtain ⟨c1, cs, c2, c3⟩ := h.cs
  refine ⟨h.fr.trans f (fun k hk e => by omega), f.below h.hb fun k e => by omega, h.ev.fr f (fun e => by omega), ⟨c1.fr f (fun e => by omega), cs, f.own c2 (fun g hg e => ?_), c3.map (TrC.le (Le.of_turned hT _))⟩, ⟨hx, raw, hM.fr f hbm, h3, fun s u hs => ?_⟩, h.nb.fr f (fun e => by omega), h.rb.fr f (fun e => by omega), h.at_, h.old, h.bvl, h.Sv, h.Sc, fun k e => Nat.lt_of_lt_of_le (h.Sl k e) f.size⟩
  · subst e
    obtain ⟨es, clock, _, _, hm, _⟩ := hT
    rcases c2.2 with ⟨e, _⟩ | ⟨g', cap', cur, e, _, hc, _⟩
    · rw [e] at hg; cases hg
    · rw [e] at hg
      have : g' = g := Option.some.inj hg
      subst this
      rw [hm] at hc; cases hc
  · obtain ⟨h5, A', c', h6, h7⟩ := h4 s u hs
    exact ⟨h5, A', c', h6, h7.le (Le.of_turned hT _)⟩
/-- What is asked of an operand. -/
theorem epre_kid {W0 : World} {A : Option Addr} {cap : Nat} {lib : List Fn1} {bv : Nat} {tr : Bool} {d : Nat} {x : Nd} {Ak : Option Addr} {F : Int} {act n bm bc : Nat} {env : ByteArray → Option Vl} {S : Nat → Prop} {v : Value} {ts : List Tr} {w : World} (h : EPre W0 A cap lib bv tr d x Ak F act n bm bc env S v ts w) {k : Nat} {y : Nd} (hy : x.kids[k]? = some y) : formT y = true ∧ arT lib y = true ∧ sizeT y ≤ 500000 := by
  have h1 := h.form
  rw [formT_eq] at h1
  have h2 := h.ar
  rw [arT_eq] at h2
  have h3 := h.size
  rw [sizeT_eq] at h3
  obtain ⟨hk, e⟩ := List.getElem?_eq_some_iff.1 hy
  have h4 := sizeTL_step hk
  have h5 := sizeTL_le (l := x.kids) (k + 1)
  rw [e] at h4
  exact ⟨formT_kid (Bool.and_eq_true_iff.1 h1).2 y (List.mem_of_getElem? hy), arTL_kid (Bool.and_eq_true_iff.1 h2).2 hy, by omega⟩
theorem ev_sp {lib : List Fn1} {d act : Nat} {env : ByteArray → Option Vl} {y : Nd} {f : Nat} {u : Vl} {f1 : Nat} {c : List Tr} (h : ev apR lib d act env y f = .ok u f1 c) : f1 + c.length + 1 ≤ f := by
  have h1 := ev_cost apR lib d act env y f
  rw [h] at h1
  have h2 : f1 + stepsL c + 1 ≤ f := h1
  have h3 : c.length ≤ stepsL c := by
    clear h1 h2 h
    induction c with
    | nil => simp
    | cons t r ih => cases t; rw [stepsL, stepsT, List.length_cons]; omega
  omega

set_option maxRecDepth 100000 in
set_option maxHeartbeats 4000000 in
theorem expr_83 {W0 : World} {A : Option Addr} {cap : Nat} {lib : List Fn1} {bv : Nat} {tr : Bool} {d : Nat} {x : Nd} {Ak : Option Addr} {F : Int} {act n bm bc : Nat} {env : ByteArray → Option Vl} {S : Nat → Prop} {v : Value} {ts : List Tr} {w : World} (h : EPre W0 A cap lib bv tr (d + 1) x Ak F act n bm bc env S v ts w) (ck : Nat) (hF : 0 < F) (hE : ExprC W0 A cap lib bv tr d) (hk : x.kind = 83) :
    Calls Try.prog 28 #[.pointer (some ⟨bv, 0, none⟩), .agg #[.int .u8 x.kind, .int .i64 x.num, .string x.name, .slice Ak x.kids.length ck], .map (some bm), .pointer (some ⟨bc, 0, none⟩)] w
      (RetE (ev apR lib (d + 1) act env x F.toNat) A cap lib bv bc tr act S v ts w) := by
  obtain ⟨y0, y1, y2, hkids⟩ := three ((form_len (Bool.and_eq_true_iff.1 ((formT_eq x).symm.trans h.form)).1).2.1 hk)
  have HEV := Lib.hid (ev_83 (lib := lib) (d := d) (act := act) (env := env) (by omega : 0 < F.toNat) hk hkids)
  obtain ⟨kb0, ko0, Ay0, cy0, eA0, kl0, c00, c01, c02, c03, hks0⟩ := h.kids.kid (k := 0) (by rw [hkids]; simp)
  have hgk0 : x.kids[0]? = some y0 := by rw [hkids]; rfl
  have hkk0 : x.kids[0]'(by rw [hkids]; simp) = y0 := by simp [hkids]
  rw [hkk0] at c00 c01 c02 c03 hks0
  have d00 := below_cell h.hb c00
  have d01 := below_cell h.hb c01
  have d02 := below_cell h.hb c02
  have d03 := below_cell h.hb c03
  have hfit0 := h.fit.kid hgk0
  have HC0 := Lib.hid (And.intro c00 (And.intro c01 (And.intro c02 c03)))
  clear c00 c01 c02 c03 hkk0
  obtain ⟨kb1, ko1, Ay1, cy1, eA1, kl1, c10, c11, c12, c13, hks1⟩ := h.kids.kid (k := 1) (by rw [hkids]; simp)
  have hgk1 : x.kids[1]? = some y1 := by rw [hkids]; rfl
  have hkk1 : x.kids[1]'(by rw [hkids]; simp) = y1 := by simp [hkids]
  rw [hkk1] at c10 c11 c12 c13 hks1
  have d10 := below_cell h.hb c10
  have d11 := below_cell h.hb c11
  have d12 := below_cell h.hb c12
  have d13 := below_cell h.hb c13
  have hfit1 := h.fit.kid hgk1
  have HC1 := Lib.hid (And.intro c10 (And.intro c11 (And.intro c12 c13)))
  clear c10 c11 c12 c13 hkk1
  obtain ⟨kb2, ko2, Ay2, cy2, eA2, kl2, c20, c21, c22, c23, hks2⟩ := h.kids.kid (k := 2) (by rw [hkids]; simp)
  have hgk2 : x.kids[2]? = some y2 := by rw [hkids]; rfl
  have hkk2 : x.kids[2]'(by rw [hkids]; simp) = y2 := by simp [hkids]
  rw [hkk2] at c20 c21 c22 c23 hks2
  have d20 := below_cell h.hb c20
  have d21 := below_cell h.hb c21
  have d22 := below_cell h.hb c22
  have d23 := below_cell h.hb c23
  have hfit2 := h.fit.kid hgk2
  have HC2 := Lib.hid (And.intro c20 (And.intro c21 (And.intro c22 c23)))
  clear c20 c21 c22 c23 hkk2
  rw [eA0] at eA1 eA2
  cases eA1
  cases eA2
  have hkp0 := Lib.hid (epre_kid h hgk0)
  have hkp1 := Lib.hid (epre_kid h hgk1)
  have hkp2 := Lib.hid (epre_kid h hgk2)
  have hne1 : kb0 ≠ bv := by have := h.bvl; omega
  have hne2 : bv ≠ kb0 := by omega
  have hkl : kb0 < w.heap.size := block_lt_of_cell d00
  have hlen3 : x.kids.length = 3 := by rw [hkids]; rfl
  subst eA0
  simp only [Nat.zero_mul, Nat.add_zero, Nat.one_mul, Nat.reduceMul] at d00 d01 d02 d03 d10 d11 d12 d13 d20 d21 d22 d23
  obtain ⟨v0, v1, v2, v3, z0, z1, z2, z3⟩ := h.ev.four
  have hlv : bv < w.heap.size := h.ev.lt
  have hes := Lib.hid (h.start (.int .u8 x.kind) (.int .i64 x.num) (.string x.name) (.slice (some ⟨kb0, ko0, none⟩) x.kids.length ck) 41 28)
  have hF0 : decide (F ≤ 0) = false := by simp; omega
  have hFu : F ≤ 1000000 := by have := h.tn; omega
  obtain ⟨hf1, hf2, hf3, hf4⟩ := h.fit.facts
  have HP := Lib.hid h
  clear h
  have k80 : ((x.kind : Int) == 80) = false := beqK (n := 80) (by omega)
  have k81 : ((x.kind : Int) == 81) = false := beqK (n := 81) (by omega)
  have k83 : ((x.kind : Int) == 83) = true := by rw [hk]; rfl
  have r1 : (0 : Int) < x.kids.length := by omega
  have r2 : (1 : Int) < x.kids.length := by omega
  have r3 : (2 : Int) < x.kids.length := by omega
  have hFe : F.toNat - 1 = (F - 1).toNat := by omega
  rw [hFe] at HEV
  have hG1 : (F - 1).toNat ≤ d := by have := HP.out.fuel; omega
  have hG2 : n + (F - 1).toNat ≤ 1000000 := by have := HP.out.en; omega
  have hG3 : ts.length + (F - 1).toNat ≤ 900000 := by have := HP.out.tn; omega
  have hac := HP.out.act30
  clear hFe
  clear hk hgk0 hgk1 hgk2 hkids hlen3
  go_enter Try.func28, Try.ntmps28
  go_wp2_with fail
  clear v0 v1 v2 v3 z0 z1 z2 z3 d00 d01 d02 d03 d10 d11 d12 d13 d20 d21 d22 d23
  generalize World.alloc _ _ = W at hes ⊢
  refine (es_kidC hE hes.out hks0 hfit0 hkp0.out.1 hkp0.out.2.1 hkp0.out.2.2 hes.out.env hG1 hG2 hG3 hac).mono ?_
  rintro e w4 ⟨hf4, h4⟩
  have rb4 := hes.out.rb.fr hf4 hes.out.mx.1.2
  have hrl := rb4.lt
  rcases h4 with ⟨q, ho, hq0, ⟨b, m, A', k, c, rfl⟩, F', ev4⟩ | ⟨t, f1, c, ho, A', c', v', rfl, hyl, hi, ev4, cs4, hat⟩
  · have hq1 : (q != 0) = true := by simpa using hq0
    have RF1 := Lib.hid (hes.out.fail (ts := ts) hf4 ev4 hq0 (HEV.out.trans (by rw [ho]; rfl)) false 0 none 0 0)
    obtain ⟨y0', y1', y2', x0, x1, x2⟩ := rb4.three
    have rb5 := rb4.set3 (.bool false) (.int .i64 0) (.slice none 0 0)
    clear ho HEV
    go_wp2_with fail
    generalize World.setCell _ _ _ = W5 at RF1 rb5 ⊢
    have bb := below_box W5 (Obj.cells #[.bool b, .int .i64 m, .slice A' k c] 28)
    have RF := RF1.out.below bb
    have rb6 := rb5.below bb
    generalize World.alloc _ _ = W6 at RF rb6 ⊢
    obtain ⟨s0, s1, s2, _⟩ := rb6.three
    exact bodyPost_ret (v := .tuple #[.agg #[.bool false, .int .i64 0, .slice none 0 0], .int .i64 q]) (by simp [results, Try.results28, go_sem, s0, s1, s2]) rfl RF
  · have hsp := ev_sp ho
    have es4 := hes.out.next hf4 ev4 cs4 hat
    have bb := below_box w4 (Obj.cells #[.bool t.list, .int .i64 t.n, .slice A' t.l.length c'] 28)
    have es5 := Lib.hid (es4.below bb)
    have hw4 : w4.heap.size ≠ w.heap.size + 1 := by omega
    have nb4 := es4.nb
    obtain ⟨n0, n1, n2, n3, _⟩ := nb4.four
    have hnl := nb4.lt
    have ES4 := Lib.hid es4
    clear es4 bb hi ev4 cs4 hat hf4
    by_cases htn : t.n = 0
    · have ht1 : (t.n != 0) = false := by simpa using htn
      have HEV2 := Lib.hid (HEV.out.trans (show _ = (ev apR lib d act env y2 f1).pre c by rw [ho]; show Out.pre c _ = _; dsimp only; rw [if_neg (fun e => e htn)]))
      obtain ⟨e20', e21', e22', e23'⟩ := HC2.out
      have e20 := below_cell ES4.out.hb e20'
      have e21 := below_cell ES4.out.hb e21'
      have e22 := below_cell ES4.out.hb e22'
      have e23 := below_cell ES4.out.hb e23'
      clear e20' e21' e22' e23'
      simp only [Nat.reduceMul] at e20 e21 e22 e23
      have hkl4 : kb0 < w4.heap.size := block_lt_of_cell e20
      clear htn HEV ho
      go_wp2_with fail
      clear e20 e21 e22 e23 n0 n1 n2 n3 nb4 ES4
      generalize World.alloc _ _ = W5 at es5 ⊢
      refine (es_kidC hE es5.out hks2 hfit2 hkp2.out.1 hkp2.out.2.1 hkp2.out.2.2 es5.out.env (by rw [Int.toNat_natCast]; omega) (by rw [Int.toNat_natCast]; omega) (by rw [Int.toNat_natCast, List.length_append]; have : (trC tr c).length ≤ c.length := (by cases tr <;> simp [trC]); omega) hac).mono ?_
      rintro e w6 hr
      obtain ⟨b, m, A6, k6, c6, q, rfl, rb6, hr6⟩ := es5.out.tail hr
      rw [Int.toNat_natCast, ← HEV2.out] at hr6
      have RF := hr6
      obtain ⟨y0', y1', y2', x0, x1, x2⟩ := rb6.three
      have rb7 := rb6.set3 (.bool b) (.int .i64 m) (.slice A6 k6 c6)
      clear hr hr6
      go_wp2_with fail
      generalize World.setCell _ _ _ = W7 at RF rb7 ⊢
      obtain ⟨s0, s1, s2, _⟩ := rb7.three
      exact bodyPost_ret (v := .tuple #[.agg #[.bool b, .int .i64 m, .slice A6 k6 c6], .int .i64 q]) (by simp [results, Try.results28, go_sem, s0, s1, s2]) rfl RF
    · have ht1 : (t.n != 0) = true := by simpa using htn
      have HEV2 := Lib.hid (HEV.out.trans (show _ = (ev apR lib d act env y1 f1).pre c by rw [ho]; show Out.pre c _ = _; dsimp only; rw [if_pos htn]))
      obtain ⟨e10', e11', e12', e13'⟩ := HC1.out
      have e10 := below_cell ES4.out.hb e10'
      have e11 := below_cell ES4.out.hb e11'
      have e12 := below_cell ES4.out.hb e12'
      have e13 := below_cell ES4.out.hb e13'
      clear e10' e11' e12' e13'
      simp only [Nat.one_mul] at e10 e11 e12 e13
      have hkl4 : kb0 < w4.heap.size := block_lt_of_cell e10
      clear htn HEV ho
      go_wp2_with fail
      clear e10 e11 e12 e13 n0 n1 n2 n3 nb4 ES4
      generalize World.alloc _ _ = W5 at es5 ⊢
      refine (es_kidC hE es5.out hks1 hfit1 hkp1.out.1 hkp1.out.2.1 hkp1.out.2.2 es5.out.env (by rw [Int.toNat_natCast]; omega) (by rw [Int.toNat_natCast]; omega) (by rw [Int.toNat_natCast, List.length_append]; have : (trC tr c).length ≤ c.length := (by cases tr <;> simp [trC]); omega) hac).mono ?_
      rintro e w6 hr
      obtain ⟨b, m, A6, k6, c6, q, rfl, rb6, hr6⟩ := es5.out.tail hr
      rw [Int.toNat_natCast, ← HEV2.out] at hr6
      have RF := hr6
      obtain ⟨y0', y1', y2', x0, x1, x2⟩ := rb6.three
      have rb7 := rb6.set3 (.bool b) (.int .i64 m) (.slice A6 k6 c6)
      clear hr hr6
      go_wp2_with fail
      generalize World.setCell _ _ _ = W7 at RF rb7 ⊢
      obtain ⟨s0, s1, s2, _⟩ := rb7.three
      exact bodyPost_ret (v := .tuple #[.agg #[.bool b, .int .i64 m, .slice A6 k6 c6], .int .i64 q]) (by simp [results, Try.results28, go_sem, s0, s1, s2]) rfl RF

set_option maxRecDepth 100000 in
set_option maxHeartbeats 4000000 in
theorem expr_84 {W0 : World} {A : Option Addr} {cap : Nat} {lib : List Fn1} {bv : Nat} {tr : Bool} {d : Nat} {x : Nd} {Ak : Option Addr} {F : Int} {act n bm bc : Nat} {env : ByteArray → Option Vl} {S : Nat → Prop} {v : Value} {ts : List Tr} {w : World} (h : EPre W0 A cap lib bv tr (d + 1) x Ak F act n bm bc env S v ts w) (ck : Nat) (hF : 0 < F) (hE : ExprC W0 A cap lib bv tr d) (hk : x.kind = 84) :
    Calls Try.prog 28 #[.pointer (some ⟨bv, 0, none⟩), .agg #[.int .u8 x.kind, .int .i64 x.num, .string x.name, .slice Ak x.kids.length ck], .map (some bm), .pointer (some ⟨bc, 0, none⟩)] w
      (RetE (ev apR lib (d + 1) act env x F.toNat) A cap lib bv bc tr act S v ts w) := by
  obtain ⟨y0, y1, hkids⟩ := two ((form_len (Bool.and_eq_true_iff.1 ((formT_eq x).symm.trans h.form)).1).2.2.1 hk)
  have HEV := Lib.hid (ev_84 (lib := lib) (d := d) (act := act) (env := env) (by omega : 0 < F.toNat) hk hkids)
  obtain ⟨kb0, ko0, Ay0, cy0, eA0, kl0, c00, c01, c02, c03, hks0⟩ := h.kids.kid (k := 0) (by rw [hkids]; simp)
  have hgk0 : x.kids[0]? = some y0 := by rw [hkids]; rfl
  have hkk0 : x.kids[0]'(by rw [hkids]; simp) = y0 := by simp [hkids]
  rw [hkk0] at c00 c01 c02 c03 hks0
  have d00 := below_cell h.hb c00
  have d01 := below_cell h.hb c01
  have d02 := below_cell h.hb c02
  have d03 := below_cell h.hb c03
  have hfit0 := h.fit.kid hgk0
  have HC0 := Lib.hid (And.intro c00 (And.intro c01 (And.intro c02 c03)))
  clear c00 c01 c02 c03 hkk0
  obtain ⟨kb1, ko1, Ay1, cy1, eA1, kl1, c10, c11, c12, c13, hks1⟩ := h.kids.kid (k := 1) (by rw [hkids]; simp)
  have hgk1 : x.kids[1]? = some y1 := by rw [hkids]; rfl
  have hkk1 : x.kids[1]'(by rw [hkids]; simp) = y1 := by simp [hkids]
  rw [hkk1] at c10 c11 c12 c13 hks1
  have d10 := below_cell h.hb c10
  have d11 := below_cell h.hb c11
  have d12 := below_cell h.hb c12
  have d13 := below_cell h.hb c13
  have hfit1 := h.fit.kid hgk1
  have HC1 := Lib.hid (And.intro c10 (And.intro c11 (And.intro c12 c13)))
  clear c10 c11 c12 c13 hkk1
  rw [eA0] at eA1
  cases eA1
  have hkp0 := Lib.hid (epre_kid h hgk0)
  have hkp1 := Lib.hid (epre_kid h hgk1)
  have hne1 : kb0 ≠ bv := by have := h.bvl; omega
  have hne2 : bv ≠ kb0 := by omega
  have hkl : kb0 < w.heap.size := block_lt_of_cell d00
  have hlen3 : x.kids.length = 2 := by rw [hkids]; rfl
  subst eA0
  simp only [Nat.zero_mul, Nat.add_zero, Nat.one_mul] at d00 d01 d02 d03 d10 d11 d12 d13
  obtain ⟨v0, v1, v2, v3, z0, z1, z2, z3⟩ := h.ev.four
  have hlv : bv < w.heap.size := h.ev.lt
  have hes := Lib.hid (h.start (.int .u8 x.kind) (.int .i64 x.num) (.string x.name) (.slice (some ⟨kb0, ko0, none⟩) x.kids.length ck) 41 28)
  have hF0 : decide (F ≤ 0) = false := by simp; omega
  have hFu : F ≤ 1000000 := by have := h.tn; omega
  obtain ⟨hf1, hf2, hf3, hf4⟩ := h.fit.facts
  have HP := Lib.hid h
  clear h
  have k80 : ((x.kind : Int) == 80) = false := beqK (n := 80) (by omega)
  have k81 : ((x.kind : Int) == 81) = false := beqK (n := 81) (by omega)
  have k83 : ((x.kind : Int) == 83) = false := beqK (n := 83) (by omega)
  have k84 : ((x.kind : Int) == 84) = true := by rw [hk]; rfl
  have r1 : (0 : Int) < x.kids.length := by omega
  have r2 : (1 : Int) < x.kids.length := by omega
  have hFe : F.toNat - 1 = (F - 1).toNat := by omega
  rw [hFe] at HEV
  have hG1 : (F - 1).toNat ≤ d := by have := HP.out.fuel; omega
  have hG2 : n + (F - 1).toNat ≤ 1000000 := by have := HP.out.en; omega
  have hG3 : ts.length + (F - 1).toNat ≤ 900000 := by have := HP.out.tn; omega
  have hac := HP.out.act30
  clear hFe
  clear hk hgk0 hgk1 hkids hlen3
  go_enter Try.func28, Try.ntmps28
  go_wp2_with fail
  clear v0 v1 v2 v3 z0 z1 z2 z3 d00 d01 d02 d03 d10 d11 d12 d13
  generalize World.alloc _ _ = W at hes ⊢
  refine (es_kidC hE hes.out hks0 hfit0 hkp0.out.1 hkp0.out.2.1 hkp0.out.2.2 hes.out.env hG1 hG2 hG3 hac).mono ?_
  rintro e w4 ⟨hf4, h4⟩
  have rb4 := hes.out.rb.fr hf4 hes.out.mx.1.2
  have hrl := rb4.lt
  rcases h4 with ⟨q, ho, hq0, ⟨b, m, A', k, c, rfl⟩, F', ev4⟩ | ⟨t, f1, c, ho, A', c', v', rfl, hyl, hi, ev4, cs4, hat⟩
  · have hq1 : (q != 0) = true := by simpa using hq0
    have RF1 := Lib.hid (hes.out.fail (ts := ts) hf4 ev4 hq0 (HEV.out.trans (by rw [ho]; rfl)) false 0 none 0 0)
    obtain ⟨y0', y1', y2', x0, x1, x2⟩ := rb4.three
    have rb5 := rb4.set3 (.bool false) (.int .i64 0) (.slice none 0 0)
    clear ho HEV
    go_wp2_with fail
    generalize World.setCell _ _ _ = W5 at RF1 rb5 ⊢
    have bb := below_box W5 (Obj.cells #[.bool b, .int .i64 m, .slice A' k c] 28)
    have RF := RF1.out.below bb
    have rb6 := rb5.below bb
    generalize World.alloc _ _ = W6 at RF rb6 ⊢
    obtain ⟨s0, s1, s2, _⟩ := rb6.three
    exact bodyPost_ret (v := .tuple #[.agg #[.bool false, .int .i64 0, .slice none 0 0], .int .i64 q]) (by simp [results, Try.results28, go_sem, s0, s1, s2]) rfl RF
  · have hsp := ev_sp ho
    have HEV2 := Lib.hid (HEV.out.trans (show _ = (ev apR lib d act (setV env x.name t) y1 f1).pre c by rw [ho]; rfl))
    have es4 := hes.out.next hf4 ev4 cs4 hat
    have bb := below_box w4 (Obj.cells #[.bool t.list, .int .i64 t.n, .slice A' t.l.length c'] 28)
    have es5 := Lib.hid (es4.below bb)
    have hi5 := Lib.hid (hi.le (X' := Hd (fun k => S k ∨ k = w.heap.size + 1) v') (Le.of_fr (Fr.of_below bb (fun _ => False)) (fun _ _ e => e.elim) fun _ _ e => e))
    have tb5 := bx_new w4 #[.bool t.list, .int .i64 t.n, .slice A' t.l.length c'] 28
    clear es4 bb hi ev4 cs4 hat hf4 HEV ho
    go_wp2_with fail
    generalize World.alloc _ _ = W5 at es5 hi5 tb5 ⊢
    obtain ⟨hXm, raw, hM, h3, h4⟩ := es5.out.env
    refine (mclone_any bm n raw W5 hM).mono ?_
    rintro e w6 ⟨rfl, hM6, hb6⟩
    have es6 := Lib.hid (es5.out.below hb6)
    have tb6 := tb5.below hb6
    have le6 : Le W5 (Hd (fun k => S k ∨ k = w.heap.size + 1) v') w6 (Hd (fun k => S k ∨ k = w.heap.size + 1) v') := Le.of_fr (Fr.of_below hb6 (fun _ => False)) (fun _ _ e => e.elim) fun _ _ e => e
    have hi6 := Lib.hid (hi5.out.le le6)
    have HM6 := Lib.hid hM6
    have hXn : ¬ Hd (fun k => S k ∨ k = w.heap.size + 1) v' W5.heap.size := fun e => by
      rcases e with e | e
      · have := es5.out.Sl _ e; omega
      · have := (es5.out.cs.own_gt _ e).2; omega
    have H34 := Lib.hid (And.intro hXn (And.intro h3 (fun (s : ByteArray) (u : Vl) (hs : env s = some u) => (show u.l.length ≤ 1000000 ∧ ∃ A c, raw s = some (.agg #[.bool u.list, .int .i64 u.n, .slice A u.l.length c]) ∧ IntsC w6 (Hd (fun k => S k ∨ k = w.heap.size + 1) v') A c u.l from by
      obtain ⟨p1, A1, c1, p2, p3⟩ := h4 s u hs
      exact ⟨p1, A1, c1, p2, p3.le le6⟩))))
    obtain ⟨t0, t1, t2, _⟩ := tb6.three
    obtain ⟨n0, n1, n2, n3, _⟩ := es6.out.nb.four
    have hbm7 : bm < W5.heap.size := hM.lt
    have hlt5 := es5.out.lt
    clear hM hM6 hXm h3 h4 hb6 tb5 tb6 es5 hi5 le6 hXn
    go_wp2_with (at_mapUpdate; go_loud (refine wpList_put_V _ rfl _ _ _ 89 (.inl rfl) Try.underlying89 W5.heap.size n raw rfl HM6.out (by unfold maxLen; omega) x.name _ rfl rfl hf3 ?_; intro w7 HM7 hT7; have es7 := Lib.hid (es6.out.turned hT7 (by omega) (by omega)); obtain ⟨p0, p1, p2, p3, _⟩ := es7.out.nb.four; obtain ⟨e10', e11', e12', e13'⟩ := HC1.out; have e10 := below_cell es7.out.hb e10'; have e11 := below_cell es7.out.hb e11'; have e12 := below_cell es7.out.hb e12'; have e13 := below_cell es7.out.hb e13'; clear e10' e11' e12' e13'; simp only [Nat.one_mul] at e10 e11 e12 e13; have hN := Lib.hid (EnvX.put H34.out.1 H34.out.2.1 H34.out.2.2 (Le.of_turned hT7 _) hi6.out hyl HM7); clear HM7 hT7 H34 HM6))
    clear e10 e11 e12 e13 p0 p1 p2 p3 t0 t1 t2 n0 n1 n2 n3 es6 hi6
    refine (es_kidC hE es7.out hks1 hfit1 hkp1.out.1 hkp1.out.2.1 hkp1.out.2.2 hN.out (by rw [Int.toNat_natCast]; omega) (by rw [Int.toNat_natCast]; omega) (by rw [Int.toNat_natCast, List.length_append]; have : (trC tr c).length ≤ c.length := (by cases tr <;> simp [trC]); omega) hac).mono ?_
    rintro e w8 hr
    obtain ⟨b, m, A6, k6, c6, q, rfl, rb6, hr6⟩ := es7.out.tail hr
    rw [Int.toNat_natCast, ← HEV2.out] at hr6
    have RF := hr6
    obtain ⟨y0', y1', y2', x0, x1, x2⟩ := rb6.three
    have rb7 := rb6.set3 (.bool b) (.int .i64 m) (.slice A6 k6 c6)
    clear hr hr6
    go_wp2_with fail
    generalize World.setCell _ _ _ = W7 at RF rb7 ⊢
    obtain ⟨s0, s1, s2, _⟩ := rb7.three
    exact bodyPost_ret (v := .tuple #[.agg #[.bool b, .int .i64 m, .slice A6 k6 c6], .int .i64 q]) (by simp [results, Try.results28, go_sem, s0, s1, s2]) rfl RF

end Go.Proofs.Ytoankdaddgjnlaa
