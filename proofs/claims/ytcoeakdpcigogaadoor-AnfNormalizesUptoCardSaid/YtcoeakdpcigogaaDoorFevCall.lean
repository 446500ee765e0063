/-
  The contract of the evaluator's call, from that of its expr.
-/
import Derived.Test.YtcoeakdpcigogaaDoorFevState
import Derived.StillTailTactics
import Derived.Deep.RegionLaw
import Derived.Deep.DrawnRows
namespace Go.Proofs.YtcoeakdpcigogaaDoor
open Go.ChangeShapes Go.WideShapes Go.ChangeAt Go.RowKit Go.Sort Go.Maps

/-- What holds of the library. -/
structure LibX (W0 : World) (A : Option Addr) (lib : List Fn1) : Prop where
  at_ : LibAt W0 A lib
  fit : LibFit lib
  form : ∀ (i : Nat) (f : Fn1), lib[i]? = some f → formT f.body = true
  ar : ∀ (i : Nat) (f : Fn1), lib[i]? = some f → arT lib f.body = true
  size : ∀ (i : Nat) (f : Fn1), lib[i]? = some f → sizeT f.body ≤ 500000
  par : ∀ (i : Nat) (f : Fn1), lib[i]? = some f → f.params.length ≤ 1000

def trC (tr : Bool) (c : List Tr) : List Tr := if tr = true then c else []
def trT (tr : Bool) (t : Tr) : Tr := if tr = true then t else .mk 0 [] t.res []
/-- What expr returns. -/
def RetE (o : Out) (A : Option Addr) (cap : Nat) (lib : List Fn1) (bv bc : Nat) (tr : Bool) (act : Nat) (S : Nat → Prop) (v : Value) (ts : List Tr) (w : World) (e : Ending) (w' : World) : Prop :=
  Fr w w' (Mx bv bc v) ∧
  ((∃ n, o = .err n ∧ n ≠ 0 ∧ (∃ (b : Bool) (m : Int) (A' : Option Addr) (k c : Nat), e = .returned (.tuple #[.agg #[.bool b, .int .i64 m, .slice A' k c], .int .i64 n])) ∧ ∃ F', EvAt w' bv A cap lib F' act tr) ∨
  (∃ y f1 c, o = .ok y f1 c ∧ ∃ A' c' v', e = .returned (.tuple #[.agg #[.bool y.list, .int .i64 y.n, .slice A' y.l.length c'], .int .i64 0]) ∧ y.l.length ≤ 1000000 ∧ IntsC w' (Hd S v') A' c' y.l ∧ EvAt w' bv A cap lib f1 act tr ∧
    CsAt w' (Hd S v') bc v' (ts ++ trC tr c) ∧ (v'.ownBlock = v.ownBlock ∨ ∃ g, v'.ownBlock = some g ∧ w.heap.size ≤ g)))
/-- The contract of expr with at most d fuel. -/
def ExprC (W0 : World) (A : Option Addr) (cap : Nat) (lib : List Fn1) (bv : Nat) (tr : Bool) (d : Nat) : Prop :=
  ∀ (x : Nd) (Ak : Option Addr) (ck : Nat) (F : Int) (act n bm bc : Nat) (env : ByteArray → Option Vl) (S : Nat → Prop) (v : Value) (ts : List Tr) (w : World),
    NdsAt W0 Ak x.kids → NdFit x → formT x = true → arT lib x = true → sizeT x ≤ 500000 → Below W0.heap.size W0 w → W0.heap.size ≤ bv → bv < bc →
    EvAt w bv A cap lib F act tr → CsAt w (Hd S v) bc v ts → EnvX w (Hd S v) bm n env → S bv → S bc → (∀ k, S k → k < w.heap.size) →
    F.toNat ≤ d → n + F.toNat ≤ 1000000 → ts.length + F.toNat ≤ 900000 → act ≤ 30 →
    Calls Tryd.prog 75 #[.pointer (some ⟨bv, 0, none⟩), .agg #[.int .u8 x.kind, .int .i64 x.num, .string x.name, .slice Ak x.kids.length ck], .map (some bm), .pointer (some ⟨bc, 0, none⟩)] w
      (RetE (ev apR lib d act env x F.toNat) A cap lib bv bc tr act S v ts w)
/-- The list of the result is new. -/
def NewR (tr : Bool) (w w' : World) (cs : List Value) (l : List Int) : Prop := ∃ A m c, cs[4]? = some (.slice A m c) ∧ IntsX w' (fun k => k < w.heap.size) A l ∧ (tr = false → IntsX w' (Nw w w') A l)
/-- What call returns. -/
def RetC (o : OutT) (A : Option Addr) (cap : Nat) (lib : List Fn1) (bv : Nat) (tr : Bool) (act : Nat) (S : Nat → Prop) (w : World) (e : Ending) (w' : World) : Prop :=
  Fr w w' (fun k => k = bv) ∧
  ((∃ n, o = .err n ∧ n ≠ 0 ∧ e = .returned (.tuple #[.agg #[.int .i64 0, .slice none 0 0, .bool false, .int .i64 0, .slice none 0 0, .slice none 0 0], .int .i64 n]) ∧ ∃ F', EvAt w' bv A cap lib F' act tr) ∨
  (∃ t f1, o = .ok t f1 ∧ t.res.l.length ≤ 1000000 ∧ EvAt w' bv A cap lib f1 act tr ∧ ∃ cs, TrC w' S cs (trT tr t) ∧ NewR tr w w' cs t.res.l ∧ e = .returned (.tuple #[.agg cs.toArray, .int .i64 0])))

theorem Le.of_turned {w w' : World} {b : Nat} (h : w.mapTurned w' b) (X : Nat → Prop) : Le w X w' X := fun a v hc hn => by
  refine ⟨?_, hn⟩
  by_cases e : a.block = b
  · obtain ⟨es, clock, es', clock', hb, _⟩ := h
    unfold World.cell? at hc
    rw [e, hb] at hc
    cases hc
  · exact (Fr.of_turned h).cell hc e
theorem envV_snoc : ∀ (ps : List Pm) (vs : List Vl) (env : ByteArray → Option Vl) (p : Pm) (v : Vl), ps.length = vs.length → envV (ps ++ [p]) (vs ++ [v]) env = setV (envV ps vs env) p.name v
  | [], [], env, p, v, _ => rfl
  | q :: ps, u :: vs, env, p, v, h => by
    rw [List.cons_append, List.cons_append, envV, envV, envV_snoc ps vs _ p v (by simpa using h)]
theorem envV_step {ps : List Pm} {vs : List Vl} {k : Nat} (h : vs.length = ps.length) (hk : k < ps.length) (hk' : k < vs.length) (env : ByteArray → Option Vl) : envV (ps.take (k + 1)) (vs.take (k + 1)) env = setV (envV (ps.take k) (vs.take k) env) ps[k].name vs[k] := by
  rw [List.take_succ_eq_append_getElem hk, List.take_succ_eq_append_getElem hk', envV_snoc _ _ _ _ _ (by simp; omega)]

theorem cln_len {y : Vl} (h : y.l.length ≤ 1000000) : (cln y).l.length ≤ 1000000 := by
  unfold cln; split <;> simp <;> omega
theorem info_val : (Tryd.prog.info? 46).map (fun i => (i.zero, i.size, i.bytes)) = some (some (.agg #[.bool false, .int .i64 0, .slice none 0 0]), 3, 40) := by kernel_rfl
theorem VlC.mk {w : World} {X : Nat → Prop} {v : Vl} {A : Option Addr} {c : Nat} (h : IntsC w X A c v.l) : VlC w X [.bool v.list, .int .i64 v.n, .slice A v.l.length c] v := ⟨A, c, rfl, h⟩
/-! ### The arguments of a tree under construction -/
theorem Le.grow {w w' : World} {m X : Nat → Prop} (h : Fr w w' m) (hm : ∀ k, k < w.heap.size → m k → X k) : Le w X w' (fun k => X k ∨ w.heap.size ≤ k) :=
  Le.of_fr h hm fun _ hk e => e.elim id fun e => absurd hk (Nat.not_lt.2 e)
theorem cells_new (w : World) (cs : List Value) (T : TypeId) : CellsAt (w.alloc (Obj.cells cs.toArray T)) (some ⟨w.heap.size, 0, none⟩) cs := fun j u hu => by
  refine ⟨w.heap.size, 0, rfl, ?_⟩
  rw [Nat.zero_add]
  exact (bx_new w cs.toArray T).cell (by simpa using hu)
structure ArgsI (V0 wr : World) (bt : Nat) (c0 c2 c3 c4 vA : Value) (l : List Vl) : Prop where
  fr : Fr V0 wr (fun k => k = bt)
  bx : Bx wr bt #[c0, vA, c2, c3, c4, .slice none 0 0]
  own : ∃ cs, wr.ownsRow (bt + 1) 46 3 vA l.length cs ∧ RowG (VlC wr (Hd (fun k => k ≤ bt) vA)) cs l
theorem ArgsI.below {V0 wr w' : World} {bt : Nat} {c0 c2 c3 c4 vA : Value} {l : List Vl} (h : ArgsI V0 wr bt c0 c2 c3 c4 vA l) (hb : Below wr.heap.size wr w') : ArgsI V0 w' bt c0 c2 c3 c4 vA l := by
  obtain ⟨h1, h2, cs, h3, h4⟩ := h
  have f := Fr.of_below hb (fun _ => False)
  exact ⟨h1.trans f (fun _ _ e => e.elim), h2.fr f id, cs, f.own h3 (fun _ _ => id), h4.map (VlC.le (Le.of_fr f (fun _ _ e => e.elim) fun _ _ e => e))⟩
theorem ArgsI.ge {V0 wr : World} {bt : Nat} {c0 c2 c3 c4 vA : Value} {l : List Vl} (h : ArgsI V0 wr bt c0 c2 c3 c4 vA l) : ∀ g, vA.ownBlock = some g → bt + 1 ≤ g ∧ g < wr.heap.size := by
  obtain ⟨_, _, cs, h3, _⟩ := h; exact h3.lt
theorem ArgsI.push {V0 wB w6 : World} {bt N : Nat} {c0 c2 c3 c4 vA v' : Value} {l : List Vl} (h : ArgsI V0 wB bt c0 c2 c3 c4 vA l) {cs : List Value} (hr : RowG (VlC wB (Hd (fun k => k ≤ bt) vA)) cs l) (hVb : bt < V0.heap.size) (hN : V0.heap.size ≤ N ∧ N ≤ wB.heap.size) (hvN : ∀ g, vA.ownBlock = some g → V0.heap.size ≤ g ∧ g < N)
    {u : Vl} {A : Option Addr} {c : Nat} (hi : IntsC wB (fun k => k < N) A c u.l) (hg : wB.grownBy w6 vA.ownBlock) (hat : v'.ownBlock = vA.ownBlock ∨ v'.ownBlock = some wB.heap.size)
    (hown : w6.ownsRow (bt + 1) 46 3 v' (l.length + 1) (cs ++ [.bool u.list, .int .i64 u.n, .slice A u.l.length c])) :
    ArgsI V0 (w6.setCell ⟨bt, 1, none⟩ v') bt c0 c2 c3 c4 v' (l ++ [u]) := by
  have f1 := Fr.of_grown hg
  have f2 := Fr.of_set w6 ⟨bt, 1, none⟩ v'
  have hbt : vA.ownBlock ≠ some bt := fun e => by have := (hvN bt e).1; omega
  have hbt' : v'.ownBlock ≠ some bt := fun e => by
    rcases hat with h | h
    · exact hbt (h.symm.trans e)
    · rw [h] at e; have := Option.some.inj e; omega
  have hX : ∀ k, k < wB.heap.size → Hd (fun k => k ≤ bt) v' k → Hd (fun k => k ≤ bt) vA k := fun k hk e => by
    rcases e with e | e
    · exact .inl e
    · rcases hat with h | h
      · exact .inr (h.symm.trans e)
      · rw [h] at e; have := Option.some.inj e; omega
  have l1 : Le wB (Hd (fun k => k ≤ bt) vA) w6 (Hd (fun k => k ≤ bt) v') := Le.of_fr f1 (fun k _ e => .inr e.symm) hX
  have l2 : Le w6 (Hd (fun k => k ≤ bt) v') (w6.setCell ⟨bt, 1, none⟩ v') (Hd (fun k => k ≤ bt) v') := Le.of_fr f2 (fun k _ e => .inl (by show k ≤ bt; rw [e]; exact Nat.le_refl _)) fun _ _ e => e
  have l3 := l1.trans l2
  refine ⟨(h.fr.trans f1 (fun k hk e => ?_)).trans f2 (fun _ _ e => e), ?_, cs ++ [.bool u.list, .int .i64 u.n, .slice A u.l.length c], ?_, ?_⟩
  · have := (hvN k e.symm).1; omega
  · have h1 := (h.bx.fr f1 (fun e => hbt e.symm)).set 1 v'
    exact h1
  · rw [List.length_append]
    exact ownsRow_setCell_other hown hbt' v'
  · refine .snoc (hr.map (VlC.le l3)) ⟨A, c, rfl, IntsC.le (X := Hd (fun k => k ≤ bt) vA) (hi.le (Le.less fun k _ e => ?_)) l3⟩
    rcases e with e | e
    · show k < N
      have : k ≤ bt := e
      omega
    · exact (hvN k e).2

set_option maxRecDepth 100000 in
set_option maxHeartbeats 4000000 in
theorem call_of (W0 : World) (A : Option Addr) (cap : Nat) (lib : List Fn1) (hL : LibX W0 A lib) (bv : Nat) (tr : Bool) (d : Nat) (hE : ExprC W0 A cap lib bv tr d)
    (f : Nat) (fn : Fn1) (args : List Vl) (Aa : Option Addr) (ca : Nat) (F : Int) (act : Nat) (S : Nat → Prop) (w : World)
    (hf : lib[f]? = some fn) (hla : args.length = fn.params.length) (hV : VlsX w S Aa args) (hvl : ∀ v ∈ args, v.l.length ≤ 1000000) (hb0 : Below W0.heap.size W0 w) (hbv : W0.heap.size ≤ bv)
    (hev : EvAt w bv A cap lib F act tr) (hS : S bv) (hSl : ∀ k, S k → k < w.heap.size) (hd : F.toNat ≤ d) (hF : F.toNat ≤ 900000) (hact : act ≤ 30) :
    Calls Tryd.prog 57 #[.pointer (some ⟨bv, 0, none⟩), .int .i64 f, .slice Aa args.length ca] w
      (RetC (enter lib (ev apR lib d) act f args F.toNat) A cap lib bv tr act S w) := by
  obtain ⟨hfl, hget⟩ := List.getElem?_eq_some_iff.1 hf
  have hfit := hL.fit
  obtain ⟨hfn, hfp, hfb⟩ := hfit.2 f fn hf
  have hpl := hL.par f fn hf
  have hll := hfit.1
  have hEN := Lib.hid (enter.eq_def lib (ev apR lib d) act f args F.toNat)
  rw [Int.toNat_natCast, hf] at hEN
  have hlv : bv < w.heap.size := hev.lt
  obtain ⟨b, o, rfl, hfo⟩ := hL.at_.at_ hfl
  have HFO := Lib.hid (show FnO W0 b (o + f * 7) fn by rw [← hget]; exact hfo)
  clear hget hfo
  have ba := below_box w (Obj.cells #[.int .i64 0, .slice none 0 0, .bool false, .int .i64 0, .slice none 0 0, .slice none 0 0] 98)
  have rb := bx_new w #[.int .i64 0, .slice none 0 0, .bool false, .int .i64 0, .slice none 0 0, .slice none 0 0] 98
  have ev1 : EvAt _ _ _ _ _ _ _ _ := hev.below ba
  obtain ⟨v0, v1, v2, v3, z0, z1, z2, z3⟩ := ev1.four
  have hmm := @run_makeMap Tryd.prog
  by_cases h30 : 30 ≤ act
  · have hact' : act = 30 := by omega
    have HE30 := Lib.hid (hEN.out.trans (if_pos h30))
    clear hEN
    subst hact'
    have HF := Lib.hid (show RetC (.err 19) (some ⟨b, o, none⟩) cap lib bv tr 30 S w (.returned (.tuple #[.agg #[.int .i64 0, .slice none 0 0, .bool false, .int .i64 0, .slice none 0 0, .slice none 0 0], .int .i64 19])) (w.alloc (Obj.cells #[.int .i64 0, .slice none 0 0, .bool false, .int .i64 0, .slice none 0 0, .slice none 0 0] 98)) from ⟨Fr.of_below ba _, .inl ⟨19, rfl, by decide, rfl, F, ev1⟩⟩)
    rw [HE30.out]
    go_enter Tryd.func57, Tryd.ntmps57
    go_wp2_with fail
    exact bodyPost_ret (v := .tuple #[.agg #[.int .i64 0, .slice none 0 0, .bool false, .int .i64 0, .slice none 0 0, .slice none 0 0], .int .i64 19]) (by simp [results, Tryd.results57, go_sem]) rfl HF.out
  have HEN := Lib.hid (hEN.out.trans (if_neg h30))
  have ha30 : decide ((30 : Int) ≤ act) = false := by simp; omega
  have hact2 : act ≤ 29 := by omega
  clear hEN h30
  obtain ⟨Ap, cp, hp1', hps⟩ := HFO.out.ps
  have hp1 := below_cell hb0 hp1'
  have hbl : b < w.heap.size := block_lt_of_cell hp1
  have bm2 := below_step ba ba.size (below_box (w.alloc (Obj.cells #[.int .i64 0, .slice none 0 0, .bool false, .int .i64 0, .slice none 0 0, .slice none 0 0] 98)) (.map #[] 0))
  have rbW := rb.below (below_box _ (.map #[] 0))
  have mpW := mapV_made (w.alloc (Obj.cells #[.int .i64 0, .slice none 0 0, .bool false, .int .i64 0, .slice none 0 0, .slice none 0 0] 98))
  rw [show (w.alloc (Obj.cells #[.int .i64 0, .slice none 0 0, .bool false, .int .i64 0, .slice none 0 0, .slice none 0 0] 98)).heap.size = w.heap.size + 1 by simp] at mpW
  have HLA := Lib.hid hla
  have HPS := Lib.hid hps
  have HV := Lib.hid hV
  have HVL := Lib.hid hvl
  have HSL := Lib.hid hSl
  have HFP := Lib.hid hfp.2
  have r1 : (0 : Int) ≤ f := by omega
  have r2 : (f : Int) < lib.length := by omega
  clear hla hps hV hvl hSl hp1' rb hfp
  go_enter Tryd.func57, Tryd.ntmps57
  go_wp2_with fail
  clear v0 v1 v2 v3 z0 z1 z2 z3 ev1 ha30 hp1 hmm
  generalize World.alloc _ _ = W at bm2 rbW mpW ⊢
  have hWs : w.heap.size + 1 < W.heap.size := mpW.lt
  go_loopw [33] (fun i wr => ∃ k : Nat, k ≤ fn.params.length ∧ i = .int .i64 k ∧ Hid (Fr W wr (fun j => j = w.heap.size + 1)) ∧ Hid (EnvX wr (fun k => S k ∨ k = w.heap.size) (w.heap.size + 1) k (envV (fn.params.take k) (args.take k) fun _ => none))) (fun i _ => fn.params.length - (intOf i).toNat)
  case atStart =>
    exact ⟨0, by omega, rfl, Fr.refl _ _, ⟨fun e => by
      rcases e with e | e
      · have := HSL.out _ e; omega
      · omega, _, mpW, fun _ _ => rfl, fun s v hs => by cases hs⟩⟩
  case round =>
    obtain ⟨k, hk, rfl, hfr, henv⟩ := hrel
    have hsz := hfr.out.size
    have q0 : Below w.heap.size w wr := hfr.out.toBelow bm2 bm2.size (fun k e => by omega)
    by_cases hin : k < fn.params.length
    · have hin' : k < args.length := by rw [HLA.out]; exact hin
      obtain ⟨b1, o1, rfl, c0, c1⟩ := (HPS.out.mono (below_step hb0 hb0.size q0)).at_ hin
      obtain ⟨ba', oa', A', c', rfl, hnb, d0, d1, d2, hi⟩ := (HV.out.le (X' := fun k => S k ∨ k = w.heap.size) (Le.of_fr (Fr.of_below q0 S) (fun _ _ e => e) fun k hk e => by
        rcases e with e | e
        · exact e
        · omega)) k _ (List.getElem?_eq_getElem hin')
      have hpn := HFP.out k _ (List.getElem?_eq_getElem hin)
      have hvlk := HVL.out _ (List.getElem_mem hin')
      have HST := Lib.hid (envV_step HLA.out hin hin' (fun _ => none))
      generalize fn.params[k] = p at *
      generalize args[k] = u at *
      have hlt : b1 < wr.heap.size := block_lt_of_cell c0
      have hlt2 : ba' < wr.heap.size := block_lt_of_cell d0
      have hbx := below_box wr (Obj.cells #[.string p.name, .bool p.list] 65)
      have rk1 : (0 : Int) ≤ k := by omega
      have rk2 : (k : Int) < args.length := by omega
      have p0 : (wr.alloc (Obj.cells #[.string p.name, .bool p.list] 65)).cell? ⟨wr.heap.size, 0, none⟩ = some (.string p.name) := by simp [go_sem]
      have g0 := below_cell hbx d0
      have g1 := below_cell hbx d1
      have g2 := below_cell hbx d2
      have hfb := Fr.of_below hbx (fun j => j = w.heap.size + 1)
      have HI := Lib.hid hi
      have HEV := Lib.hid henv.out
      clear henv hi
      go_wp2_with fail
      clear c0 c1 d0 d1 d2
      generalize wr.alloc _ = V at hbx p0 g0 g1 g2 hfb ⊢
      have hVD : Fr wr V.drew (fun _ => False) := Fr.of_below (belowDrawn hbx) _
      go_still_tail 7, (by kernel_rfl)
      change wpList _ _ _ _ _ V.drew
      have hfr2 := Lib.hid (hfr.out.trans hVD fun _ _ e => e.elim)
      obtain ⟨hX, raw, hM, h3, h4⟩ := HEV.out.fr hVD (X' := fun k => S k ∨ k = w.heap.size) (fun _ _ e => e.elim) (fun _ _ e => e)
      have HI2 := Lib.hid (HI.out.le (Le.of_fr (X' := fun k => S k ∨ k = w.heap.size) hVD (fun _ _ e => e.elim) fun _ _ e => e))
      have HM := Lib.hid hM
      have H34 := Lib.hid (And.intro hX (And.intro h3 h4))
      clear p0 g0 g1 g2 hfb hbx hM h3 h4 hX HI HEV hfr hVD
      generalize V.drew = V2 at hfr2 HM H34 HI2 ⊢
      go_wp2_with (at_mapUpdate; go_loud (refine wpList_put_V _ rfl _ _ _ 148 (.inl rfl) Tryd.underlying148 (w.heap.size + 1) k raw rfl HM.out (by unfold maxLen; omega) p.name _ rfl rfl hpn ?_; intro w5 HM5 hT5))
      have hN := EnvX.put H34.out.1 H34.out.2.1 H34.out.2.2 (Le.of_turned hT5 _) HI2.out hvlk HM5
      rw [← HST.out] at hN
      exact ⟨⟨k + 1, by omega, by go_num, hfr2.out.trans (Fr.of_turned hT5) fun _ _ e => e, hN⟩, by simp [intOf]; omega⟩
    · obtain rfl : k = fn.params.length := by omega
      rw [List.take_length, List.take_of_length_le (by rw [HLA.out]; exact Nat.le_refl _)] at henv
      have hR0 := below_step hb0 hb0.size q0
      have hne1 : b ≠ bv := by have : b < W0.heap.size := block_lt_of_cell HFO.out.c0; omega
      have hne2 : bv ≠ b := by omega
      have hne3 : w.heap.size ≠ bv := by omega
      have evR : EvAt wr bv (some ⟨b, o, none⟩) cap lib F act tr := (hev.below bm2).fr hfr.out (fun e => by omega)
      have rbR := rbW.fr hfr.out (fun e => by omega)
      obtain ⟨v0, v1, v2, v3, z0, z1, z2, z3⟩ := evR.four
      have hlv2 : bv < wr.heap.size := evR.lt
      obtain ⟨A3, cp3, d0, d1, d2, d3, hks⟩ := HFO.out.body.open_
      have HKS := Lib.hid hks
      have e0 := below_cell hR0 d0
      have e1 := below_cell hR0 d1
      have e2 := below_cell hR0 d2
      have e3 := below_cell hR0 d3
      clear d0 d1 d2 d3 hks
      have hlb : b < wr.heap.size := block_lt_of_cell e0
      have bcb := below_box (wr.setCell ⟨bv, 2, none⟩ (.int .i64 (act + 1))) (Obj.cells #[.slice none 0 0] 96)
      have fset := Fr.of_set wr ⟨bv, 2, none⟩ (.int .i64 (act + 1))
      have hFR3 := Lib.hid (show Fr wr ((wr.setCell ⟨bv, 2, none⟩ (.int .i64 (act + 1))).alloc (Obj.cells #[.slice none 0 0] 96)) (fun k => k = bv) from fset.trans (Fr.of_below bcb (fun _ => False)) fun _ _ e => e.elim)
      have EV3 := Lib.hid (show EvAt ((wr.setCell ⟨bv, 2, none⟩ (.int .i64 (act + 1))).alloc (Obj.cells #[.slice none 0 0] 96)) bv (some ⟨b, o, none⟩) cap lib F (act + 1) tr from Bx.below (Bx.set evR 2 (.int .i64 (act + 1))) bcb)
      have BC3 := Lib.hid (show Bx ((wr.setCell ⟨bv, 2, none⟩ (.int .i64 (act + 1))).alloc (Obj.cells #[.slice none 0 0] 96)) wr.heap.size #[.slice none 0 0] by
        have := bx_new (wr.setCell ⟨bv, 2, none⟩ (.int .i64 (act + 1))) #[.slice none 0 0] 96
        rw [show (wr.setCell ⟨bv, 2, none⟩ (.int .i64 (act + 1))).heap.size = wr.heap.size by simp] at this
        exact this)
      clear fset bcb
      go_wp2_with fail
      clear v0 v1 v2 v3 z0 z1 z2 z3 e0 e1 e2 e3
      generalize World.alloc _ _ = W3 at hFR3 EV3 BC3 ⊢
      have hFR := Lib.hid (show Fr w W3 (fun k => k = bv) from (Fr.of_below q0 _).trans hFR3.out fun _ _ e => e)
      have hB3 := hFR.out.below hb0 (fun k e => by omega)
      have hsz3 := BC3.out.lt
      have CS3 : CsAt W3 (Hd (fun k => (S k ∨ k = w.heap.size) ∨ k = wr.heap.size) (.slice none 0 0)) wr.heap.size (.slice none 0 0) [] := ⟨BC3.out, [], ⟨rfl, .inl ⟨rfl, rfl⟩⟩, .nil⟩
      have EN3 : EnvX W3 (Hd (fun k => (S k ∨ k = w.heap.size) ∨ k = wr.heap.size) (.slice none 0 0)) (w.heap.size + 1) fn.params.length (envV fn.params args fun _ => none) := henv.out.fr hFR3.out (fun k _ e => .inl (by rw [e]; exact hS)) (fun k hk e => by
        rcases e with (e | e) | e
        · exact e
        · omega
        · cases e)
      have rb3 := rbR.fr hFR3.out hne3
      have HV3 := Lib.hid (HV.out.le (Le.grow hFR.out (fun k _ e => by rw [e]; exact hS)))
      have hcall := Lib.hid (hE fn.body A3 cp3 F (act + 1) fn.params.length (w.heap.size + 1) wr.heap.size (envV fn.params args fun _ => none) (fun k => (S k ∨ k = w.heap.size) ∨ k = wr.heap.size) (.slice none 0 0) [] W3 HKS.out hfb (hL.form f fn hf) (hL.ar f fn hf) (hL.size f fn hf) hB3 hbv hlv2 EV3.out CS3 EN3 (.inl (.inl hS)) (.inr rfl) (fun k e => by
        rcases e with (e | e) | e
        · have := HSL.out k e; omega
        · omega
        · omega) hd (by omega) (by simp; omega) (by omega))
      clear CS3 EN3 BC3 EV3 henv hfr hFR3 HV
      refine hcall.out.mono ?_
      clear hcall
      rintro e w4 ⟨hf4, h4⟩
      have hFR4 := Lib.hid (hFR.out.trans hf4 (fun k hk e => by
        rcases e with e | e | e
        · exact e
        · omega
        · cases e))
      have rb4 := rb3.fr hf4 (fun e => by
        rcases e with e | e | e
        · omega
        · omega
        · cases e)
      obtain ⟨⟨y0, y1, y2, y3, y4, y5⟩, x0, x1, x2, x3, x4, x5⟩ := rb4.six
      have hszw : w.heap.size < w4.heap.size := rb4.lt
      rcases h4 with ⟨n, hn, hn0, ⟨ub, um, uA, uk, uc, rfl⟩, F', ev4⟩ | ⟨y, f1, c, hn, A5, c5, v5, rfl, hy5, hi5, ev4, cs5, hat5⟩
      · obtain ⟨v0, v1, v2, v3, z0, z1, z2, z3⟩ := ev4.four
        have hlv4 : bv < w4.heap.size := ev4.lt
        have hn1 : (n != 0) = true := by simpa using hn0
        have HOUT := Lib.hid (show enter lib (ev apR lib d) act f args F.toNat = .err n by rw [HEN.out, hn])
        clear HEN hn
        go_wp2_with fail
        have f5 := Fr.of_set w4 ⟨bv, 2, none⟩ (.int .i64 act)
        have f6 := Fr.set6 (w4.setCell ⟨bv, 2, none⟩ (.int .i64 act)) w.heap.size (.int .i64 0) (.slice none 0 0) (.bool false) (.int .i64 0) (.slice none 0 0) (.slice none 0 0)
        have rb6 := (rb4.fr f5 hne3).set6 (.int .i64 0) (.slice none 0 0) (.bool false) (.int .i64 0) (.slice none 0 0) (.slice none 0 0)
        have ev6 := (Bx.set ev4 2 (.int .i64 act)).fr f6 (fun e => hne3 e.symm)
        have fr6 := (hFR4.out.trans f5 fun _ _ e => e).trans f6 (m := fun k => k = bv) (fun k hk e => by omega)
        generalize World.setCell _ _ _ = W6 at rb6 ev6 fr6 ⊢
        have bb := below_box W6 (Obj.cells #[.bool ub, .int .i64 um, .slice uA uk uc] 46)
        have rb7 := rb6.below bb
        have ev7 := ev6.below bb
        have fr7 := fr6.trans (Fr.of_below bb (fun _ => False)) (fun _ _ e => e.elim)
        generalize World.alloc _ _ = W7 at rb7 ev7 fr7 ⊢
        obtain ⟨⟨s0, s1, s2, s3, s4, s5⟩, _⟩ := rb7.six
        exact bodyPost_ret (v := .tuple #[.agg #[.int .i64 0, .slice none 0 0, .bool false, .int .i64 0, .slice none 0 0, .slice none 0 0], .int .i64 n]) (by simp [results, Tryd.results57, go_sem, s0, s1, s2, s3, s4, s5]) rfl ⟨fr7, .inl ⟨n, HOUT.out, hn0, rfl, F', ev7⟩⟩
      · have hlv4 : bv < w4.heap.size := ev4.lt
        obtain ⟨v0, v1, v2, v3, z0, z1, z2, z3⟩ := ev4.four
        have HOUT := Lib.hid (show enter lib (ev apR lib d) act f args F.toNat = .ok (.mk f (args.map cln) (cln y) c) f1 by rw [HEN.out, hn])
        clear HEN hn
        have hcs := Lib.hid cs5
        have HI5 := Lib.hid hi5
        have f5 := Fr.of_set w4 ⟨bv, 2, none⟩ (.int .i64 act)
        have ev5 := Lib.hid (show EvAt (w4.setCell ⟨bv, 2, none⟩ (.int .i64 act)) bv (some ⟨b, o, none⟩) cap lib f1 act tr from Bx.set ev4 2 (.int .i64 act))
        have bb := below_box (w4.setCell ⟨bv, 2, none⟩ (.int .i64 act)) (Obj.cells #[.bool y.list, .int .i64 y.n, .slice A5 y.l.length c5] 46)
        have f6 := Lib.hid (f5.trans (Fr.of_below bb (fun _ => False)) (fun _ _ e => e.elim))
        have ev6 := Lib.hid (ev5.out.below bb)
        clear cs5 hi5 bb f5 ev5
        go_wp2_with fail
        generalize World.alloc _ _ = W6 at f6 ev6 ⊢
        have HI6 := Lib.hid (HI5.out.le (X' := Hd (fun k => (S k ∨ k = w.heap.size) ∨ k = wr.heap.size) v5) (Le.of_fr f6.out (fun k _ e => by rw [e]; exact .inl (.inl (.inl hS))) fun _ _ e => e))
        clear v0 v1 v2 v3 z0 z1 z2 z3
        refine (clone_any y A5 c5 W6 HI6.out.at_ hy5).mono ?_
        rintro e w8 ⟨A8, c8, rfl, hi8n, hb8⟩
        have hi8 := hi8n.old
        have HI8N := Lib.hid hi8n
        clear hi8n
        have ev8 := ev6.out.below hb8
        obtain ⟨v0, v1, v2, v3, z0, z1, z2, z3⟩ := ev8.four
        have hlv8 : bv < w8.heap.size := ev8.lt
        have rb8 := (rb4.fr f6.out hne3).below hb8
        have fr8 := Lib.hid ((hFR4.out.trans f6.out (fun _ _ e => e)).trans (Fr.of_below hb8 (fun _ => False)) (fun _ _ e => e.elim))
        have hlw8 := rb8.lt
        have hs6 := f6.out.size
        have hi8' := Lib.hid (hi8.le (Le.grow (Fr.refl w8 (fun _ => False)) (fun _ _ e => e.elim)))
        clear hi8
        clear y0 y1 y2 y3 y4 y5 x0 x1 x2 x3 x4 x5
        cases tr with
        | false =>
          obtain ⟨⟨y0, y1, y2, y3, y4, y5⟩, x0, x1, x2, x3, x4, x5⟩ := rb8.six
          go_wp2_with fail
          have f9 := Fr.set6 w8 w.heap.size (.int .i64 0) (.slice none 0 0) (.bool (cln y).list) (.int .i64 (cln y).n) (.slice A8 (cln y).l.length c8) (.slice none 0 0)
          have rb9 := rb8.set6 (.int .i64 0) (.slice none 0 0) (.bool (cln y).list) (.int .i64 (cln y).n) (.slice A8 (cln y).l.length c8) (.slice none 0 0)
          have ev9 := ev8.fr f9 (fun e => hne3 e.symm)
          have fr9 := fr8.out.trans f9 (m := fun k => k = bv) (fun k hk e => by omega)
          have hi9 := hi8'.out.le (X' := S) (Le.of_fr f9 (fun k _ e => .inl (by show k < W6.heap.size; omega)) fun k _ e => .inl (by have := HSL.out k e; show k < W6.heap.size; omega))
          have hj9 := hi8'.out.2.le (X' := fun k => k < w.heap.size) (Le.of_fr f9 (fun k _ e => .inl (by show k < W6.heap.size; omega)) fun k _ e => .inl (show k < W6.heap.size from by have : k < w.heap.size := e; omega))
          have hn9 := HI8N.out.2.le (Le.of_nw (w := w) f9 (fun k _ e => .inl (by omega)) (fun k _ e => .inl (by omega)) (fun k e => .inr e))
          generalize World.setCell _ _ _ = W9 at rb9 ev9 fr9 hi9 hj9 hn9 ⊢
          have bb := below_box W9 (Obj.cells #[.int .i64 0, .slice none 0 0, .bool (cln y).list, .int .i64 (cln y).n, .slice A8 (cln y).l.length c8, .slice none 0 0] 98)
          have rb7 := rb9.below bb
          have ev7 := ev9.below bb
          have fr7 := fr9.trans (Fr.of_below bb (fun _ => False)) (fun _ _ e => e.elim)
          have hi7 := hi9.le (X' := S) (Le.of_fr (Fr.of_below bb (fun _ => False)) (fun _ _ e => e.elim) fun _ _ e => e)
          have hj7 := hj9.le (X' := fun k => k < w.heap.size) (Le.of_fr (Fr.of_below bb (fun _ => False)) (fun _ _ e => e.elim) fun _ _ e => e)
          have hn7 := hn9.le (Le.of_nw (w := w) (Fr.of_below bb (fun _ => False)) (fun _ _ e => e.elim) (fun _ _ e => .inl e) (fun _ e => .inr e))
          generalize World.alloc _ _ = W7 at rb7 ev7 fr7 hi7 hj7 hn7 ⊢
          obtain ⟨⟨s0, s1, s2, s3, s4, s5⟩, _⟩ := rb7.six
          exact bodyPost_ret (v := .tuple #[.agg #[.int .i64 0, .slice none 0 0, .bool (cln y).list, .int .i64 (cln y).n, .slice A8 (cln y).l.length c8, .slice none 0 0], .int .i64 0]) (by simp [results, Tryd.results57, go_sem, s0, s1, s2, s3, s4, s5]) rfl ⟨fr7, .inr ⟨_, _, HOUT.out, cln_len hy5, ev7, _, ⟨none, 0, A8, c8, none, 0, rfl, VlsX.nil _ _ _, hi7, TrsX.nil _ _ _⟩, ⟨A8, _, c8, rfl, hj7, fun _ => hn7⟩, rfl⟩⟩
        | true =>
          have bxT := bx_new w8 #[.int .i64 f, .slice none 0 0, .bool (cln y).list, .int .i64 (cln y).n, .slice A8 (cln y).l.length c8, .slice none 0 0] 98
          have bbT := below_box w8 (Obj.cells #[.int .i64 f, .slice none 0 0, .bool (cln y).list, .int .i64 (cln y).n, .slice A8 (cln y).l.length c8, .slice none 0 0] 98)
          have frT := Lib.hid (fr8.out.trans (Fr.of_below bbT (fun _ => False)) (fun _ _ e => e.elim))
          have fr48 := (f6.out.trans (Fr.of_below hb8 (fun _ => False)) (fun _ _ e => e.elim)).trans (Fr.of_below bbT (fun _ => False)) (fun _ _ e => e.elim)
          have HVT := Lib.hid (HV3.out.le (X' := fun k => S k ∨ w.heap.size ≤ k) (Le.of_fr (hf4.trans fr48 fun _ _ e => .inl e) (fun k hk e => by
            rcases e with e | e | e
            · rw [e]; exact .inl hS
            · exact .inr (by omega)
            · cases e) fun _ _ e => e))
          have hw4 := hf4.size
          have hsW := q0.size
          have CST := Lib.hid (show CsAt (w8.alloc (Obj.cells #[.int .i64 f, .slice none 0 0, .bool (cln y).list, .int .i64 (cln y).n, .slice A8 (cln y).l.length c8, .slice none 0 0] 98)) (fun k => Hd (fun k => (S k ∨ k = w.heap.size) ∨ k = wr.heap.size) v5 k ∨ w4.heap.size ≤ k) wr.heap.size v5 ([] ++ trC true c) from hcs.out.fr fr48 (fun e => by omega) (fun g hg e => by have := (hcs.out.own_gt g hg).1; omega) (fun k _ e => by rw [e]; exact .inl (.inl (.inl hS))) (fun k hk e => e.elim id fun e => absurd hk (Nat.not_lt.2 e)))
          have HGT := Lib.hid hcs.out.own_gt
          have hs8 : W6.heap.size ≤ w8.heap.size := hb8.size
          have evT := Lib.hid (ev8.below bbT)
          have rbT := Lib.hid (rb8.below bbT)
          have hiT := Lib.hid (hi8'.out.le (X' := fun k => k < W6.heap.size ∨ w8.heap.size ≤ k) (Le.of_fr (Fr.of_below bbT (fun _ => False)) (fun _ _ e => e.elim) fun k _ e => e))
          have hsT : w8.heap.size < (w8.alloc (Obj.cells #[.int .i64 f, .slice none 0 0, .bool (cln y).list, .int .i64 (cln y).n, .slice A8 (cln y).l.length c8, .slice none 0 0] 98)).heap.size := bxT.lt
          have hsT2 : (w8.alloc (Obj.cells #[.int .i64 f, .slice none 0 0, .bool (cln y).list, .int .i64 (cln y).n, .slice A8 (cln y).l.length c8, .slice none 0 0] 98)).heap.size ≤ w8.heap.size + 1 := by simp
          have AI := Lib.hid (show ArgsI (w8.alloc (Obj.cells #[.int .i64 f, .slice none 0 0, .bool (cln y).list, .int .i64 (cln y).n, .slice A8 (cln y).l.length c8, .slice none 0 0] 98)) (w8.alloc (Obj.cells #[.int .i64 f, .slice none 0 0, .bool (cln y).list, .int .i64 (cln y).n, .slice A8 (cln y).l.length c8, .slice none 0 0] 98)) w8.heap.size (.int .i64 f) (.bool (cln y).list) (.int .i64 (cln y).n) (.slice A8 (cln y).l.length c8) (.slice none 0 0) [] from ⟨Fr.refl _ _, bxT, [], ⟨rfl, .inl ⟨rfl, rfl⟩⟩, .nil⟩)
          have hla1 : args.length ≤ 1000 := by rw [HLA.out]; exact hpl
          obtain ⟨j0, hj0, hk0, hk1, hk2⟩ := info_parts info_val
          have HJ := Lib.hid (And.intro hj0 (And.intro hk0 (And.intro hk1 hk2)))
          clear hj0 hk0 hk1 hk2
          go_wp2_with fail
          clear v0 v1 v2 v3 z0 z1 z2 z3 bbT bxT fr48 hi8' hcs HI6 HI5 HV3
          generalize w8.alloc _ = V0 at frT HVT CST evT rbT hiT hsT hsT2 AI ⊢
          obtain ⟨wo, rfl⟩ : ∃ wo : World, wo = wr := ⟨_, rfl⟩
          go_loopw [89] (fun i wr => ∃ (k : Nat) (vA : Value), k ≤ args.length ∧ i = .int .i64 k ∧ Hid (ArgsI V0 wr w8.heap.size (.int .i64 f) (.bool (cln y).list) (.int .i64 (cln y).n) (.slice A8 (cln y).l.length c8) vA ((args.take k).map cln))) (fun i _ => args.length - (intOf i).toNat)
          case atStart => exact ⟨0, _, by omega, rfl, AI⟩
          case round =>
            obtain ⟨k, vA, hk, rfl, ai⟩ := hrel
            have hszr := ai.out.fr.size
            by_cases hin : k < args.length
            · obtain ⟨ba', oa', A', c', rfl, hnb, d0, d1, d2, hi⟩ := (HVT.out.le (X' := fun k => S k ∨ w.heap.size ≤ k) (Le.of_fr ai.out.fr (fun k _ e => .inr (by omega)) fun _ _ e => e)) k _ (List.getElem?_eq_getElem hin)
              have hvlk := HVL.out _ (List.getElem_mem hin)
              have HTK := Lib.hid (show (args.take (k + 1)).map cln = (args.take k).map cln ++ [cln args[k]] by rw [List.take_succ_eq_append_getElem hin, List.map_append]; rfl)
              have HLEN := Lib.hid (show ((args.take k).map cln).length = k by simp; omega)
              generalize (args.take k).map cln = l0 at *
              generalize args[k] = u at *
              have hbx := below_box wr (Obj.cells #[.bool u.list, .int .i64 u.n, .slice A' u.l.length c'] 46)
              have bxP := bx_new wr #[.bool u.list, .int .i64 u.n, .slice A' u.l.length c'] 46
              have ai1 := Lib.hid (ai.out.below hbx)
              have HIU := Lib.hid (show IntsAt (wr.alloc (Obj.cells #[.bool u.list, .int .i64 u.n, .slice A' u.l.length c'] 46)).drew A' u.l from hi.at_.mono (belowDrawn hbx))
              have hlt2 : ba' < wr.heap.size := block_lt_of_cell d0
              have rk1 : (0 : Int) ≤ k := by omega
              have rk2 : (k : Int) < args.length := by omega
              clear hi hbx
              go_wp2_with fail
              clear d0 d1 d2
              generalize wr.alloc _ = V1 at bxP ai1 HIU ⊢
              obtain ⟨p0, p1, p2, _⟩ := bxP.three
              have hP : wr.heap.size < V1.heap.size := bxP.lt
              have hV1 : w8.heap.size < V1.heap.size := by omega
              have a1 : V1.cell? ⟨w8.heap.size, 1, none⟩ = some vA := ai1.out.bx.cell rfl
              have bxD := Lib.hid (show Bx V1.drew wr.heap.size #[.bool u.list, .int .i64 u.n, .slice A' u.l.length c'] from bxP)
              have ai2 := Lib.hid (ai1.out.below (belowDrawn (Below.refl V1.heap.size V1)))
              have hk1000 : k ≤ 1000 := by omega
              clear ai1
              have HVN := Lib.hid (fun g (hg : vA.ownBlock = some g) => show V0.heap.size ≤ g ∧ g < V1.heap.size from by
                have h1 : w8.heap.size + 1 ≤ g ∧ g < V1.heap.size := ai2.out.ge g hg
                omega)
              go_region_law (first | (refine step_app _ (by rfl) (.tmp 94) (.tmp 97) 41 (by rfl) (w8.heap.size + 1) 46 j0 (.agg #[.bool false, .int .i64 0, .slice none 0 0]) 3 40 Tryd.underlying41 HJ.out.1 HJ.out.2.1 HJ.out.2.2.1 HJ.out.2.2.2 rfl (by decide) vA k cs10 (by simp [Act.eval]) OW10.out (some ⟨w9.heap.size, 0, none⟩) 1 1 [.bool (cln u).list, .int .i64 (cln u).n, .slice A9 (cln u).l.length c9] (by simp [Act.eval]) rfl (cells_new w9 _ _) ON10.out (by unfold maxLen; omega) (by omega) (by simp; omega) ?_; intro v11 w11 hown11 hgrow11 hat11; have NX := Lib.hid (ai10.out.push RR10.out hsT (And.intro (by omega) hb10.out) HVN.out hi10.out hgrow11 hat11 (by rw [HLEN.out]; exact hown11)); have b11 := ai10.out.bx.fr (Fr.of_grown hgrow11) (fun e => absurd (HVN.out w8.heap.size (Eq.symm e)).1 (Nat.not_le.2 hsT)); obtain ⟨⟨_, s1, _⟩, _, y1, _⟩ := b11.six; obtain ⟨A11, c11, rfl, _, _⟩ := own_formB hown11; clear hown11 hgrow11 hat11 b11) | (go_simp; go_at_call 76; refine (clone_any u A' c' _ HIU.out hvlk).mono ?_; rintro e w9 ⟨A9, c9, rfl, hi9n, hb9⟩; have hi9 := hi9n.old; clear hi9n; have ai9 := Lib.hid (ai2.out.below hb9); have hbx10 := below_box w9 (Obj.cells #[.bool (cln u).list, .int .i64 (cln u).n, .slice A9 (cln u).l.length c9] 46); have ai10 := Lib.hid (ai9.out.below hbx10); have a9 : w9.cell? ⟨w8.heap.size, 1, none⟩ = some vA := ai9.out.bx.cell rfl; have hlt9 : w8.heap.size < w9.heap.size := ai9.out.bx.lt; have hi10 := Lib.hid (hi9.le (Le.of_fr (X' := fun k => k < V1.heap.size) (Fr.of_below hbx10 (fun _ => False)) (fun _ _ e => e.elim) (fun _ _ e => e))); obtain ⟨cs10, ow10, rr10⟩ := ai10.out.own; rw [HLEN.out] at ow10; have OW10 := Lib.hid ow10; have RR10 := Lib.hid rr10; have ON10 := Lib.hid (VlC.one _ (cln u) (VlC.mk hi9)); have hb10 := Lib.hid (show V1.heap.size ≤ _ from Nat.le_trans hb9.size hbx10.size); clear hi9 hb9 hbx10 ow10 rr10 ai9) | fail)
              all_goals
                go_wp2_with fail
                rw [← HTK.out] at NX
                exact ⟨⟨k + 1, _, by omega, by go_num, NX⟩, by simp [intOf]; omega⟩
            · obtain rfl : k = args.length := by omega
              rw [List.take_length] at ai
              have bxA := ai.out.bx
              have frA := frT.out.trans ai.out.fr (m := fun k => k = bv) (fun k hk e => by omega)
              have evA := Lib.hid (evT.out.fr ai.out.fr (fun e => by omega))
              have rbA := rbT.out.fr ai.out.fr (fun e => by omega)
              have hiA := Lib.hid (hiT.out.le (X' := fun k => S k ∨ k = w8.heap.size ∨ k = w.heap.size) (Le.of_fr ai.out.fr (fun k _ e => .inr (by omega)) fun k _ e => by
                rcases e with e | e | e
                · exact .inl (by have := HSL.out k e; omega)
                · exact .inr (by omega)
                · exact .inl (by omega)))
              have hjA := Lib.hid (hiT.out.2.le (X' := fun k => k < w.heap.size ∨ k = w8.heap.size ∨ k = w.heap.size) (Le.of_fr ai.out.fr (fun k _ e => .inr (by omega)) fun k _ e => by
                rcases e with e | e | e
                · exact .inl (by omega)
                · exact .inr (by omega)
                · exact .inl (by omega)))
              obtain ⟨csb, css, cso, csr⟩ := CST.out.fr (X' := fun k => S k ∨ k = w8.heap.size ∨ k = w.heap.size) ai.out.fr (fun e => by omega) (fun g hg e => by have := (HGT.out g hg).2; omega) (fun k _ e => .inr (by omega)) (fun k _ e => by
                rcases e with e | e | e
                · exact .inl (.inl (.inl (.inl e)))
                · exact .inr (by omega)
                · exact .inl (.inl (.inl (.inr e))))
              rw [List.nil_append, show trC true c = c from rfl] at cso csr
              obtain ⟨acs, aco, acr⟩ := ai.out.own
              obtain ⟨Aa9, ca9, rfl, hVA⟩ := vlsX_of_own aco (acr.map (VlC.le (Le.less (X' := fun k => S k ∨ k = w8.heap.size ∨ k = w.heap.size) fun k _ e => .inl (show k ≤ w8.heap.size by
                rcases e with e | e | e
                · have := HSL.out k e; omega
                · omega
                · omega)))) (fun g hg e => by
                have := (ai.out.ge g hg).1
                rcases e with e | e | e
                · have := HSL.out g e; omega
                · omega
                · omega)
              obtain ⟨At9, ct9, rfl, hTA⟩ := trsX_of_own cso csr (fun g hg e => by
                have h9 := (HGT.out g hg)
                rcases e with e | e | e
                · have := HSL.out g e; omega
                · omega
                · omega)
              obtain ⟨l0, g0⟩ := csb.one
              obtain ⟨⟨a0, a1, a2, a3, a4, a5⟩, k0, k1, k2, k3, k4, k5⟩ := bxA.six
              obtain ⟨⟨y0, y1, y2, y3, y4, y5⟩, x0, x1, x2, x3, x4, x5⟩ := rbA.six
              have n1 : w8.heap.size ≠ w.heap.size := by omega
              have n2 : w.heap.size ≠ w8.heap.size := by omega
              have HVA := Lib.hid hVA
              have HTA := Lib.hid hTA
              have HGE := Lib.hid ai.out.ge
              have HLM := Lib.hid (show (args.map cln).length = args.length by simp)
              clear hVA hTA aco acr cso csr csb ai AI HVT CST hiT rbT evT frT HGT
              rw [HLM.out] at *
              go_wp2_with fail
              have f20 := Fr.of_set wr ⟨w8.heap.size, 5, none⟩ (.slice At9 c.length ct9)
              have f21 := Fr.set6 (wr.setCell ⟨w8.heap.size, 5, none⟩ (.slice At9 c.length ct9)) w.heap.size (.int .i64 f) (.slice Aa9 args.length ca9) (.bool (cln y).list) (.int .i64 (cln y).n) (.slice A8 (cln y).l.length c8) (.slice At9 c.length ct9)
              have rb21 := (rbA.fr f20 n2).set6 (.int .i64 f) (.slice Aa9 args.length ca9) (.bool (cln y).list) (.int .i64 (cln y).n) (.slice A8 (cln y).l.length c8) (.slice At9 c.length ct9)
              have f22 := (f20.mono (m' := fun k => k = w8.heap.size ∨ k = w.heap.size) fun k _ e => .inl e).trans f21 (fun _ _ e => .inr e)
              have ev22 := evA.out.fr f22 (fun e => by omega)
              have fr22 := frA.trans f22 (fun k hk e => by omega)
              have le22 : Le wr (fun k => S k ∨ k = w8.heap.size ∨ k = w.heap.size) _ S := Le.of_fr f22 (fun k _ e => .inr e) (fun k _ e => .inl e)
              have hi22 := hiA.out.le le22
              have hj22 := hjA.out.le (X' := fun k => k < w.heap.size) (Le.of_fr f22 (fun k _ e => .inr e) (fun k _ e => .inl e))
              have va22 := HVA.out.le le22
              have ta22 := HTA.out.le le22
              clear f20 f21 f22 le22
              generalize World.setCell _ _ _ = W7 at rb21 ev22 fr22 hi22 hj22 va22 ta22 ⊢
              obtain ⟨⟨s0, s1, s2, s3, s4, s5⟩, _⟩ := rb21.six
              exact bodyPost_ret (v := .tuple #[.agg #[.int .i64 f, .slice Aa9 args.length ca9, .bool (cln y).list, .int .i64 (cln y).n, .slice A8 (cln y).l.length c8, .slice At9 c.length ct9], .int .i64 0]) (by simp [results, Tryd.results57, go_sem, s0, s1, s2, s3, s4, s5]) rfl ⟨fr22, .inr ⟨_, _, HOUT.out, cln_len hy5, ev22, _, ⟨Aa9, ca9, A8, c8, At9, ct9, rfl, va22, hi22, ta22⟩, ⟨A8, _, c8, rfl, hj22, fun e => (by cases e)⟩, by show _ = Ending.returned (.tuple #[.agg #[.int .i64 f, .slice Aa9 (args.map cln).length ca9, .bool (cln y).list, .int .i64 (cln y).n, .slice A8 (cln y).l.length c8, .slice At9 c.length ct9], .int .i64 0]); rw [List.length_map]⟩⟩

end Go.Proofs.YtcoeakdpcigogaaDoor
