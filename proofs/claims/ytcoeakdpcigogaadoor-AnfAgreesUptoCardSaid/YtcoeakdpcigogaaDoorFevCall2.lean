/-
  The contract of the evaluator's expr: what is carried from one operand to the next; numbers and variables.
  The contract of the evaluator's expr: endings; no fuel, numbers and variables.
  The contract of the evaluator's expr: numbers, variables, conditions and bindings.
  The contract of the evaluator's expr: the operands of an operation, one after the other.
  The contract of the evaluator's expr: operations and calls.
  The contracts of the evaluator's expr and call.
  The contracts of funeval.start, Call and Trace.
  The contracts of funeval.Call and Trace.
-/
import Derived.Test.YtcoeakdpcigogaaDoorFevCall
import Derived.Test.YtcoeakdpcigogaaDoorFevType
import Derived.Deep.DeepCutAuto
import Derived.Deep.RegionHeld3
import Derived.Test.YtcoeakdpcigogaaDoorFunValid
namespace Go.Proofs.YtcoeakdpcigogaaDoor
open Go.ChangeShapes Go.WideShapes Go.ChangeAt Go.RowKit Go.Sort Go.Maps

/-- What expr asks. -/
structure EPre (W0 : World) (A : Option Addr) (cap : Nat) (lib : List Fn1) (bv : Nat) (tr : Bool) (d : Nat) (x : Nd) (Ak : Option Addr) (F : Int) (act n bm bc : Nat) (env : ByteArray → Option Vl) (S : Nat → Prop) (v : Value) (ts : List Tr) (w : World) : Prop where
  kids : NdsAt W0 Ak x.kids
  fit : NdFit x
  form : formT x = true
  ar : arT lib x = true
  size : sizeT x ≤ 500000
  hb : Below W0.heap.size W0 w
  bvl : W0.heap.size ≤ bv
  bcl : bv < bc
  ev : EvAt w bv A cap lib F act tr
  cs : CsAt w (Hd S v) bc v ts
  env : EnvX w (Hd S v) bm n env
  Sv : S bv
  Sc : S bc
  Sl : ∀ k, S k → k < w.heap.size
  fuel : F.toNat ≤ d
  en : n + F.toNat ≤ 1000000
  tn : ts.length + F.toNat ≤ 900000
  act30 : act ≤ 30
/-- What is carried from one operand to the next. -/
structure ES (W0 : World) (A : Option Addr) (cap : Nat) (lib : List Fn1) (bv bc : Nat) (tr : Bool) (act n bm : Nat) (env : ByteArray → Option Vl) (S : Nat → Prop) (v0 : Value) (w : World) (u0 u1 u2 u3 : Value) (wc : World) (G : Int) (vc : Value) (ts : List Tr) : Prop where
  fr : Fr w wc (Mx bv bc v0)
  hb : Below W0.heap.size W0 wc
  ev : EvAt wc bv A cap lib G act tr
  cs : CsAt wc (Hd S vc) bc vc ts
  env : EnvX wc (Hd S vc) bm n env
  nb : Bx wc w.heap.size #[u0, u1, u2, u3]
  rb : Bx wc (w.heap.size + 1) #[.bool false, .int .i64 0, .slice none 0 0]
  at_ : vc.ownBlock = v0.ownBlock ∨ ∃ g, vc.ownBlock = some g ∧ w.heap.size + 2 ≤ g
  old : ∀ g, v0.ownBlock = some g → g < w.heap.size
  bvl : W0.heap.size ≤ bv ∧ bv < bc ∧ bc < w.heap.size
  Sv : S bv
  Sc : S bc
  Sl : ∀ k, S k → k < wc.heap.size
/-- The fuel is taken, the parameter and the result have their blocks. -/
theorem EPre.start {W0 : World} {A : Option Addr} {cap : Nat} {lib : List Fn1} {bv : Nat} {tr : Bool} {d : Nat} {x : Nd} {Ak : Option Addr} {F : Int} {act n bm bc : Nat} {env : ByteArray → Option Vl} {S : Nat → Prop} {v : Value} {ts : List Tr} {w : World} (h : EPre W0 A cap lib bv tr d x Ak F act n bm bc env S v ts w) (u0 u1 u2 u3 : Value) (T1 T2 : TypeId) :
    ES W0 A cap lib bv bc tr act n bm env (fun k => S k ∨ k = w.heap.size + 1) v w u0 u1 u2 u3 (((w.setCell ⟨bv, 1, none⟩ (.int .i64 (F - 1))).alloc (Obj.cells #[u0, u1, u2, u3] T1)).alloc (Obj.cells #[.bool false, .int .i64 0, .slice none 0 0] T2)) (F - 1) v ts := by
  have hbc := h.cs.1.lt
  have f1 := Fr.of_set w ⟨bv, 1, none⟩ (.int .i64 (F - 1))
  have hs : (w.setCell ⟨bv, 1, none⟩ (.int .i64 (F - 1))).heap.size = w.heap.size := by simp
  have ev1 := Bx.set h.ev 1 (.int .i64 (F - 1))
  generalize hw1 : w.setCell ⟨bv, 1, none⟩ (.int .i64 (F - 1)) = w1 at *
  have b2 := two_box w1 (Obj.cells #[u0, u1, u2, u3] T1) (Obj.cells #[.bool false, .int .i64 0, .slice none 0 0] T2)
  have nb := (bx_new w1 #[u0, u1, u2, u3] T1).below (below_box _ (Obj.cells #[.bool false, .int .i64 0, .slice none 0 0] T2))
  have rb := bx_new (w1.alloc (Obj.cells #[u0, u1, u2, u3] T1)) #[.bool false, .int .i64 0, .slice none 0 0] T2
  have hs2 : (w1.alloc (Obj.cells #[u0, u1, u2, u3] T1)).heap.size = w.heap.size + 1 := by simp [hs]
  rw [hs2] at rb
  rw [hs] at nb
  have fr := f1.trans (Fr.of_below b2 (fun _ => False)) (fun _ _ e => e.elim)
  have hX : ∀ k, k < w.heap.size → Hd (fun k => S k ∨ k = w.heap.size + 1) v k → Hd S v k := fun k hk e => by
    rcases e with (e | e) | e
    · exact .inl e
    · omega
    · exact .inr e
  have hm : ∀ k, k < w.heap.size → k = bv → Hd S v k := fun k _ e => .inl (by rw [e]; exact h.Sv)
  have hown := h.cs.own_gt
  refine ⟨fr.mono fun k _ e => .inl e, fr.below h.hb fun k e => ?_, ev1.below b2, h.cs.fr fr ?_ ?_ hm hX, h.env.fr fr hm hX, nb, rb, .inl rfl, fun g hg => (hown g hg).2, ⟨h.bvl, h.bcl, hbc⟩, .inl h.Sv, .inl h.Sc, fun k e => ?_⟩
  · have : k = bv := e
    have := h.bvl; omega
  · intro e
    have : bc = bv := e
    have := h.bcl; omega
  · intro g hg e
    have : g = bv := e
    have := (hown g hg).1
    have := h.bcl; omega
  · have := rb.lt
    rcases e with e | e
    · have := h.Sl k e; omega
    · omega
theorem ES.below {W0 : World} {A : Option Addr} {cap : Nat} {lib : List Fn1} {bv bc : Nat} {tr : Bool} {act n bm : Nat} {env : ByteArray → Option Vl} {S : Nat → Prop} {v0 : Value} {w : World} {u0 u1 u2 u3 : Value} {wc w' : World} {G : Int} {vc : Value} {ts : List Tr} (h : ES W0 A cap lib bv bc tr act n bm env S v0 w u0 u1 u2 u3 wc G vc ts) (hb : Below wc.heap.size wc w') :
    ES W0 A cap lib bv bc tr act n bm env S v0 w u0 u1 u2 u3 w' G vc ts := by
  have f := Fr.of_below hb (fun _ => False)
  exact ⟨h.fr.trans f (fun _ _ e => e.elim), below_step h.hb h.hb.size hb, h.ev.below hb, h.cs.fr f id (fun _ _ => id) (fun _ _ e => e.elim) (fun _ _ e => e), h.env.fr f (fun _ _ e => e.elim) (fun _ _ e => e), h.nb.below hb, h.rb.below hb, h.at_, h.old, h.bvl, h.Sv, h.Sc, fun k e => Nat.lt_of_lt_of_le (h.Sl k e) hb.size⟩
theorem ES.lt {W0 : World} {A : Option Addr} {cap : Nat} {lib : List Fn1} {bv bc : Nat} {tr : Bool} {act n bm : Nat} {env : ByteArray → Option Vl} {S : Nat → Prop} {v0 : Value} {w : World} {u0 u1 u2 u3 : Value} {wc : World} {G : Int} {vc : Value} {ts : List Tr} (h : ES W0 A cap lib bv bc tr act n bm env S v0 w u0 u1 u2 u3 wc G vc ts) : w.heap.size + 2 ≤ wc.heap.size := by
  have := h.rb.lt; omega
/-- What an operand's evaluation may turn does not touch the two blocks. -/
theorem ES.mx {W0 : World} {A : Option Addr} {cap : Nat} {lib : List Fn1} {bv bc : Nat} {tr : Bool} {act n bm : Nat} {env : ByteArray → Option Vl} {S : Nat → Prop} {v0 : Value} {w : World} {u0 u1 u2 u3 : Value} {wc : World} {G : Int} {vc : Value} {ts : List Tr} (h : ES W0 A cap lib bv bc tr act n bm env S v0 w u0 u1 u2 u3 wc G vc ts) : (¬ Mx bv bc vc w.heap.size ∧ ¬ Mx bv bc vc (w.heap.size + 1)) ∧ ∀ k, k < w.heap.size → Mx bv bc vc k → Mx bv bc v0 k := by
  have hb := h.bvl
  have hown : ∀ g, vc.ownBlock = some g → g < w.heap.size ∨ w.heap.size + 2 ≤ g := fun g hg => by
    rcases h.at_ with e | ⟨g', e, h'⟩
    · exact .inl (h.old g (e.symm.trans hg))
    · rw [e] at hg; cases hg; exact .inr h'
  refine ⟨⟨fun e => ?_, fun e => ?_⟩, fun k hk e => ?_⟩
  · rcases e with e | e | e
    · omega
    · omega
    · have := hown _ e; omega
  · rcases e with e | e | e
    · omega
    · omega
    · have := hown _ e; omega
  · rcases e with e | e | e
    · exact .inl e
    · exact .inr (.inl e)
    · rcases h.at_ with e' | ⟨g', e', h'⟩
      · exact .inr (.inr (e'.symm.trans e))
      · rw [e'] at e; have := Option.some.inj e; omega
/-- After an operand that has a value. -/
theorem ES.next {W0 : World} {A : Option Addr} {cap : Nat} {lib : List Fn1} {bv bc : Nat} {tr : Bool} {act n bm : Nat} {env : ByteArray → Option Vl} {S : Nat → Prop} {v0 : Value} {w : World} {u0 u1 u2 u3 : Value} {wc w' : World} {G G' : Int} {vc v' : Value} {ts ts' : List Tr} (h : ES W0 A cap lib bv bc tr act n bm env S v0 w u0 u1 u2 u3 wc G vc ts)
    (hf : Fr wc w' (Mx bv bc vc)) (hev : EvAt w' bv A cap lib G' act tr) (hcs : CsAt w' (Hd S v') bc v' ts') (hat : v'.ownBlock = vc.ownBlock ∨ ∃ g, v'.ownBlock = some g ∧ wc.heap.size ≤ g) :
    ES W0 A cap lib bv bc tr act n bm env S v0 w u0 u1 u2 u3 w' G' v' ts' := by
  obtain ⟨⟨m1, m2⟩, m3⟩ := h.mx
  have hlt := h.lt
  have hb := h.bvl
  have hown := h.cs.own_gt
  refine ⟨h.fr.trans hf m3, hf.below h.hb fun k e => ?_, hev, hcs, h.env.fr hf (fun k _ e => ?_) (fun k hk e => ?_), h.nb.fr hf m1, h.rb.fr hf m2, ?_, h.old, h.bvl, h.Sv, h.Sc, fun k e => Nat.lt_of_lt_of_le (h.Sl k e) hf.size⟩
  · rcases e with e | e | e
    · omega
    · omega
    · have := (hown k e).1; omega
  · rcases e with e | e | e
    · rw [e]; exact .inl h.Sv
    · rw [e]; exact .inl h.Sc
    · exact .inr e
  · rcases e with e | e
    · exact .inl e
    · rcases hat with e' | ⟨g, e', h'⟩
      · exact .inr (e'.symm.trans e)
      · rw [e'] at e; have := Option.some.inj e; omega
  · rcases hat with e | ⟨g, e, h'⟩
    · rw [e]; exact h.at_
    · exact .inr ⟨g, e, by omega⟩

end Go.Proofs.YtcoeakdpcigogaaDoor

namespace Go.Proofs.YtcoeakdpcigogaaDoor
open Go.ChangeShapes Go.WideShapes Go.ChangeAt Go.RowKit Go.Sort Go.Maps

theorem trC_append (tr : Bool) (c c' : List Tr) : trC tr (c ++ c') = trC tr c ++ trC tr c' := by cases tr <;> simp [trC]
/-- The value of an operand is handed on as the result. -/
theorem ES.tail {W0 : World} {A : Option Addr} {cap : Nat} {lib : List Fn1} {bv bc : Nat} {tr : Bool} {act n bm : Nat} {env : ByteArray → Option Vl} {S : Nat → Prop} {v0 : Value} {w : World} {u0 u1 u2 u3 : Value} {wc : World} {G : Int} {vc : Value} {ts c0 : List Tr} (h : ES W0 A cap lib bv bc tr act n bm env (fun k => S k ∨ k = w.heap.size + 1) v0 w u0 u1 u2 u3 wc G vc (ts ++ trC tr c0)) {o2 : Out} {e : Ending} {w4 : World} (hr : RetE o2 A cap lib bv bc tr act (fun k => S k ∨ k = w.heap.size + 1) vc (ts ++ trC tr c0) wc e w4) :
    ∃ (b : Bool) (m : Int) (A' : Option Addr) (k c : Nat) (q : Int), e = .returned (.tuple #[.agg #[.bool b, .int .i64 m, .slice A' k c], .int .i64 q]) ∧ Bx w4 (w.heap.size + 1) #[.bool false, .int .i64 0, .slice none 0 0] ∧
      RetE (o2.pre c0) A cap lib bv bc tr act S v0 ts w e (((w4.setCell ⟨w.heap.size + 1, 0, none⟩ (.bool b)).setCell ⟨w.heap.size + 1, 1, none⟩ (.int .i64 m)).setCell ⟨w.heap.size + 1, 2, none⟩ (.slice A' k c)) := by
  obtain ⟨hf, hr⟩ := hr
  obtain ⟨⟨m1, m2⟩, m3⟩ := h.mx
  have hlt := h.lt
  have hb := h.bvl
  have rb4 := h.rb.fr hf m2
  have hne : bv ≠ w.heap.size + 1 := by omega
  rcases hr with ⟨q, rfl, hq0, ⟨b, m, A', k, c, rfl⟩, F', ev4⟩ | ⟨y, f1, c, rfl, A', c', v', rfl, hyl, hi, ev4, cs4, hat⟩
  · refine ⟨b, m, A', k, c, q, rfl, rb4, ?_, .inl ⟨q, rfl, hq0, ⟨b, m, A', k, c, rfl⟩, F', ?_⟩⟩
    · exact (h.fr.trans hf m3).trans (Fr.set3 w4 _ _ _ _) fun k hk e => by omega
    · exact ev4.fr (Fr.set3 w4 _ _ _ _) hne
  · refine ⟨y.list, y.n, A', y.l.length, c', 0, rfl, rb4, ?_, .inr ⟨y, f1, c0 ++ c, rfl, A', c', v', rfl, hyl, ?_, ?_, ?_, ?_⟩⟩
    · exact (h.fr.trans hf m3).trans (Fr.set3 w4 _ _ _ _) fun k hk e => by omega
    · exact hi.le (Le.of_fr (Fr.set3 w4 _ _ _ _) (fun k _ e => .inl (.inr e)) fun k _ e => e.elim (fun e => .inl (.inl e)) .inr)
    · exact ev4.fr (Fr.set3 w4 _ _ _ _) hne
    · rw [trC_append, ← List.append_assoc]
      refine cs4.fr (Fr.set3 w4 _ _ _ _) (fun e => by have : bc = w.heap.size + 1 := e; omega) (fun g hg e => ?_) (fun k _ e => .inl (.inr e)) (fun k _ e => e.elim (fun e => .inl (.inl e)) .inr)
      have hg1 : g = w.heap.size + 1 := e
      rcases hat with e | ⟨g', e, h'⟩
      · exact m2 (.inr (.inr (by rw [← e, hg, hg1])))
      · rw [e] at hg; have := Option.some.inj hg; omega
    · rcases hat with e | ⟨g, e, h'⟩
      · rw [e]
        rcases h.at_ with e' | ⟨g, e', h'⟩
        · exact .inl e'
        · exact .inr ⟨g, e', by omega⟩
      · exact .inr ⟨g, e, by omega⟩
/-- An operand has an error. -/
theorem ES.fail {W0 : World} {A : Option Addr} {cap : Nat} {lib : List Fn1} {bv bc : Nat} {tr : Bool} {act n bm : Nat} {env : ByteArray → Option Vl} {S : Nat → Prop} {v0 : Value} {w : World} {u0 u1 u2 u3 : Value} {wc : World} {G : Int} {vc : Value} {ts ts' : List Tr} (h : ES W0 A cap lib bv bc tr act n bm env (fun k => S k ∨ k = w.heap.size + 1) v0 w u0 u1 u2 u3 wc G vc ts') {w4 : World} (hf : Fr wc w4 (Mx bv bc vc)) {F' : Int} (hev : EvAt w4 bv A cap lib F' act tr) {q : Int} (hq : q ≠ 0) {o : Out} (ho : o = .err q) (b : Bool) (m : Int) (A' : Option Addr) (k c : Nat) :
    RetE o A cap lib bv bc tr act S v0 ts w (.returned (.tuple #[.agg #[.bool b, .int .i64 m, .slice A' k c], .int .i64 q])) (((w4.setCell ⟨w.heap.size + 1, 0, none⟩ (.bool b)).setCell ⟨w.heap.size + 1, 1, none⟩ (.int .i64 m)).setCell ⟨w.heap.size + 1, 2, none⟩ (.slice A' k c)) := by
  obtain ⟨⟨m1, m2⟩, m3⟩ := h.mx
  have hb := h.bvl
  have hne : bv ≠ w.heap.size + 1 := by omega
  exact ⟨(h.fr.trans hf m3).trans (Fr.set3 w4 _ _ _ _) fun k hk e => by omega, .inl ⟨q, ho, hq, ⟨b, m, A', k, c, rfl⟩, F', hev.fr (Fr.set3 w4 _ _ _ _) hne⟩⟩
/-- A value is returned. -/
theorem ES.done {W0 : World} {A : Option Addr} {cap : Nat} {lib : List Fn1} {bv bc : Nat} {tr : Bool} {act n bm : Nat} {env : ByteArray → Option Vl} {S : Nat → Prop} {v0 : Value} {w : World} {u0 u1 u2 u3 : Value} {wc : World} {G : Int} {vc : Value} {ts c0 : List Tr} (h : ES W0 A cap lib bv bc tr act n bm env (fun k => S k ∨ k = w.heap.size + 1) v0 w u0 u1 u2 u3 wc G vc (ts ++ trC tr c0)) {y : Vl} {A' : Option Addr} {c' : Nat} (hi : IntsC wc (Hd (fun k => S k ∨ k = w.heap.size + 1) vc) A' c' y.l) (hy : y.l.length ≤ 1000000) {f1 : Nat} (hG : G = f1) {o : Out} (ho : o = .ok y f1 c0) :
    RetE o A cap lib bv bc tr act S v0 ts w (.returned (.tuple #[.agg #[.bool y.list, .int .i64 y.n, .slice A' y.l.length c'], .int .i64 0])) (((wc.setCell ⟨w.heap.size + 1, 0, none⟩ (.bool y.list)).setCell ⟨w.heap.size + 1, 1, none⟩ (.int .i64 y.n)).setCell ⟨w.heap.size + 1, 2, none⟩ (.slice A' y.l.length c')) := by
  subst hG
  obtain ⟨b, m, A2, k, c, q, he, _, hr⟩ := h.tail (o2 := .ok y f1 []) (e := .returned (.tuple #[.agg #[.bool y.list, .int .i64 y.n, .slice A' y.l.length c'], .int .i64 0])) ⟨Fr.refl _ _, .inr ⟨y, f1, [], rfl, A', c', vc, rfl, hy, hi, h.ev, by simpa [trC] using h.cs, .inl rfl⟩⟩
  injection he with he
  injection he with he
  simp at he
  obtain ⟨⟨rfl, rfl, rfl, rfl, rfl⟩, rfl⟩ := he
  rw [ho]
  simpa [Out.pre] using hr
/-- The contract at an operand. -/
theorem es_kidC {W0 : World} {A : Option Addr} {cap : Nat} {lib : List Fn1} {bv bc : Nat} {tr : Bool} {act n bm : Nat} {env : ByteArray → Option Vl} {S : Nat → Prop} {v0 : Value} {w : World} {u0 u1 u2 u3 : Value} {wc : World} {G : Int} {vc : Value} {ts : List Tr} {d : Nat} (hE : ExprC W0 A cap lib bv tr d) (h : ES W0 A cap lib bv bc tr act n bm env S v0 w u0 u1 u2 u3 wc G vc ts) {y : Nd} {Ay : Option Addr} {cy : Nat} (h1 : NdsAt W0 Ay y.kids) (h2 : NdFit y) (h3 : formT y = true) (h4 : arT lib y = true) (h5 : sizeT y ≤ 500000) {n' bm' : Nat} {env' : ByteArray → Option Vl} (henv : EnvX wc (Hd S vc) bm' n' env') (hd : G.toNat ≤ d) (hn : n' + G.toNat ≤ 1000000) (ht : ts.length + G.toNat ≤ 900000) (ha : act ≤ 30) :
    Calls Tryd.prog 75 #[.pointer (some ⟨bv, 0, none⟩), .agg #[.int .u8 y.kind, .int .i64 y.num, .string y.name, .slice Ay y.kids.length cy], .map (some bm'), .pointer (some ⟨bc, 0, none⟩)] wc
      (RetE (ev apR lib d act env' y G.toNat) A cap lib bv bc tr act S vc ts wc) :=
  hE y Ay cy G act n' bm' bc env' S vc ts wc h1 h2 h3 h4 h5 h.hb h.bvl.1 h.bvl.2.1 h.ev h.cs henv h.Sv h.Sc h.Sl hd hn ht ha

set_option maxRecDepth 100000 in
set_option maxHeartbeats 1000000 in
theorem expr_zero {W0 : World} {A : Option Addr} {cap : Nat} {lib : List Fn1} {bv : Nat} {tr : Bool} {d : Nat} {x : Nd} {Ak : Option Addr} {F : Int} {act n bm bc : Nat} {env : ByteArray → Option Vl} {S : Nat → Prop} {v : Value} {ts : List Tr} {w : World} (h : EPre W0 A cap lib bv tr d x Ak F act n bm bc env S v ts w) (ck : Nat) (hF : F ≤ 0) :
    Calls Tryd.prog 75 #[.pointer (some ⟨bv, 0, none⟩), .agg #[.int .u8 x.kind, .int .i64 x.num, .string x.name, .slice Ak x.kids.length ck], .map (some bm), .pointer (some ⟨bc, 0, none⟩)] w
      (RetE (.err 18) A cap lib bv bc tr act S v ts w) := by
  have b2 := two_box w (Obj.cells #[.int .u8 x.kind, .int .i64 x.num, .string x.name, .slice Ak x.kids.length ck] 53) (Obj.cells #[.bool false, .int .i64 0, .slice none 0 0] 46)
  obtain ⟨v0, v1, v2, v3, z0, z1, z2, z3⟩ := h.ev.four
  have hlv : bv < w.heap.size := h.ev.lt
  have HF := Lib.hid (show RetE (.err 18) A cap lib bv bc tr act S v ts w (.returned (.tuple #[.agg #[.bool false, .int .i64 0, .slice none 0 0], .int .i64 18])) ((w.alloc (Obj.cells #[.int .u8 x.kind, .int .i64 x.num, .string x.name, .slice Ak x.kids.length ck] 53)).alloc (Obj.cells #[.bool false, .int .i64 0, .slice none 0 0] 46)) from ⟨Fr.of_below b2 _, .inl ⟨18, rfl, by decide, ⟨false, 0, none, 0, 0, rfl⟩, F, h.ev.below b2⟩⟩)
  clear h b2
  go_enter Tryd.func75, Tryd.ntmps75
  go_wp2_with fail
  exact bodyPost_ret (v := .tuple #[.agg #[.bool false, .int .i64 0, .slice none 0 0], .int .i64 18]) (by simp [results, Tryd.results75, go_sem]) rfl HF.out

end Go.Proofs.YtcoeakdpcigogaaDoor

namespace Go.Proofs.YtcoeakdpcigogaaDoor
open Go.ChangeShapes Go.WideShapes Go.ChangeAt Go.RowKit Go.Sort Go.Maps

theorem epre_ret {W0 : World} {A : Option Addr} {cap : Nat} {lib : List Fn1} {bv : Nat} {tr : Bool} {d : Nat} {x : Nd} {Ak : Option Addr} {F : Int} {act n bm bc : Nat} {env : ByteArray → Option Vl} {S : Nat → Prop} {v : Value} {ts : List Tr} {w : World} (h : EPre W0 A cap lib bv tr d x Ak F act n bm bc env S v ts w) (hF : 0 < F) {y : Vl} {A' : Option Addr} {c' : Nat} (hi : IntsC w (Hd S v) A' c' y.l) (hy : y.l.length ≤ 1000000) {o : Out} (ho : o = .ok y (F.toNat - 1) []) (u0 u1 u2 u3 : Value) (T1 T2 : TypeId) :
    RetE o A cap lib bv bc tr act S v ts w (.returned (.tuple #[.agg #[.bool y.list, .int .i64 y.n, .slice A' y.l.length c'], .int .i64 0])) (((w.setCell ⟨bv, 1, none⟩ (.int .i64 (F - 1))).alloc (Obj.cells #[u0, u1, u2, u3] T1)).alloc (Obj.cells #[.bool y.list, .int .i64 y.n, .slice A' y.l.length c'] T2)) := by
  have f1 := Fr.of_set w ⟨bv, 1, none⟩ (.int .i64 (F - 1))
  have ev1 := Bx.set h.ev 1 (.int .i64 (F - 1))
  have hFe : F - 1 = ((F.toNat - 1 : Nat) : Int) := by omega
  rw [hFe] at f1 ev1 ⊢
  generalize hw1 : w.setCell ⟨bv, 1, none⟩ (.int .i64 ((F.toNat - 1 : Nat) : Int)) = w1 at *
  have b2 := two_box w1 (Obj.cells #[u0, u1, u2, u3] T1) (Obj.cells #[.bool y.list, .int .i64 y.n, .slice A' y.l.length c'] T2)
  have fr := f1.trans (Fr.of_below b2 (fun _ => False)) (fun _ _ e => e.elim)
  have hm : ∀ k, k < w.heap.size → k = bv → Hd S v k := fun k _ e => .inl (by rw [e]; exact h.Sv)
  have hown := h.cs.own_gt
  refine ⟨fr.mono fun k _ e => .inl e, .inr ⟨y, F.toNat - 1, [], ho, A', c', v, rfl, hy, hi.le (Le.of_fr fr hm fun _ _ e => e), ev1.below b2, ?_, .inl rfl⟩⟩
  have := h.cs.fr fr (fun e => by have : bc = bv := e; have := h.bcl; omega) (fun g hg e => by have : g = bv := e; have := (hown g hg).1; have := h.bcl; omega) hm (fun _ _ e => e)
  cases tr <;> simpa [trC] using this

theorem ev_80 {lib : List Fn1} {d act : Nat} {env : ByteArray → Option Vl} {x : Nd} {f : Nat} (h0 : 0 < f) (hk : x.kind = 80) : ev apR lib (d + 1) act env x f = .ok ⟨false, x.num, []⟩ (f - 1) [] := by
  rw [ev, if_neg (by omega), if_pos hk]
theorem ev_81 {lib : List Fn1} {d act : Nat} {env : ByteArray → Option Vl} {x : Nd} {f : Nat} (h0 : 0 < f) (hk : x.kind = 81) : ev apR lib (d + 1) act env x f = .ok ((env x.name).getD zeroV) (f - 1) [] := by
  rw [ev, if_neg (by omega), if_neg (by omega), if_pos hk]

set_option maxRecDepth 100000 in
set_option maxHeartbeats 1000000 in
theorem expr_80 {W0 : World} {A : Option Addr} {cap : Nat} {lib : List Fn1} {bv : Nat} {tr : Bool} {d : Nat} {x : Nd} {Ak : Option Addr} {F : Int} {act n bm bc : Nat} {env : ByteArray → Option Vl} {S : Nat → Prop} {v : Value} {ts : List Tr} {w : World} (h : EPre W0 A cap lib bv tr (d + 1) x Ak F act n bm bc env S v ts w) (ck : Nat) (hF : 0 < F) (hk : x.kind = 80) :
    Calls Tryd.prog 75 #[.pointer (some ⟨bv, 0, none⟩), .agg #[.int .u8 x.kind, .int .i64 x.num, .string x.name, .slice Ak x.kids.length ck], .map (some bm), .pointer (some ⟨bc, 0, none⟩)] w
      (RetE (ev apR lib (d + 1) act env x F.toNat) A cap lib bv bc tr act S v ts w) := by
  have HR := Lib.hid (epre_ret h hF (y := ⟨false, x.num, []⟩) (IntsC.nil _ _ none 0) (by simp) (ev_80 (lib := lib) (d := d) (act := act) (env := env) (by omega : 0 < F.toNat) hk) (.int .u8 x.kind) (.int .i64 x.num) (.string x.name) (.slice Ak x.kids.length ck) 53 46)
  obtain ⟨v0, v1, v2, v3, z0, z1, z2, z3⟩ := h.ev.four
  have hlv : bv < w.heap.size := h.ev.lt
  have hes := Lib.hid (h.start (.int .u8 x.kind) (.int .i64 x.num) (.string x.name) (.slice Ak x.kids.length ck) 53 46)
  have hF0 : decide (F ≤ 0) = false := by simp; omega
  have hFu : F ≤ 1000000 := by have := h.tn; omega
  obtain ⟨hf1, hf2, hf3, hf4⟩ := h.fit.facts
  have HP := Lib.hid h
  clear h
  have k80 : ((x.kind : Int) == 80) = true := by rw [hk]; rfl
  clear hk hes HP
  go_enter Tryd.func75, Tryd.ntmps75
  go_wp2_with fail
  exact bodyPost_ret (v := .tuple #[.agg #[.bool false, .int .i64 x.num, .slice none 0 0], .int .i64 0]) (by simp [results, Tryd.results75, go_sem]) rfl HR.out

set_option maxRecDepth 100000 in
set_option maxHeartbeats 1000000 in
theorem expr_81 {W0 : World} {A : Option Addr} {cap : Nat} {lib : List Fn1} {bv : Nat} {tr : Bool} {d : Nat} {x : Nd} {Ak : Option Addr} {F : Int} {act n bm bc : Nat} {env : ByteArray → Option Vl} {S : Nat → Prop} {v : Value} {ts : List Tr} {w : World} (h : EPre W0 A cap lib bv tr (d + 1) x Ak F act n bm bc env S v ts w) (ck : Nat) (hF : 0 < F) (hk : x.kind = 81) :
    Calls Tryd.prog 75 #[.pointer (some ⟨bv, 0, none⟩), .agg #[.int .u8 x.kind, .int .i64 x.num, .string x.name, .slice Ak x.kids.length ck], .map (some bm), .pointer (some ⟨bc, 0, none⟩)] w
      (RetE (ev apR lib (d + 1) act env x F.toNat) A cap lib bv bc tr act S v ts w) := by
  obtain ⟨raw, hM, A', c', hraw, hi, hil⟩ := h.env.get x.name
  have HR := Lib.hid (epre_ret h hF hi hil (ev_81 (lib := lib) (d := d) (act := act) (env := env) (by omega : 0 < F.toNat) hk) (.int .u8 x.kind) (.int .i64 x.num) (.string x.name) (.slice Ak x.kids.length ck) 53 46)
  have hbm : bm ≠ bv := fun e => h.env.1 (by rw [e]; exact .inl h.Sv)
  have HM := Lib.hid (hM.fr ((Fr.of_set w ⟨bv, 1, none⟩ (.int .i64 (F - 1))).trans (Fr.of_below (two_box (w.setCell ⟨bv, 1, none⟩ (.int .i64 (F - 1))) (Obj.cells #[.int .u8 x.kind, .int .i64 x.num, .string x.name, .slice Ak x.kids.length ck] 53) (Obj.cells #[.bool false, .int .i64 0, .slice none 0 0] 46)) (fun _ => False)) (fun _ _ e => e.elim)) hbm)
  have HRAW := Lib.hid hraw
  obtain ⟨v0, v1, v2, v3, z0, z1, z2, z3⟩ := h.ev.four
  have hlv : bv < w.heap.size := h.ev.lt
  have hes := Lib.hid (h.start (.int .u8 x.kind) (.int .i64 x.num) (.string x.name) (.slice Ak x.kids.length ck) 53 46)
  have hF0 : decide (F ≤ 0) = false := by simp; omega
  have hFu : F ≤ 1000000 := by have := h.tn; omega
  obtain ⟨hf1, hf2, hf3, hf4⟩ := h.fit.facts
  have HP := Lib.hid h
  clear h
  have k80 : ((x.kind : Int) == 80) = false := beqK (n := 80) (by omega)
  have k81 : ((x.kind : Int) == 81) = true := by rw [hk]; rfl
  clear hk hes HP hM hraw hi hil hbm
  generalize (env x.name).getD zeroV = y at *
  go_enter Tryd.func75, Tryd.ntmps75
  go_wp2_with (at_lookup; go_loud (refine wpList_look_V _ rfl _ _ 148 rfl Tryd.underlying148 bm n raw rfl HM.out x.name rfl hf3 ?_; rw [HRAW.out]))
  exact bodyPost_ret (v := .tuple #[.agg #[.bool y.list, .int .i64 y.n, .slice A' y.l.length c'], .int .i64 0]) (by simp [results, Tryd.results75, go_sem]) rfl HR.out

theorem ev_83 {lib : List Fn1} {d act : Nat} {env : ByteArray → Option Vl} {x : Nd} {f : Nat} (h0 : 0 < f) (hk : x.kind = 83) {y0 y1 y2 : Nd} (hkids : x.kids = [y0, y1, y2]) : ev apR lib (d + 1) act env x f = (ev apR lib d act env y0 (f - 1)).bind fun t f1 => ev apR lib d act env (if t.n ≠ 0 then y1 else y2) f1 := by
  rw [ev, if_neg (by omega), if_neg (by omega), if_neg (by omega), if_pos hk]
  have n0 : kidN x 0 = y0 := by unfold kidN; rw [hkids]; rfl
  have n1 : kidN x 1 = y1 := by unfold kidN; rw [hkids]; rfl
  have n2 : kidN x 2 = y2 := by unfold kidN; rw [hkids]; rfl
  rw [n0]
  congr 1
  funext t f1
  by_cases ht : t.n ≠ 0
  · rw [if_pos ht, if_pos ht, n1]
  · rw [if_neg ht, if_neg ht, n2]
theorem ev_84 {lib : List Fn1} {d act : Nat} {env : ByteArray → Option Vl} {x : Nd} {f : Nat} (h0 : 0 < f) (hk : x.kind = 84) {y0 y1 : Nd} (hkids : x.kids = [y0, y1]) : ev apR lib (d + 1) act env x f = (ev apR lib d act env y0 (f - 1)).bind fun t f1 => ev apR lib d act (setV env x.name t) y1 f1 := by
  rw [ev, if_neg (by omega), if_neg (by omega), if_neg (by omega), if_neg (by omega), if_pos hk]
  have n0 : kidN x 0 = y0 := by unfold kidN; rw [hkids]; rfl
  have n1 : kidN x 1 = y1 := by unfold kidN; rw [hkids]; rfl
  rw [n0, n1]
theorem RetE.below {o : Out} {A : Option Addr} {cap : Nat} {lib : List Fn1} {bv bc : Nat} {tr : Bool} {act : Nat} {S : Nat → Prop} {v : Value} {ts : List Tr} {w : World} {e : Ending} {w' w'' : World} (h : RetE o A cap lib bv bc tr act S v ts w e w') (hb : Below w'.heap.size w' w'') : RetE o A cap lib bv bc tr act S v ts w e w'' := by
  have f := Fr.of_below hb (fun _ => False)
  obtain ⟨h1, h2⟩ := h
  refine ⟨h1.trans f (fun _ _ e => e.elim), ?_⟩
  rcases h2 with ⟨q, ho, hq0, he, F', ev4⟩ | ⟨y, f1, c, ho, A', c', v', he, hyl, hi, ev4, cs4, hat⟩
  · exact .inl ⟨q, ho, hq0, he, F', ev4.below hb⟩
  · exact .inr ⟨y, f1, c, ho, A', c', v', he, hyl, hi.le (Le.of_fr f (fun _ _ e => e.elim) fun _ _ e => e), ev4.below hb, cs4.fr f id (fun _ _ => id) (fun _ _ e => e.elim) (fun _ _ e => e), hat⟩
theorem ES.turned {W0 : World} {A : Option Addr} {cap : Nat} {lib : List Fn1} {bv bc : Nat} {tr : Bool} {act n bm : Nat} {env : ByteArray → Option Vl} {S : Nat → Prop} {v0 : Value} {w : World} {u0 u1 u2 u3 : Value} {wc : World} {G : Int} {vc : Value} {ts : List Tr} (h : ES W0 A cap lib bv bc tr act n bm env S v0 w u0 u1 u2 u3 wc G vc ts) {w' : World} {b : Nat} (hT : wc.mapTurned w' b) (hlb : w.heap.size + 2 ≤ b) (hbm : bm ≠ b) : ES W0 A cap lib bv bc tr act n bm env S v0 w u0 u1 u2 u3 w' G vc ts := by
  have f := Fr.of_turned hT
  have hb := h.bvl
  obtain ⟨hx, raw, hM, h3, h4⟩ := h.env
  obtain ⟨c1, cs, c2, c3⟩ := h.cs
  refine ⟨h.fr.trans f (fun k hk e => by omega), f.below h.hb fun k e => by omega, h.ev.fr f (fun e => by omega), ⟨c1.fr f (fun e => by omega), cs, f.own c2 (fun g hg e => ?_), c3.map (TrC.le (Le.of_turned hT _))⟩, ⟨hx, raw, hM.fr f hbm, h3, fun s u hs => ?_⟩, h.nb.fr f (fun e => by omega), h.rb.fr f (fun e => by omega), h.at_, h.old, h.bvl, h.Sv, h.Sc, fun k e => Nat.lt_of_lt_of_le (h.Sl k e) f.size⟩
  · subst e
    obtain ⟨es, clock, _, _, hm, _⟩ := hT
    rcases c2.2 with ⟨e, _⟩ | ⟨g', cap', cur, e, _, hc, _⟩
    · rw [e] at hg; cases hg
    · rw [e] at hg
      have : g' = g := Option.some.inj hg
      subst this
      rw [hm] at hc; cases hc
  · obtain ⟨h5, A', c', h6, h7⟩ := h4 s u hs
    exact ⟨h5, A', c', h6, h7.le (Le.of_turned hT _)⟩
/-- What is asked of an operand. -/
theorem epre_kid {W0 : World} {A : Option Addr} {cap : Nat} {lib : List Fn1} {bv : Nat} {tr : Bool} {d : Nat} {x : Nd} {Ak : Option Addr} {F : Int} {act n bm bc : Nat} {env : ByteArray → Option Vl} {S : Nat → Prop} {v : Value} {ts : List Tr} {w : World} (h : EPre W0 A cap lib bv tr d x Ak F act n bm bc env S v ts w) {k : Nat} {y : Nd} (hy : x.kids[k]? = some y) : formT y = true ∧ arT lib y = true ∧ sizeT y ≤ 500000 := by
  have h1 := h.form
  rw [formT_eq] at h1
  have h2 := h.ar
  rw [arT_eq] at h2
  have h3 := h.size
  rw [sizeT_eq] at h3
  obtain ⟨hk, e⟩ := List.getElem?_eq_some_iff.1 hy
  have h4 := sizeTL_step hk
  have h5 := sizeTL_le (l := x.kids) (k + 1)
  rw [e] at h4
  exact ⟨formT_kid (Bool.and_eq_true_iff.1 h1).2 y (List.mem_of_getElem? hy), arTL_kid (Bool.and_eq_true_iff.1 h2).2 hy, by omega⟩
theorem ev_sp {lib : List Fn1} {d act : Nat} {env : ByteArray → Option Vl} {y : Nd} {f : Nat} {u : Vl} {f1 : Nat} {c : List Tr} (h : ev apR lib d act env y f = .ok u f1 c) : f1 + c.length + 1 ≤ f := by
  have h1 := ev_cost apR lib d act env y f
  rw [h] at h1
  have h2 : f1 + stepsL c + 1 ≤ f := h1
  have h3 : c.length ≤ stepsL c := by
    clear h1 h2 h
    induction c with
    | nil => simp
    | cons t r ih => cases t; rw [stepsL, stepsT, List.length_cons]; omega
  omega

set_option maxRecDepth 100000 in
set_option maxHeartbeats 4000000 in
theorem expr_83 {W0 : World} {A : Option Addr} {cap : Nat} {lib : List Fn1} {bv : Nat} {tr : Bool} {d : Nat} {x : Nd} {Ak : Option Addr} {F : Int} {act n bm bc : Nat} {env : ByteArray → Option Vl} {S : Nat → Prop} {v : Value} {ts : List Tr} {w : World} (h : EPre W0 A cap lib bv tr (d + 1) x Ak F act n bm bc env S v ts w) (ck : Nat) (hF : 0 < F) (hE : ExprC W0 A cap lib bv tr d) (hk : x.kind = 83) :
    Calls Tryd.prog 75 #[.pointer (some ⟨bv, 0, none⟩), .agg #[.int .u8 x.kind, .int .i64 x.num, .string x.name, .slice Ak x.kids.length ck], .map (some bm), .pointer (some ⟨bc, 0, none⟩)] w
      (RetE (ev apR lib (d + 1) act env x F.toNat) A cap lib bv bc tr act S v ts w) := by
  obtain ⟨y0, y1, y2, hkids⟩ := three ((form_len (Bool.and_eq_true_iff.1 ((formT_eq x).symm.trans h.form)).1).2.1 hk)
  have HEV := Lib.hid (ev_83 (lib := lib) (d := d) (act := act) (env := env) (by omega : 0 < F.toNat) hk hkids)
  obtain ⟨kb0, ko0, Ay0, cy0, eA0, kl0, c00, c01, c02, c03, hks0⟩ := h.kids.kid (k := 0) (by rw [hkids]; simp)
  have hgk0 : x.kids[0]? = some y0 := by rw [hkids]; rfl
  have hkk0 : x.kids[0]'(by rw [hkids]; simp) = y0 := by simp [hkids]
  rw [hkk0] at c00 c01 c02 c03 hks0
  have d00 := below_cell h.hb c00
  have d01 := below_cell h.hb c01
  have d02 := below_cell h.hb c02
  have d03 := below_cell h.hb c03
  have hfit0 := h.fit.kid hgk0
  have HC0 := Lib.hid (And.intro c00 (And.intro c01 (And.intro c02 c03)))
  clear c00 c01 c02 c03 hkk0
  obtain ⟨kb1, ko1, Ay1, cy1, eA1, kl1, c10, c11, c12, c13, hks1⟩ := h.kids.kid (k := 1) (by rw [hkids]; simp)
  have hgk1 : x.kids[1]? = some y1 := by rw [hkids]; rfl
  have hkk1 : x.kids[1]'(by rw [hkids]; simp) = y1 := by simp [hkids]
  rw [hkk1] at c10 c11 c12 c13 hks1
  have d10 := below_cell h.hb c10
  have d11 := below_cell h.hb c11
  have d12 := below_cell h.hb c12
  have d13 := below_cell h.hb c13
  have hfit1 := h.fit.kid hgk1
  have HC1 := Lib.hid (And.intro c10 (And.intro c11 (And.intro c12 c13)))
  clear c10 c11 c12 c13 hkk1
  obtain ⟨kb2, ko2, Ay2, cy2, eA2, kl2, c20, c21, c22, c23, hks2⟩ := h.kids.kid (k := 2) (by rw [hkids]; simp)
  have hgk2 : x.kids[2]? = some y2 := by rw [hkids]; rfl
  have hkk2 : x.kids[2]'(by rw [hkids]; simp) = y2 := by simp [hkids]
  rw [hkk2] at c20 c21 c22 c23 hks2
  have d20 := below_cell h.hb c20
  have d21 := below_cell h.hb c21
  have d22 := below_cell h.hb c22
  have d23 := below_cell h.hb c23
  have hfit2 := h.fit.kid hgk2
  have HC2 := Lib.hid (And.intro c20 (And.intro c21 (And.intro c22 c23)))
  clear c20 c21 c22 c23 hkk2
  rw [eA0] at eA1 eA2
  cases eA1
  cases eA2
  have hkp0 := Lib.hid (epre_kid h hgk0)
  have hkp1 := Lib.hid (epre_kid h hgk1)
  have hkp2 := Lib.hid (epre_kid h hgk2)
  have hne1 : kb0 ≠ bv := by have := h.bvl; omega
  have hne2 : bv ≠ kb0 := by omega
  have hkl : kb0 < w.heap.size := block_lt_of_cell d00
  have hlen3 : x.kids.length = 3 := by rw [hkids]; rfl
  subst eA0
  simp only [Nat.zero_mul, Nat.add_zero, Nat.one_mul, Nat.reduceMul] at d00 d01 d02 d03 d10 d11 d12 d13 d20 d21 d22 d23
  obtain ⟨v0, v1, v2, v3, z0, z1, z2, z3⟩ := h.ev.four
  have hlv : bv < w.heap.size := h.ev.lt
  have hes := Lib.hid (h.start (.int .u8 x.kind) (.int .i64 x.num) (.string x.name) (.slice (some ⟨kb0, ko0, none⟩) x.kids.length ck) 53 46)
  have hF0 : decide (F ≤ 0) = false := by simp; omega
  have hFu : F ≤ 1000000 := by have := h.tn; omega
  obtain ⟨hf1, hf2, hf3, hf4⟩ := h.fit.facts
  have HP := Lib.hid h
  clear h
  have k80 : ((x.kind : Int) == 80) = false := beqK (n := 80) (by omega)
  have k81 : ((x.kind : Int) == 81) = false := beqK (n := 81) (by omega)
  have k83 : ((x.kind : Int) == 83) = true := by rw [hk]; rfl
  have r1 : (0 : Int) < x.kids.length := by omega
  have r2 : (1 : Int) < x.kids.length := by omega
  have r3 : (2 : Int) < x.kids.length := by omega
  have hFe : F.toNat - 1 = (F - 1).toNat := by omega
  rw [hFe] at HEV
  have hG1 : (F - 1).toNat ≤ d := by have := HP.out.fuel; omega
  have hG2 : n + (F - 1).toNat ≤ 1000000 := by have := HP.out.en; omega
  have hG3 : ts.length + (F - 1).toNat ≤ 900000 := by have := HP.out.tn; omega
  have hac := HP.out.act30
  clear hFe
  clear hk hgk0 hgk1 hgk2 hkids hlen3
  go_enter Tryd.func75, Tryd.ntmps75
  go_wp2_with fail
  clear v0 v1 v2 v3 z0 z1 z2 z3 d00 d01 d02 d03 d10 d11 d12 d13 d20 d21 d22 d23
  generalize World.alloc _ _ = W at hes ⊢
  refine (es_kidC hE hes.out hks0 hfit0 hkp0.out.1 hkp0.out.2.1 hkp0.out.2.2 hes.out.env hG1 hG2 hG3 hac).mono ?_
  rintro e w4 ⟨hf4, h4⟩
  have rb4 := hes.out.rb.fr hf4 hes.out.mx.1.2
  have hrl := rb4.lt
  rcases h4 with ⟨q, ho, hq0, ⟨b, m, A', k, c, rfl⟩, F', ev4⟩ | ⟨t, f1, c, ho, A', c', v', rfl, hyl, hi, ev4, cs4, hat⟩
  · have hq1 : (q != 0) = true := by simpa using hq0
    have RF1 := Lib.hid (hes.out.fail (ts := ts) hf4 ev4 hq0 (HEV.out.trans (by rw [ho]; rfl)) false 0 none 0 0)
    obtain ⟨y0', y1', y2', x0, x1, x2⟩ := rb4.three
    have rb5 := rb4.set3 (.bool false) (.int .i64 0) (.slice none 0 0)
    clear ho HEV
    go_wp2_with fail
    generalize World.setCell _ _ _ = W5 at RF1 rb5 ⊢
    have bb := below_box W5 (Obj.cells #[.bool b, .int .i64 m, .slice A' k c] 46)
    have RF := RF1.out.below bb
    have rb6 := rb5.below bb
    generalize World.alloc _ _ = W6 at RF rb6 ⊢
    obtain ⟨s0, s1, s2, _⟩ := rb6.three
    exact bodyPost_ret (v := .tuple #[.agg #[.bool false, .int .i64 0, .slice none 0 0], .int .i64 q]) (by simp [results, Tryd.results75, go_sem, s0, s1, s2]) rfl RF
  · have hsp := ev_sp ho
    have es4 := hes.out.next hf4 ev4 cs4 hat
    have bb := below_box w4 (Obj.cells #[.bool t.list, .int .i64 t.n, .slice A' t.l.length c'] 46)
    have es5 := Lib.hid (es4.below bb)
    have hw4 : w4.heap.size ≠ w.heap.size + 1 := by omega
    have nb4 := es4.nb
    obtain ⟨n0, n1, n2, n3, _⟩ := nb4.four
    have hnl := nb4.lt
    have ES4 := Lib.hid es4
    clear es4 bb hi ev4 cs4 hat hf4
    by_cases htn : t.n = 0
    · have ht1 : (t.n != 0) = false := by simpa using htn
      have HEV2 := Lib.hid (HEV.out.trans (show _ = (ev apR lib d act env y2 f1).pre c by rw [ho]; show Out.pre c _ = _; dsimp only; rw [if_neg (fun e => e htn)]))
      obtain ⟨e20', e21', e22', e23'⟩ := HC2.out
      have e20 := below_cell ES4.out.hb e20'
      have e21 := below_cell ES4.out.hb e21'
      have e22 := below_cell ES4.out.hb e22'
      have e23 := below_cell ES4.out.hb e23'
      clear e20' e21' e22' e23'
      simp only [Nat.reduceMul] at e20 e21 e22 e23
      have hkl4 : kb0 < w4.heap.size := block_lt_of_cell e20
      clear htn HEV ho
      go_wp2_with fail
      clear e20 e21 e22 e23 n0 n1 n2 n3 nb4 ES4
      generalize World.alloc _ _ = W5 at es5 ⊢
      refine (es_kidC hE es5.out hks2 hfit2 hkp2.out.1 hkp2.out.2.1 hkp2.out.2.2 es5.out.env (by rw [Int.toNat_natCast]; omega) (by rw [Int.toNat_natCast]; omega) (by rw [Int.toNat_natCast, List.length_append]; have : (trC tr c).length ≤ c.length := (by cases tr <;> simp [trC]); omega) hac).mono ?_
      rintro e w6 hr
      obtain ⟨b, m, A6, k6, c6, q, rfl, rb6, hr6⟩ := es5.out.tail hr
      rw [Int.toNat_natCast, ← HEV2.out] at hr6
      have RF := hr6
      obtain ⟨y0', y1', y2', x0, x1, x2⟩ := rb6.three
      have rb7 := rb6.set3 (.bool b) (.int .i64 m) (.slice A6 k6 c6)
      clear hr hr6
      go_wp2_with fail
      generalize World.setCell _ _ _ = W7 at RF rb7 ⊢
      obtain ⟨s0, s1, s2, _⟩ := rb7.three
      exact bodyPost_ret (v := .tuple #[.agg #[.bool b, .int .i64 m, .slice A6 k6 c6], .int .i64 q]) (by simp [results, Tryd.results75, go_sem, s0, s1, s2]) rfl RF
    · have ht1 : (t.n != 0) = true := by simpa using htn
      have HEV2 := Lib.hid (HEV.out.trans (show _ = (ev apR lib d act env y1 f1).pre c by rw [ho]; show Out.pre c _ = _; dsimp only; rw [if_pos htn]))
      obtain ⟨e10', e11', e12', e13'⟩ := HC1.out
      have e10 := below_cell ES4.out.hb e10'
      have e11 := below_cell ES4.out.hb e11'
      have e12 := below_cell ES4.out.hb e12'
      have e13 := below_cell ES4.out.hb e13'
      clear e10' e11' e12' e13'
      simp only [Nat.one_mul] at e10 e11 e12 e13
      have hkl4 : kb0 < w4.heap.size := block_lt_of_cell e10
      clear htn HEV ho
      go_wp2_with fail
      clear e10 e11 e12 e13 n0 n1 n2 n3 nb4 ES4
      generalize World.alloc _ _ = W5 at es5 ⊢
      refine (es_kidC hE es5.out hks1 hfit1 hkp1.out.1 hkp1.out.2.1 hkp1.out.2.2 es5.out.env (by rw [Int.toNat_natCast]; omega) (by rw [Int.toNat_natCast]; omega) (by rw [Int.toNat_natCast, List.length_append]; have : (trC tr c).length ≤ c.length := (by cases tr <;> simp [trC]); omega) hac).mono ?_
      rintro e w6 hr
      obtain ⟨b, m, A6, k6, c6, q, rfl, rb6, hr6⟩ := es5.out.tail hr
      rw [Int.toNat_natCast, ← HEV2.out] at hr6
      have RF := hr6
      obtain ⟨y0', y1', y2', x0, x1, x2⟩ := rb6.three
      have rb7 := rb6.set3 (.bool b) (.int .i64 m) (.slice A6 k6 c6)
      clear hr hr6
      go_wp2_with fail
      generalize World.setCell _ _ _ = W7 at RF rb7 ⊢
      obtain ⟨s0, s1, s2, _⟩ := rb7.three
      exact bodyPost_ret (v := .tuple #[.agg #[.bool b, .int .i64 m, .slice A6 k6 c6], .int .i64 q]) (by simp [results, Tryd.results75, go_sem, s0, s1, s2]) rfl RF

set_option maxRecDepth 100000 in
set_option maxHeartbeats 4000000 in
theorem expr_84 {W0 : World} {A : Option Addr} {cap : Nat} {lib : List Fn1} {bv : Nat} {tr : Bool} {d : Nat} {x : Nd} {Ak : Option Addr} {F : Int} {act n bm bc : Nat} {env : ByteArray → Option Vl} {S : Nat → Prop} {v : Value} {ts : List Tr} {w : World} (h : EPre W0 A cap lib bv tr (d + 1) x Ak F act n bm bc env S v ts w) (ck : Nat) (hF : 0 < F) (hE : ExprC W0 A cap lib bv tr d) (hk : x.kind = 84) :
    Calls Tryd.prog 75 #[.pointer (some ⟨bv, 0, none⟩), .agg #[.int .u8 x.kind, .int .i64 x.num, .string x.name, .slice Ak x.kids.length ck], .map (some bm), .pointer (some ⟨bc, 0, none⟩)] w
      (RetE (ev apR lib (d + 1) act env x F.toNat) A cap lib bv bc tr act S v ts w) := by
  obtain ⟨y0, y1, hkids⟩ := two ((form_len (Bool.and_eq_true_iff.1 ((formT_eq x).symm.trans h.form)).1).2.2.1 hk)
  have HEV := Lib.hid (ev_84 (lib := lib) (d := d) (act := act) (env := env) (by omega : 0 < F.toNat) hk hkids)
  obtain ⟨kb0, ko0, Ay0, cy0, eA0, kl0, c00, c01, c02, c03, hks0⟩ := h.kids.kid (k := 0) (by rw [hkids]; simp)
  have hgk0 : x.kids[0]? = some y0 := by rw [hkids]; rfl
  have hkk0 : x.kids[0]'(by rw [hkids]; simp) = y0 := by simp [hkids]
  rw [hkk0] at c00 c01 c02 c03 hks0
  have d00 := below_cell h.hb c00
  have d01 := below_cell h.hb c01
  have d02 := below_cell h.hb c02
  have d03 := below_cell h.hb c03
  have hfit0 := h.fit.kid hgk0
  have HC0 := Lib.hid (And.intro c00 (And.intro c01 (And.intro c02 c03)))
  clear c00 c01 c02 c03 hkk0
  obtain ⟨kb1, ko1, Ay1, cy1, eA1, kl1, c10, c11, c12, c13, hks1⟩ := h.kids.kid (k := 1) (by rw [hkids]; simp)
  have hgk1 : x.kids[1]? = some y1 := by rw [hkids]; rfl
  have hkk1 : x.kids[1]'(by rw [hkids]; simp) = y1 := by simp [hkids]
  rw [hkk1] at c10 c11 c12 c13 hks1
  have d10 := below_cell h.hb c10
  have d11 := below_cell h.hb c11
  have d12 := below_cell h.hb c12
  have d13 := below_cell h.hb c13
  have hfit1 := h.fit.kid hgk1
  have HC1 := Lib.hid (And.intro c10 (And.intro c11 (And.intro c12 c13)))
  clear c10 c11 c12 c13 hkk1
  rw [eA0] at eA1
  cases eA1
  have hkp0 := Lib.hid (epre_kid h hgk0)
  have hkp1 := Lib.hid (epre_kid h hgk1)
  have hne1 : kb0 ≠ bv := by have := h.bvl; omega
  have hne2 : bv ≠ kb0 := by omega
  have hkl : kb0 < w.heap.size := block_lt_of_cell d00
  have hlen3 : x.kids.length = 2 := by rw [hkids]; rfl
  subst eA0
  simp only [Nat.zero_mul, Nat.add_zero, Nat.one_mul] at d00 d01 d02 d03 d10 d11 d12 d13
  obtain ⟨v0, v1, v2, v3, z0, z1, z2, z3⟩ := h.ev.four
  have hlv : bv < w.heap.size := h.ev.lt
  have hes := Lib.hid (h.start (.int .u8 x.kind) (.int .i64 x.num) (.string x.name) (.slice (some ⟨kb0, ko0, none⟩) x.kids.length ck) 53 46)
  have hF0 : decide (F ≤ 0) = false := by simp; omega
  have hFu : F ≤ 1000000 := by have := h.tn; omega
  obtain ⟨hf1, hf2, hf3, hf4⟩ := h.fit.facts
  have HP := Lib.hid h
  clear h
  have k80 : ((x.kind : Int) == 80) = false := beqK (n := 80) (by omega)
  have k81 : ((x.kind : Int) == 81) = false := beqK (n := 81) (by omega)
  have k83 : ((x.kind : Int) == 83) = false := beqK (n := 83) (by omega)
  have k84 : ((x.kind : Int) == 84) = true := by rw [hk]; rfl
  have r1 : (0 : Int) < x.kids.length := by omega
  have r2 : (1 : Int) < x.kids.length := by omega
  have hFe : F.toNat - 1 = (F - 1).toNat := by omega
  rw [hFe] at HEV
  have hG1 : (F - 1).toNat ≤ d := by have := HP.out.fuel; omega
  have hG2 : n + (F - 1).toNat ≤ 1000000 := by have := HP.out.en; omega
  have hG3 : ts.length + (F - 1).toNat ≤ 900000 := by have := HP.out.tn; omega
  have hac := HP.out.act30
  clear hFe
  clear hk hgk0 hgk1 hkids hlen3
  go_enter Tryd.func75, Tryd.ntmps75
  go_wp2_with fail
  clear v0 v1 v2 v3 z0 z1 z2 z3 d00 d01 d02 d03 d10 d11 d12 d13
  generalize World.alloc _ _ = W at hes ⊢
  refine (es_kidC hE hes.out hks0 hfit0 hkp0.out.1 hkp0.out.2.1 hkp0.out.2.2 hes.out.env hG1 hG2 hG3 hac).mono ?_
  rintro e w4 ⟨hf4, h4⟩
  have rb4 := hes.out.rb.fr hf4 hes.out.mx.1.2
  have hrl := rb4.lt
  rcases h4 with ⟨q, ho, hq0, ⟨b, m, A', k, c, rfl⟩, F', ev4⟩ | ⟨t, f1, c, ho, A', c', v', rfl, hyl, hi, ev4, cs4, hat⟩
  · have hq1 : (q != 0) = true := by simpa using hq0
    have RF1 := Lib.hid (hes.out.fail (ts := ts) hf4 ev4 hq0 (HEV.out.trans (by rw [ho]; rfl)) false 0 none 0 0)
    obtain ⟨y0', y1', y2', x0, x1, x2⟩ := rb4.three
    have rb5 := rb4.set3 (.bool false) (.int .i64 0) (.slice none 0 0)
    clear ho HEV
    go_wp2_with fail
    generalize World.setCell _ _ _ = W5 at RF1 rb5 ⊢
    have bb := below_box W5 (Obj.cells #[.bool b, .int .i64 m, .slice A' k c] 46)
    have RF := RF1.out.below bb
    have rb6 := rb5.below bb
    generalize World.alloc _ _ = W6 at RF rb6 ⊢
    obtain ⟨s0, s1, s2, _⟩ := rb6.three
    exact bodyPost_ret (v := .tuple #[.agg #[.bool false, .int .i64 0, .slice none 0 0], .int .i64 q]) (by simp [results, Tryd.results75, go_sem, s0, s1, s2]) rfl RF
  · have hsp := ev_sp ho
    have HEV2 := Lib.hid (HEV.out.trans (show _ = (ev apR lib d act (setV env x.name t) y1 f1).pre c by rw [ho]; rfl))
    have es4 := hes.out.next hf4 ev4 cs4 hat
    have bb := below_box w4 (Obj.cells #[.bool t.list, .int .i64 t.n, .slice A' t.l.length c'] 46)
    have es5 := Lib.hid (es4.below bb)
    have hi5 := Lib.hid (hi.le (X' := Hd (fun k => S k ∨ k = w.heap.size + 1) v') (Le.of_fr (Fr.of_below bb (fun _ => False)) (fun _ _ e => e.elim) fun _ _ e => e))
    have tb5 := bx_new w4 #[.bool t.list, .int .i64 t.n, .slice A' t.l.length c'] 46
    clear es4 bb hi ev4 cs4 hat hf4 HEV ho
    go_wp2_with fail
    generalize World.alloc _ _ = W5 at es5 hi5 tb5 ⊢
    obtain ⟨hXm, raw, hM, h3, h4⟩ := es5.out.env
    refine (mclone_any bm n raw W5 hM).mono ?_
    rintro e w6 ⟨rfl, hM6, hb6⟩
    have es6 := Lib.hid (es5.out.below hb6)
    have tb6 := tb5.below hb6
    have le6 : Le W5 (Hd (fun k => S k ∨ k = w.heap.size + 1) v') w6 (Hd (fun k => S k ∨ k = w.heap.size + 1) v') := Le.of_fr (Fr.of_below hb6 (fun _ => False)) (fun _ _ e => e.elim) fun _ _ e => e
    have hi6 := Lib.hid (hi5.out.le le6)
    have HM6 := Lib.hid hM6
    have hXn : ¬ Hd (fun k => S k ∨ k = w.heap.size + 1) v' W5.heap.size := fun e => by
      rcases e with e | e
      · have := es5.out.Sl _ e; omega
      · have := (es5.out.cs.own_gt _ e).2; omega
    have H34 := Lib.hid (And.intro hXn (And.intro h3 (fun (s : ByteArray) (u : Vl) (hs : env s = some u) => (show u.l.length ≤ 1000000 ∧ ∃ A c, raw s = some (.agg #[.bool u.list, .int .i64 u.n, .slice A u.l.length c]) ∧ IntsC w6 (Hd (fun k => S k ∨ k = w.heap.size + 1) v') A c u.l from by
      obtain ⟨p1, A1, c1, p2, p3⟩ := h4 s u hs
      exact ⟨p1, A1, c1, p2, p3.le le6⟩))))
    obtain ⟨t0, t1, t2, _⟩ := tb6.three
    obtain ⟨n0, n1, n2, n3, _⟩ := es6.out.nb.four
    have hbm7 : bm < W5.heap.size := hM.lt
    have hlt5 := es5.out.lt
    clear hM hM6 hXm h3 h4 hb6 tb5 tb6 es5 hi5 le6 hXn
    go_wp2_with (at_mapUpdate; go_loud (refine wpList_put_V _ rfl _ _ _ 148 (.inl rfl) Tryd.underlying148 W5.heap.size n raw rfl HM6.out (by unfold maxLen; omega) x.name _ rfl rfl hf3 ?_; intro w7 HM7 hT7; have es7 := Lib.hid (es6.out.turned hT7 (by omega) (by omega)); obtain ⟨p0, p1, p2, p3, _⟩ := es7.out.nb.four; obtain ⟨e10', e11', e12', e13'⟩ := HC1.out; have e10 := below_cell es7.out.hb e10'; have e11 := below_cell es7.out.hb e11'; have e12 := below_cell es7.out.hb e12'; have e13 := below_cell es7.out.hb e13'; clear e10' e11' e12' e13'; simp only [Nat.one_mul] at e10 e11 e12 e13; have hN := Lib.hid (EnvX.put H34.out.1 H34.out.2.1 H34.out.2.2 (Le.of_turned hT7 _) hi6.out hyl HM7); clear HM7 hT7 H34 HM6))
    clear e10 e11 e12 e13 p0 p1 p2 p3 t0 t1 t2 n0 n1 n2 n3 es6 hi6
    refine (es_kidC hE es7.out hks1 hfit1 hkp1.out.1 hkp1.out.2.1 hkp1.out.2.2 hN.out (by rw [Int.toNat_natCast]; omega) (by rw [Int.toNat_natCast]; omega) (by rw [Int.toNat_natCast, List.length_append]; have : (trC tr c).length ≤ c.length := (by cases tr <;> simp [trC]); omega) hac).mono ?_
    rintro e w8 hr
    obtain ⟨b, m, A6, k6, c6, q, rfl, rb6, hr6⟩ := es7.out.tail hr
    rw [Int.toNat_natCast, ← HEV2.out] at hr6
    have RF := hr6
    obtain ⟨y0', y1', y2', x0, x1, x2⟩ := rb6.three
    have rb7 := rb6.set3 (.bool b) (.int .i64 m) (.slice A6 k6 c6)
    clear hr hr6
    go_wp2_with fail
    generalize World.setCell _ _ _ = W7 at RF rb7 ⊢
    obtain ⟨s0, s1, s2, _⟩ := rb7.three
    exact bodyPost_ret (v := .tuple #[.agg #[.bool b, .int .i64 m, .slice A6 k6 c6], .int .i64 q]) (by simp [results, Tryd.results75, go_sem, s0, s1, s2]) rfl RF

end Go.Proofs.YtcoeakdpcigogaaDoor

namespace Go.Proofs.YtcoeakdpcigogaaDoor
open Go.ChangeShapes Go.WideShapes Go.ChangeAt Go.RowKit Go.Sort Go.Maps

/-- Fewer blocks are hidden. -/
theorem ES.less {W0 : World} {A : Option Addr} {cap : Nat} {lib : List Fn1} {bv bc : Nat} {tr : Bool} {act n bm : Nat} {env : ByteArray → Option Vl} {S : Nat → Prop} {v0 : Value} {w : World} {u0 u1 u2 u3 : Value} {wc : World} {G : Int} {vc : Value} {ts : List Tr} (h : ES W0 A cap lib bv bc tr act n bm env S v0 w u0 u1 u2 u3 wc G vc ts) {S' : Nat → Prop} (hS : ∀ k, S' k → S k) (hv : S' bv) (hc : S' bc) : ES W0 A cap lib bv bc tr act n bm env S' v0 w u0 u1 u2 u3 wc G vc ts := by
  have hX : ∀ k, k < wc.heap.size → Hd S' vc k → Hd S vc k := fun k _ e => e.elim (fun e => .inl (hS k e)) .inr
  exact ⟨h.fr, h.hb, h.ev, h.cs.fr (Fr.refl wc (fun _ => False)) id (fun _ _ => id) (fun _ _ e => e.elim) hX, h.env.fr (Fr.refl wc (fun _ => False)) (fun _ _ e => e.elim) hX, h.nb, h.rb, h.at_, h.old, h.bvl, hv, hc, fun k e => h.Sl k (hS k e)⟩
/-- The hidden blocks with the row of l. -/
def SL (S : Nat → Prop) (lv : Value) (k : Nat) : Prop := S k ∨ lv.ownBlock = some k
/-- A row of the call's own has grown. -/
theorem ES.grown {W0 : World} {A : Option Addr} {cap : Nat} {lib : List Fn1} {bv bc : Nat} {tr : Bool} {act n bm : Nat} {env : ByteArray → Option Vl} {S : Nat → Prop} {v0 : Value} {w : World} {u0 u1 u2 u3 : Value} {wc : World} {G : Int} {vc : Value} {ts : List Tr} {lv lv' : Value} (h : ES W0 A cap lib bv bc tr act n bm env (SL S lv) v0 w u0 u1 u2 u3 wc G vc ts) {w' : World} (hg : wc.grownBy w' lv.ownBlock) (hat : lv'.ownBlock = lv.ownBlock ∨ lv'.ownBlock = some wc.heap.size) (hl : ∀ g, lv.ownBlock = some g → w.heap.size + 2 ≤ g ∧ vc.ownBlock ≠ some g) (hv : S bv) (hc : S bc) (hSl : ∀ k, S k → k < wc.heap.size) (hl' : ∀ g, lv'.ownBlock = some g → g < w'.heap.size) :
    ES W0 A cap lib bv bc tr act n bm env (SL S lv') v0 w u0 u1 u2 u3 w' G vc ts ∧ ∀ g, lv'.ownBlock = some g → w.heap.size + 2 ≤ g ∧ vc.ownBlock ≠ some g := by
  have f := Fr.of_grown hg
  have hb := h.bvl
  have hlt := h.lt
  have hX : ∀ k, k < wc.heap.size → Hd (SL S lv') vc k → Hd (SL S lv) vc k := fun k hk e => by
    rcases e with (e | e) | e
    · exact .inl (.inl e)
    · rcases hat with e' | e'
      · exact .inl (.inr (e'.symm.trans e))
      · rw [e'] at e; have := Option.some.inj e; omega
    · exact .inr e
  have hm : ∀ k, k < wc.heap.size → some k = lv.ownBlock → Hd (SL S lv) vc k := fun k _ e => .inl (.inr e.symm)
  refine ⟨⟨h.fr.trans f (fun k hk e => ?_), f.below h.hb fun k e => ?_, h.ev.fr f (fun e => ?_), h.cs.fr f (fun e => ?_) (fun g hg e => ?_) hm hX, h.env.fr f hm hX, h.nb.fr f (fun e => ?_), h.rb.fr f (fun e => ?_), h.at_, h.old, h.bvl, .inl hv, .inl hc, fun k e => ?_⟩, fun g hg => ?_⟩
  · have := (hl k e.symm).1; omega
  · have := (hl k e.symm).1; omega
  · have := (hl _ e.symm).1; omega
  · have := (hl _ e.symm).1; omega
  · exact (hl g e.symm).2 hg
  · have := (hl _ e.symm).1; omega
  · have := (hl _ e.symm).1; omega
  · rcases e with e | e
    · exact Nat.lt_of_lt_of_le (hSl k e) f.size
    · exact hl' k e
  · rcases hat with e' | e'
    · exact hl g (e'.symm.trans hg)
    · rw [e'] at hg
      have := Option.some.inj hg
      refine ⟨by omega, fun e => ?_⟩
      have := (h.cs.own_gt g e).2; omega

/-- The operands evaluated so far. -/
structure LI (W0 : World) (A : Option Addr) (cap : Nat) (lib : List Fn1) (bv bc : Nat) (tr : Bool) (act n bm : Nat) (env : ByteArray → Option Vl) (S : Nat → Prop) (v0 : Value) (w : World) (u0 u1 u2 u3 : Value) (wc : World) (f1 : Nat) (vc : Value) (ts : List Tr) (lv : Value) (vs : List Vl) : Prop where
  es : ES W0 A cap lib bv bc tr act n bm env (SL S lv) v0 w u0 u1 u2 u3 wc f1 vc ts
  row : ∃ cs, wc.ownsRow (w.heap.size + 2) 46 3 lv vs.length cs ∧ RowG (VlC wc (Hd (SL S lv) vc)) cs vs
  ne : ∀ g, lv.ownBlock = some g → w.heap.size + 2 ≤ g ∧ vc.ownBlock ≠ some g
  len : ∀ v ∈ vs, v.l.length ≤ 1000000
  Sv : S bv
  Sc : S bc
  Sl : ∀ k, S k → k < w.heap.size + 2
theorem LI.below {W0 : World} {A : Option Addr} {cap : Nat} {lib : List Fn1} {bv bc : Nat} {tr : Bool} {act n bm : Nat} {env : ByteArray → Option Vl} {S : Nat → Prop} {v0 : Value} {w : World} {u0 u1 u2 u3 : Value} {wc w' : World} {f1 : Nat} {vc : Value} {ts : List Tr} {lv : Value} {vs : List Vl} (h : LI W0 A cap lib bv bc tr act n bm env S v0 w u0 u1 u2 u3 wc f1 vc ts lv vs) (hb : Below wc.heap.size wc w') : LI W0 A cap lib bv bc tr act n bm env S v0 w u0 u1 u2 u3 w' f1 vc ts lv vs := by
  obtain ⟨cs, h1, h2⟩ := h.row
  have f := Fr.of_below hb (fun _ => False)
  exact ⟨h.es.below hb, ⟨cs, f.own h1 (fun _ _ => id), h2.map (VlC.le (Le.of_fr f (fun _ _ e => e.elim) fun _ _ e => e))⟩, h.ne, h.len, h.Sv, h.Sc, h.Sl⟩
/-- After an operand that has a value. -/
theorem LI.next {W0 : World} {A : Option Addr} {cap : Nat} {lib : List Fn1} {bv bc : Nat} {tr : Bool} {act n bm : Nat} {env : ByteArray → Option Vl} {S : Nat → Prop} {v0 : Value} {w : World} {u0 u1 u2 u3 : Value} {wc w' : World} {f1 f2 : Nat} {vc v' : Value} {ts ts' : List Tr} {lv : Value} {vs : List Vl} (h : LI W0 A cap lib bv bc tr act n bm env S v0 w u0 u1 u2 u3 wc f1 vc ts lv vs)
    (hf : Fr wc w' (Mx bv bc vc)) (hev : EvAt w' bv A cap lib f2 act tr) (hcs : CsAt w' (Hd (SL S lv) v') bc v' ts') (hat : v'.ownBlock = vc.ownBlock ∨ ∃ g, v'.ownBlock = some g ∧ wc.heap.size ≤ g) : LI W0 A cap lib bv bc tr act n bm env S v0 w u0 u1 u2 u3 w' f2 v' ts' lv vs := by
  obtain ⟨cs, h1, h2⟩ := h.row
  have hb := h.es.bvl
  have hlt := h.es.lt
  refine ⟨h.es.next hf hev hcs hat, ⟨cs, hf.own h1 (fun g hg e => ?_), h2.map (VlC.le (Le.of_fr hf (fun k _ e => ?_) fun k hk e => ?_))⟩, fun g hg => ⟨(h.ne g hg).1, fun e => ?_⟩, h.len, h.Sv, h.Sc, h.Sl⟩
  · have h3 := h.ne g hg
    rcases e with e | e | e
    · omega
    · omega
    · exact h3.2 e
  · rcases e with e | e | e
    · rw [e]; exact .inl (.inl h.Sv)
    · rw [e]; exact .inl (.inl h.Sc)
    · exact .inr e
  · rcases e with e | e
    · exact .inl e
    · rcases hat with e' | ⟨g, e', h'⟩
      · exact .inr (e'.symm.trans e)
      · rw [e'] at e; have := Option.some.inj e; omega
  · rcases hat with e' | ⟨g', e', h'⟩
    · exact (h.ne g hg).2 (e'.symm.trans e)
    · rw [e'] at e
      have := Option.some.inj e
      have := (h1.lt g hg).2; omega
/-- The value is appended. -/
theorem LI.push {W0 : World} {A : Option Addr} {cap : Nat} {lib : List Fn1} {bv bc : Nat} {tr : Bool} {act n bm : Nat} {env : ByteArray → Option Vl} {S : Nat → Prop} {v0 : Value} {w : World} {u0 u1 u2 u3 : Value} {wc w' : World} {f1 : Nat} {vc : Value} {ts : List Tr} {lv lv' : Value} {vs : List Vl} (h : LI W0 A cap lib bv bc tr act n bm env S v0 w u0 u1 u2 u3 wc f1 vc ts lv vs) {cs : List Value} (hr : RowG (VlC wc (Hd (SL S lv) vc)) cs vs)
    {u : Vl} {A' : Option Addr} {c' : Nat} (hi : IntsC wc (Hd (SL S lv) vc) A' c' u.l) (hul : u.l.length ≤ 1000000) (hg : wc.grownBy w' lv.ownBlock) (hat : lv'.ownBlock = lv.ownBlock ∨ lv'.ownBlock = some wc.heap.size)
    (hown : w'.ownsRow (w.heap.size + 2) 46 3 lv' (vs.length + 1) (cs ++ [.bool u.list, .int .i64 u.n, .slice A' u.l.length c'])) : LI W0 A cap lib bv bc tr act n bm env S v0 w u0 u1 u2 u3 w' f1 vc ts lv' (vs ++ [u]) := by
  have hlt := h.es.lt
  obtain ⟨e1, e2⟩ := h.es.grown hg hat h.ne h.Sv h.Sc (fun k e => Nat.lt_of_lt_of_le (h.Sl k e) hlt) (fun g hg => (hown.lt g hg).2)
  have l1 : Le wc (Hd (SL S lv) vc) w' (Hd (SL S lv') vc) := Le.of_fr (Fr.of_grown hg) (fun k _ e => .inl (.inr e.symm)) fun k hk e => by
    rcases e with (e | e) | e
    · exact .inl (.inl e)
    · rcases hat with e' | e'
      · exact .inl (.inr (e'.symm.trans e))
      · rw [e'] at e; have := Option.some.inj e; omega
    · exact .inr e
  refine ⟨e1, ⟨_, by rw [List.length_append]; exact hown, .snoc (hr.map (VlC.le l1)) (VlC.mk (hi.le l1))⟩, e2, fun v hv => ?_, h.Sv, h.Sc, h.Sl⟩
  rcases List.mem_append.1 hv with hv | hv
  · exact h.len v hv
  · rw [List.mem_singleton] at hv; rw [hv]; exact hul
/-- The operands as a slice. -/
theorem LI.slice {W0 : World} {A : Option Addr} {cap : Nat} {lib : List Fn1} {bv bc : Nat} {tr : Bool} {act n bm : Nat} {env : ByteArray → Option Vl} {S : Nat → Prop} {v0 : Value} {w : World} {u0 u1 u2 u3 : Value} {wc : World} {f1 : Nat} {vc : Value} {ts : List Tr} {lv : Value} {vs : List Vl} (h : LI W0 A cap lib bv bc tr act n bm env S v0 w u0 u1 u2 u3 wc f1 vc ts lv vs) : ∃ Al cl, lv = .slice Al vs.length cl ∧ VlsX wc (Hd S vc) Al vs ∧ ES W0 A cap lib bv bc tr act n bm env S v0 w u0 u1 u2 u3 wc f1 vc ts := by
  obtain ⟨cs, h1, h2⟩ := h.row
  have hX : ∀ k, k < wc.heap.size → Hd S vc k → Hd (SL S lv) vc k := fun k _ e => e.elim (fun e => .inl (.inl e)) .inr
  obtain ⟨Al, cl, e, h3⟩ := vlsX_of_own (X := Hd S vc) h1 (h2.map (VlC.le (Le.less hX))) (fun g hg e => by
    rcases e with e | e
    · have := h.Sl g e; have := (h.ne g hg).1; omega
    · exact (h.ne g hg).2 e)
  exact ⟨Al, cl, e, h3, h.es.less (fun k e => .inl e) h.Sv h.Sc⟩
/-- .. evaluated one after the other. -/
theorem evL_snoc (E : Nd → Nat → Out) : ∀ (l : List Nd) (y : Nd) (f : Nat) {vs : List Vl} {f1 : Nat} {c : List Tr}, evL E l f = .ok vs f1 c → evL E (l ++ [y]) f = match E y f1 with | .err e => .err e | .ok u f2 c2 => .ok (vs ++ [u]) f2 (c ++ c2)
  | [], y, f, vs, f1, c, h => by
    rw [evL] at h
    cases h
    rw [List.nil_append, evL]
    cases E y f with
    | err e => rfl
    | ok u f2 c2 => simp [evL]
  | x :: r, y, f, vs, f1, c, h => by
    rw [evL] at h
    rw [List.cons_append, evL]
    cases hx : E x f with
    | err e => rw [hx] at h; cases h
    | ok u f2 c2 =>
      rw [hx] at h
      dsimp only at h ⊢
      cases hr : evL E r f2 with
      | err e => rw [hr] at h; cases h
      | ok us f3 c3 =>
        rw [hr] at h
        cases h
        rw [evL_snoc E r y f2 hr]
        cases E y f1 with
        | err e => rfl
        | ok u2 f4 c4 => simp
theorem evL_stop (E : Nd → Nat → Out) : ∀ (l r : List Nd) (f : Nat) {e : Int}, evL E l f = .err e → evL E (l ++ r) f = .err e
  | [], r, f, e, h => by rw [evL] at h; cases h
  | x :: l, r, f, e, h => by
    rw [evL] at h
    rw [List.cons_append, evL]
    cases hx : E x f with
    | err e' => rw [hx] at h; exact h
    | ok u f2 c2 =>
      rw [hx] at h
      dsimp only at h ⊢
      cases hr : evL E l f2 with
      | err e' => rw [hr] at h; cases h; rw [evL_stop E l r f2 hr]
      | ok us f3 c3 => rw [hr] at h; cases h
theorem evL_sp {lib : List Fn1} {d act : Nat} {env : ByteArray → Option Vl} {l : List Nd} {f : Nat} {vs : List Vl} {f1 : Nat} {c : List Tr} (h : evL (ev apR lib d act env) l f = .ok vs f1 c) : f1 + c.length ≤ f := by
  have h1 := evL_cost (fun x f => Out.cost_S (ev_cost apR lib d act env x f)) l f
  rw [h] at h1
  have h2 : f1 + stepsL c ≤ f := h1
  have h3 : c.length ≤ stepsL c := by
    clear h1 h2 h
    induction c with
    | nil => simp
    | cons t r ih => cases t; rw [stepsL, stepsT, List.length_cons]; omega
  omega

end Go.Proofs.YtcoeakdpcigogaaDoor

namespace Go.Proofs.YtcoeakdpcigogaaDoor
open Go.ChangeShapes Go.WideShapes Go.ChangeAt Go.RowKit Go.Sort Go.Maps

theorem ev_op {lib : List Fn1} {d act : Nat} {env : ByteArray → Option Vl} {x : Nd} {f : Nat} (h0 : 0 < f) (h80 : x.kind ≠ 80) (h81 : x.kind ≠ 81) (h83 : x.kind ≠ 83) (h84 : x.kind ≠ 84) : ev apR lib (d + 1) act env x f = (evL (ev apR lib d act env) x.kids (f - 1)).bind fun vs f1 => if x.kind = 85 then (enter lib (ev apR lib d) act (findF lib x.name 0) vs f1).out else opO apR x vs f1 := by
  rw [ev, if_neg (by omega), if_neg h80, if_neg h81, if_neg h83, if_neg h84]
theorem evL_len {E : Nd → Nat → Out} : ∀ {l : List Nd} {f : Nat} {vs : List Vl} {f1 : Nat} {c : List Tr}, evL E l f = .ok vs f1 c → vs.length = l.length
  | [], f, vs, f1, c, h => by rw [evL] at h; cases h; rfl
  | x :: r, f, vs, f1, c, h => by
    rw [evL] at h
    cases hx : E x f with
    | err e => rw [hx] at h; cases h
    | ok u f2 c2 =>
      rw [hx] at h
      dsimp only at h
      cases hr : evL E r f2 with
      | err e => rw [hr] at h; cases h
      | ok us f3 c3 => rw [hr] at h; cases h; simp [evL_len hr]
theorem opO_ok {x : Nd} {vs : List Vl} {f : Nat} (h : (opR apR x.kind x.num vs).2 = 0) : opO apR x vs f = .ok (opR apR x.kind x.num vs).1 f [] := by unfold opO; rw [if_pos h]
theorem opO_err {x : Nd} {vs : List Vl} {f : Nat} (h : (opR apR x.kind x.num vs).2 ≠ 0) : opO apR x vs f = .err (opR apR x.kind x.num vs).2 := by unfold opO; rw [if_neg h]

/-! ### Calls -/
/-- What the call has left, its results told apart. -/
def CR (o : OutT) (A : Option Addr) (cap : Nat) (lib : List Fn1) (bv : Nat) (tr : Bool) (act : Nat) (S : Nat → Prop) (w w' : World) (cs : List Value) (q : Int) : Prop :=
  Fr w w' (fun k => k = bv) ∧ ((∃ n, o = .err n ∧ n ≠ 0 ∧ q = n ∧ ∃ F', EvAt w' bv A cap lib F' act tr) ∨ (∃ t f1, o = .ok t f1 ∧ q = 0 ∧ t.res.l.length ≤ 1000000 ∧ EvAt w' bv A cap lib f1 act tr ∧ TrC w' S cs (trT tr t)))
theorem RetC.form {o : OutT} {A : Option Addr} {cap : Nat} {lib : List Fn1} {bv : Nat} {tr : Bool} {act : Nat} {S : Nat → Prop} {w w' : World} {e : Ending} (h : RetC o A cap lib bv tr act S w e w') :
    ∃ (tf : Int) (Aa : Option Addr) (na ca : Nat) (b : Bool) (m : Int) (AL : Option Addr) (nl cL : Nat) (Ac : Option Addr) (nc cc : Nat) (q : Int), e = .returned (.tuple #[.agg #[.int .i64 tf, .slice Aa na ca, .bool b, .int .i64 m, .slice AL nl cL, .slice Ac nc cc], .int .i64 q]) ∧ CR o A cap lib bv tr act S w w' [.int .i64 tf, .slice Aa na ca, .bool b, .int .i64 m, .slice AL nl cL, .slice Ac nc cc] q := by
  obtain ⟨hf, h⟩ := h
  rcases h with ⟨n, ho, hn, rfl, hev⟩ | ⟨t, f1, ho, hl, hev, cs, hcs, _, rfl⟩
  · exact ⟨0, none, 0, 0, false, 0, none, 0, 0, none, 0, 0, n, rfl, hf, .inl ⟨n, ho, hn, rfl, hev⟩⟩
  · obtain ⟨Aa, ca, AL, cL, Ac, cc, rfl, h1, h2, h3⟩ := id hcs
    exact ⟨_, Aa, _, ca, _, _, AL, _, cL, Ac, _, cc, 0, rfl, hf, .inr ⟨t, f1, ho, rfl, hl, hev, hcs⟩⟩
theorem CR.bv0 {o : OutT} {A : Option Addr} {cap : Nat} {lib : List Fn1} {bv : Nat} {tr : Bool} {act : Nat} {S : Nat → Prop} {w w' : World} {cs : List Value} {q : Int} (h : CR o A cap lib bv tr act S w w' cs q) : w'.cell? ⟨bv, 0, none⟩ = some (.slice A lib.length cap) := by
  rcases h.2 with ⟨n, _, _, _, F', hev⟩ | ⟨t, f1, _, _, _, hev, _⟩
  · exact hev.cell rfl
  · exact hev.cell rfl
/-- .. and its tree in block P. -/
def CallAt (o : OutT) (A : Option Addr) (cap : Nat) (lib : List Fn1) (bv : Nat) (tr : Bool) (act : Nat) (S : Nat → Prop) (w w' : World) (P : Nat) (cs : List Value) (q : Int) : Prop := CR o A cap lib bv tr act S w w' cs q ∧ w.heap.size ≤ P ∧ Bx w' P cs.toArray
theorem call_new {o : OutT} {A : Option Addr} {cap : Nat} {lib : List Fn1} {bv : Nat} {tr : Bool} {act : Nat} {S X : Nat → Prop} {w0 w w' : World} {cs : List Value} {q : Int} (h : CR o A cap lib bv tr act X w w' cs q) (h0 : Below w0.heap.size w0 w) (hX : ∀ k, S k → X k) (T : TypeId) : CallAt o A cap lib bv tr act S w0 (w'.alloc (Obj.cells cs.toArray T)) w'.heap.size cs q := by
  have hb := below_box w' (Obj.cells cs.toArray T)
  have f := Fr.of_below hb (fun _ => False)
  refine ⟨⟨((Fr.of_below h0 _).trans h.1 (fun _ _ e => e)).trans f (fun _ _ e => e.elim), ?_⟩, Nat.le_trans h0.size h.1.size, bx_new w' cs.toArray T⟩
  rcases h.2 with ⟨n, ho, hn, hq, F', hev⟩ | ⟨t, f1, ho, hq, hl, hev, ht⟩
  · exact .inl ⟨n, ho, hn, hq, F', hev.below hb⟩
  · exact .inr ⟨t, f1, ho, hq, hl, hev.below hb, TrC.le (Le.of_fr f (fun _ _ e => e.elim) fun k _ e => hX k e) _ _ ht⟩
theorem call_set {o : OutT} {A : Option Addr} {cap : Nat} {lib : List Fn1} {bv : Nat} {tr : Bool} {act : Nat} {S X : Nat → Prop} {w0 w w' : World} {a0 a1 a2 a3 a4 a5 : Value} {q : Int} (h : CR o A cap lib bv tr act X w w' [a0, a1, a2, a3, a4, a5] q) (h0 : Below w0.heap.size w0 w) (hX : ∀ k, S k → X k) {P : Nat} {z0 z1 z2 z3 z4 z5 : Value} (hP : Bx w' P #[z0, z1, z2, z3, z4, z5]) (hw : w0.heap.size ≤ P) (hbv : bv < w0.heap.size) (hXP : X P) :
    CallAt o A cap lib bv tr act S w0 ((((((w'.setCell ⟨P, 0, none⟩ a0).setCell ⟨P, 1, none⟩ a1).setCell ⟨P, 2, none⟩ a2).setCell ⟨P, 3, none⟩ a3).setCell ⟨P, 4, none⟩ a4).setCell ⟨P, 5, none⟩ a5) P [a0, a1, a2, a3, a4, a5] q := by
  have f := Fr.set6 w' P a0 a1 a2 a3 a4 a5
  refine ⟨⟨((Fr.of_below h0 _).trans h.1 (fun _ _ e => e)).trans f (fun k hk e => by omega), ?_⟩, hw, hP.set6 a0 a1 a2 a3 a4 a5⟩
  rcases h.2 with ⟨n, ho, hn, hq, F', hev⟩ | ⟨t, f1, ho, hq, hl, hev, ht⟩
  · exact .inl ⟨n, ho, hn, hq, F', hev.fr f (fun e => by omega)⟩
  · exact .inr ⟨t, f1, ho, hq, hl, hev.fr f (fun e => by omega), TrC.le (Le.of_fr f (fun k _ e => by rw [e]; exact hXP) fun k _ e => hX k e) _ _ ht⟩
theorem ar85 {lib : List Fn1} {x : Nd} (h : arT lib x = true) (h85 : x.kind = 85) : ∃ (i : Nat) (fn : Fn1), findF lib x.name 0 = i ∧ lib[i]? = some fn ∧ x.kids.length = fn.params.length := by
  rw [arT_eq, if_pos h85] at h
  have h1 := (Bool.and_eq_true_iff.1 h).1
  have h2 := Bool.and_eq_true_iff.1 h1
  have h3 : 0 ≤ findF lib x.name 0 := by simpa using h2.1
  have h4 : x.kids.length = ((lib[(findF lib x.name 0).toNat]?).map fun f => f.params.length).getD 0 := by simpa using h2.2
  rcases findF_range x.name lib 0 with e | ⟨i, i1, i2, _⟩
  · rw [e] at h3; omega
  have hn : (findF lib x.name 0).toNat = i := by rw [i2]; omega
  rw [hn, List.getElem?_eq_getElem i1] at h4
  exact ⟨i, lib[i], by rw [i2]; omega, List.getElem?_eq_getElem i1, h4⟩

/-- A call's tree is appended. -/
theorem ES.push {W0 : World} {A : Option Addr} {cap : Nat} {lib : List Fn1} {bv bc : Nat} {tr : Bool} {act n bm : Nat} {env : ByteArray → Option Vl} {S : Nat → Prop} {v0 : Value} {w : World} {u0 u1 u2 u3 : Value} {wc : World} {G : Int} {vc : Value} {ts : List Tr} (h : ES W0 A cap lib bv bc tr act n bm env S v0 w u0 u1 u2 u3 wc G vc ts) {css cs6 : List Value} (hr : RowG (TrC wc (Hd S vc)) css ts) {wB w' wF : World} (hB : Below wc.heap.size wc wB) (hg : wB.grownBy w' vc.ownBlock) {v' : Value} (hat : v'.ownBlock = vc.ownBlock ∨ v'.ownBlock = some wB.heap.size)
    (hF : Fr w' wF (fun k => v'.ownBlock = some k ∨ k = bc)) (hbc : Bx wF bc #[v']) (hown : wF.ownsRow (bc + 1) 98 6 v' (ts.length + 1) (css ++ cs6)) {t : Tr} (ht : TrC wc (Hd S vc) cs6 t) : ES W0 A cap lib bv bc tr act n bm env S v0 w u0 u1 u2 u3 wF G v' (ts ++ [t]) := by
  have hbs := hB.size
  have hb := h.bvl
  have hfr : Fr wc wF (Mx bv bc vc) := by
    refine ((Fr.of_below hB _).trans (Fr.of_grown hg) fun k _ e => .inr (.inr e.symm)).trans hF fun k hk e => ?_
    rcases e with e | e
    · rcases hat with e' | e'
      · exact .inr (.inr (e'.symm.trans e))
      · rw [e'] at e; have := Option.some.inj e; omega
    · exact .inr (.inl e)
  have hle : Le wc (Hd S vc) wF (Hd S v') := Le.of_fr hfr (fun k _ e => by
    rcases e with e | e | e
    · rw [e]; exact .inl h.Sv
    · rw [e]; exact .inl h.Sc
    · exact .inr e) fun k hk e => by
    rcases e with e | e
    · exact .inl e
    · rcases hat with e' | e'
      · exact .inr (e'.symm.trans e)
      · rw [e'] at e; have := Option.some.inj e; omega
  refine h.next hfr (((Bx.below h.ev hB).fr (Fr.of_grown hg) (fun e => ?_)).fr hF (fun e => ?_)) ⟨hbc, _, by rw [List.length_append]; exact hown, .snoc (hr.map (TrC.le hle)) (TrC.le hle _ _ ht)⟩ ?_
  · have := (h.cs.own_gt bv e.symm).1; omega
  · rcases e with e | e
    · have := (hown.lt bv e).1; omega
    · omega
  · rcases hat with e' | e'
    · exact .inl e'
    · exact .inr ⟨_, e', hbs⟩
theorem set_in {cs z : List Value} {k : Nat} (h : cs.length = k) (j : Nat) (u : Value) : (cs ++ z).set (k + j) u = cs ++ z.set j u := by
  subst h; rw [List.set_append_right _ _ (by omega)]; congr 1; congr 1; omega
theorem own_set6 {w : World} {base : Nat} {e : TypeId} {g n cap N : Nat} {cs : List Value} {z0 z1 z2 z3 z4 z5 : Value} (h : w.ownsRow base e 6 (.slice (some ⟨g, 0, none⟩) n cap) n (cs ++ [z0, z1, z2, z3, z4, z5])) (hN : cs.length = N * 6) (a0 a1 a2 a3 a4 a5 : Value) :
    ((((((w.setCell ⟨g, N * 6, none⟩ a0).setCell ⟨g, N * 6 + 1, none⟩ a1).setCell ⟨g, N * 6 + 2, none⟩ a2).setCell ⟨g, N * 6 + 3, none⟩ a3).setCell ⟨g, N * 6 + 4, none⟩ a4).setCell ⟨g, N * 6 + 5, none⟩ a5).ownsRow base e 6 (.slice (some ⟨g, 0, none⟩) n cap) n (cs ++ [a0, a1, a2, a3, a4, a5]) := by
  have h0 := (h.stored (N * 6) a0).1
  rw [show N * 6 = N * 6 + 0 from rfl, set_in hN] at h0
  have h1 := (h0.stored (N * 6 + 1) a1).1
  rw [set_in hN] at h1
  have h2 := (h1.stored (N * 6 + 2) a2).1
  rw [set_in hN] at h2
  have h3 := (h2.stored (N * 6 + 3) a3).1
  rw [set_in hN] at h3
  have h4 := (h3.stored (N * 6 + 4) a4).1
  rw [set_in hN] at h4
  have h5 := (h4.stored (N * 6 + 5) a5).1
  rw [set_in hN] at h5
  exact h5
theorem Fr.row6 (w : World) (g k : Nat) (a0 a1 a2 a3 a4 a5 : Value) : Fr w ((((((w.setCell ⟨g, k, none⟩ a0).setCell ⟨g, k + 1, none⟩ a1).setCell ⟨g, k + 2, none⟩ a2).setCell ⟨g, k + 3, none⟩ a3).setCell ⟨g, k + 4, none⟩ a4).setCell ⟨g, k + 5, none⟩ a5) (fun b => b = g) :=
  ((((((Fr.of_set w ⟨g, k, none⟩ a0).trans (Fr.of_set _ ⟨g, k + 1, none⟩ a1) fun _ _ e => e).trans (Fr.of_set _ ⟨g, k + 2, none⟩ a2) fun _ _ e => e).trans (Fr.of_set _ ⟨g, k + 3, none⟩ a3) fun _ _ e => e).trans (Fr.of_set _ ⟨g, k + 4, none⟩ a4) fun _ _ e => e).trans (Fr.of_set _ ⟨g, k + 5, none⟩ a5) fun _ _ e => e)
theorem info_tree : (Tryd.prog.info? 98).map (fun i => (i.zero, i.size, i.bytes)) = some (some (.agg #[.int .i64 0, .slice none 0 0, .bool false, .int .i64 0, .slice none 0 0, .slice none 0 0]), 6, 96) := by kernel_rfl

/-- The tree is appended, the value lies in block P still. -/
def PushAt (W0 : World) (A : Option Addr) (cap : Nat) (lib : List Fn1) (bv bc : Nat) (tr : Bool) (act n bm : Nat) (env : ByteArray → Option Vl) (S : Nat → Prop) (v0 : Value) (w : World) (u0 u1 u2 u3 : Value) (G : Int) (ts : List Tr) (P : Nat) (cs : Array Value) (AL : Option Addr) (cL : Nat) (l : List Int) (wd : World) : Prop :=
  ∃ v', ES W0 A cap lib bv bc tr act n bm env S v0 w u0 u1 u2 u3 wd G v' ts ∧ Bx wd P cs ∧ IntsC wd (Hd S v') AL cL l
theorem push_at {W0 : World} {A : Option Addr} {cap : Nat} {lib : List Fn1} {bv bc : Nat} {tr : Bool} {act n bm : Nat} {env : ByteArray → Option Vl} {S : Nat → Prop} {v0 : Value} {w : World} {u0 u1 u2 u3 : Value} {wc : World} {G : Int} {vc : Value} {ts : List Tr} (h : ES W0 A cap lib bv bc tr act n bm env S v0 w u0 u1 u2 u3 wc G vc ts) {css cs6 : List Value} (hr : RowG (TrC wc (Hd S vc)) css ts) {wB w' wF : World} (hB : Below wc.heap.size wc wB) (hg : wB.grownBy w' vc.ownBlock) {v' : Value} (hat : v'.ownBlock = vc.ownBlock ∨ v'.ownBlock = some wB.heap.size)
    (hF : Fr w' wF (fun k => v'.ownBlock = some k ∨ k = bc)) (hbc : Bx wF bc #[v']) (hown : wF.ownsRow (bc + 1) 98 6 v' (ts.length + 1) (css ++ cs6)) {t : Tr} (ht : TrC wc (Hd S vc) cs6 t) {P : Nat} {cs : Array Value} (bP : Bx wc P cs) (hP1 : vc.ownBlock ≠ some P) (hP2 : P ≠ bc) {AL : Option Addr} {cL : Nat} {l : List Int} (hi : IntsC wc (Hd S vc) AL cL l) :
    PushAt W0 A cap lib bv bc tr act n bm env S v0 w u0 u1 u2 u3 G (ts ++ [t]) P cs AL cL l wF := by
  have hbs := hB.size
  have hPl := bP.lt
  refine ⟨v', h.push hr hB hg hat hF hbc hown ht, ((bP.below hB).fr (Fr.of_grown hg) (fun e => hP1 e.symm)).fr hF (fun e => ?_), hi.le (Le.of_fr (m := Mx bv bc vc) (((Fr.of_below hB _).trans (Fr.of_grown hg) fun k _ e => .inr (.inr e.symm)).trans hF fun k hk e => ?_) (fun k _ e => ?_) fun k hk e => ?_)⟩
  · rcases e with e | e
    · rcases hat with e' | e'
      · exact hP1 (e'.symm.trans e)
      · rw [e'] at e; have := Option.some.inj e; omega
    · exact hP2 e
  · rcases e with e | e
    · rcases hat with e' | e'
      · exact .inr (.inr (e'.symm.trans e))
      · rw [e'] at e; have := Option.some.inj e; omega
    · exact .inr (.inl e)
  · rcases e with e | e | e
    · rw [e]; exact .inl h.Sv
    · rw [e]; exact .inl h.Sc
    · exact .inr e
  · rcases e with e | e
    · exact .inl e
    · rcases hat with e' | e'
      · exact .inr (e'.symm.trans e)
      · rw [e'] at e; have := Option.some.inj e; omega
/-- The two orders of the stores. -/
theorem row_a {w' : World} {bc g n c N : Nat} {css : List Value} {z0 z1 z2 z3 z4 z5 x0 : Value} (hbc : Bx w' bc #[x0]) (hown : w'.ownsRow (bc + 1) 98 6 (.slice (some ⟨g, 0, none⟩) n c) n (css ++ [z0, z1, z2, z3, z4, z5])) (hN : css.length = N * 6) (hne : g ≠ bc) (a0 a1 a2 a3 a4 a5 : Value) :
    Fr w' (((((((w'.setCell ⟨g, N * 6, none⟩ a0).setCell ⟨g, N * 6 + 1, none⟩ a1).setCell ⟨g, N * 6 + 2, none⟩ a2).setCell ⟨g, N * 6 + 3, none⟩ a3).setCell ⟨g, N * 6 + 4, none⟩ a4).setCell ⟨g, N * 6 + 5, none⟩ a5).setCell ⟨bc, 0, none⟩ (.slice (some ⟨g, 0, none⟩) n c)) (fun k => (Value.slice (some ⟨g, 0, none⟩) n c).ownBlock = some k ∨ k = bc) ∧
    Bx (((((((w'.setCell ⟨g, N * 6, none⟩ a0).setCell ⟨g, N * 6 + 1, none⟩ a1).setCell ⟨g, N * 6 + 2, none⟩ a2).setCell ⟨g, N * 6 + 3, none⟩ a3).setCell ⟨g, N * 6 + 4, none⟩ a4).setCell ⟨g, N * 6 + 5, none⟩ a5).setCell ⟨bc, 0, none⟩ (.slice (some ⟨g, 0, none⟩) n c)) bc #[.slice (some ⟨g, 0, none⟩) n c] ∧
    (((((((w'.setCell ⟨g, N * 6, none⟩ a0).setCell ⟨g, N * 6 + 1, none⟩ a1).setCell ⟨g, N * 6 + 2, none⟩ a2).setCell ⟨g, N * 6 + 3, none⟩ a3).setCell ⟨g, N * 6 + 4, none⟩ a4).setCell ⟨g, N * 6 + 5, none⟩ a5).setCell ⟨bc, 0, none⟩ (.slice (some ⟨g, 0, none⟩) n c)).ownsRow (bc + 1) 98 6 (.slice (some ⟨g, 0, none⟩) n c) n (css ++ [a0, a1, a2, a3, a4, a5]) := by
  have f := Fr.row6 w' g (N * 6) a0 a1 a2 a3 a4 a5
  have o := own_set6 hown hN a0 a1 a2 a3 a4 a5
  have b := hbc.fr f (fun e => hne e.symm)
  generalize World.setCell _ _ _ = W1 at f o b ⊢
  exact ⟨(f.mono fun k _ e => .inl (by rw [e]; rfl)).trans (Fr.of_set _ _ _) fun _ _ e => .inr e, b.set 0 _, ownsRow_setCell_other o (fun e => hne (by injection e)) _⟩
theorem row_b {w' : World} {bc g n c N : Nat} {css : List Value} {z0 z1 z2 z3 z4 z5 x0 : Value} (hbc : Bx w' bc #[x0]) (hown : w'.ownsRow (bc + 1) 98 6 (.slice (some ⟨g, 0, none⟩) n c) n (css ++ [z0, z1, z2, z3, z4, z5])) (hN : css.length = N * 6) (hne : g ≠ bc) (a0 a1 a2 a3 a4 a5 : Value) :
    Fr w' (((((((w'.setCell ⟨bc, 0, none⟩ (.slice (some ⟨g, 0, none⟩) n c)).setCell ⟨g, N * 6, none⟩ a0).setCell ⟨g, N * 6 + 1, none⟩ a1).setCell ⟨g, N * 6 + 2, none⟩ a2).setCell ⟨g, N * 6 + 3, none⟩ a3).setCell ⟨g, N * 6 + 4, none⟩ a4).setCell ⟨g, N * 6 + 5, none⟩ a5) (fun k => (Value.slice (some ⟨g, 0, none⟩) n c).ownBlock = some k ∨ k = bc) ∧
    Bx (((((((w'.setCell ⟨bc, 0, none⟩ (.slice (some ⟨g, 0, none⟩) n c)).setCell ⟨g, N * 6, none⟩ a0).setCell ⟨g, N * 6 + 1, none⟩ a1).setCell ⟨g, N * 6 + 2, none⟩ a2).setCell ⟨g, N * 6 + 3, none⟩ a3).setCell ⟨g, N * 6 + 4, none⟩ a4).setCell ⟨g, N * 6 + 5, none⟩ a5) bc #[.slice (some ⟨g, 0, none⟩) n c] ∧
    (((((((w'.setCell ⟨bc, 0, none⟩ (.slice (some ⟨g, 0, none⟩) n c)).setCell ⟨g, N * 6, none⟩ a0).setCell ⟨g, N * 6 + 1, none⟩ a1).setCell ⟨g, N * 6 + 2, none⟩ a2).setCell ⟨g, N * 6 + 3, none⟩ a3).setCell ⟨g, N * 6 + 4, none⟩ a4).setCell ⟨g, N * 6 + 5, none⟩ a5).ownsRow (bc + 1) 98 6 (.slice (some ⟨g, 0, none⟩) n c) n (css ++ [a0, a1, a2, a3, a4, a5]) := by
  have f0 := Fr.of_set w' ⟨bc, 0, none⟩ (.slice (some ⟨g, 0, none⟩) n c)
  have o0 := ownsRow_setCell_other hown (a := ⟨bc, 0, none⟩) (fun e => hne (by injection e)) (.slice (some ⟨g, 0, none⟩) n c)
  have b0 := hbc.set 0 (.slice (some ⟨g, 0, none⟩) n c)
  generalize World.setCell _ _ _ = W1 at f0 o0 b0 ⊢
  have f := Fr.row6 W1 g (N * 6) a0 a1 a2 a3 a4 a5
  exact ⟨(f0.mono fun k _ e => .inr e).trans f (fun k _ e => .inl (by rw [e]; rfl)), Bx.fr b0 f (fun e => hne e.symm), own_set6 o0 hN a0 a1 a2 a3 a4 a5⟩

theorem z6_one : ∀ u ∈ ([.int .i64 0, .slice none 0 0, .bool false, .int .i64 0, .slice none 0 0, .slice none 0 0] : List Value), u.oneCell' = true := by
  intro u hu
  simp at hu
  rcases hu with h | h | h | h | h <;> subst h <;> rfl
theorem row_cells {w : World} {base : Nat} {e : TypeId} {g n cap N : Nat} {cs : List Value} {z0 z1 z2 z3 z4 z5 : Value} (h : w.ownsRow base e 6 (.slice (some ⟨g, 0, none⟩) n cap) n (cs ++ [z0, z1, z2, z3, z4, z5])) (hN : cs.length = N * 6) (hn : n = N + 1) : (w.cell? ⟨g, N * 6, none⟩ = some z0 ∧ w.cell? ⟨g, N * 6 + 1, none⟩ = some z1 ∧ w.cell? ⟨g, N * 6 + 2, none⟩ = some z2 ∧ w.cell? ⟨g, N * 6 + 3, none⟩ = some z3 ∧ w.cell? ⟨g, N * 6 + 4, none⟩ = some z4 ∧ w.cell? ⟨g, N * 6 + 5, none⟩ = some z5) ∧ w.frozen? ⟨g, N * 6, none⟩ = false ∧ w.frozen? ⟨g, N * 6 + 1, none⟩ = false ∧ w.frozen? ⟨g, N * 6 + 2, none⟩ = false ∧ w.frozen? ⟨g, N * 6 + 3, none⟩ = false ∧ w.frozen? ⟨g, N * 6 + 4, none⟩ = false ∧ w.frozen? ⟨g, N * 6 + 5, none⟩ = false := by
  have c : ∀ j, j < 6 → w.cell? ⟨g, N * 6 + j, none⟩ = [z0, z1, z2, z3, z4, z5][j]? := fun j hj => by
    rw [h.cellAt (N * 6 + j) (by omega), List.getElem?_append_right (by omega), hN]
    congr 1; omega
  exact ⟨⟨c 0 (by omega), c 1 (by omega), c 2 (by omega), c 3 (by omega), c 4 (by omega), c 5 (by omega)⟩, h.frozenAt _, h.frozenAt _, h.frozenAt _, h.frozenAt _, h.frozenAt _, h.frozenAt _⟩
theorem trC_res {w : World} {X : Nat → Prop} {tf : Int} {Aa : Option Addr} {na ca : Nat} {b : Bool} {m : Int} {AL : Option Addr} {nl cL : Nat} {Ac : Option Addr} {nc cc : Nat} {tr : Bool} {t : Tr} (h : TrC w X [.int .i64 tf, .slice Aa na ca, .bool b, .int .i64 m, .slice AL nl cL, .slice Ac nc cc] (trT tr t)) : b = t.res.list ∧ m = t.res.n ∧ nl = t.res.l.length ∧ IntsC w X AL cL t.res.l := by
  have hres : (trT tr t).res = t.res := by cases tr <;> rfl
  obtain ⟨Aa', ca', AL', cL', Ac', cc', ecs, _, h2, _⟩ := h
  rw [hres] at ecs h2
  generalize t.res = r at *
  simp at ecs
  obtain ⟨_, _, rfl, rfl, ⟨rfl, rfl, rfl⟩, _⟩ := ecs
  exact ⟨rfl, rfl, rfl, h2⟩
theorem kids_le : ∀ l : List Nd, l.length ≤ sizeTL l
  | [] => by simp
  | x :: r => by
    have h1 := kids_le r
    have h2 := sizeT_eq x
    rw [sizeTL, List.length_cons]; omega

set_option maxRecDepth 100000 in
set_option maxHeartbeats 4000000 in
theorem expr_op {W0 : World} {A : Option Addr} {cap : Nat} {lib : List Fn1} {bv : Nat} {tr : Bool} {d : Nat} {x : Nd} {Ak : Option Addr} {F : Int} {act n bm bc : Nat} {env : ByteArray → Option Vl} {S : Nat → Prop} {v : Value} {ts : List Tr} {w : World} (h : EPre W0 A cap lib bv tr (d + 1) x Ak F act n bm bc env S v ts w) (ck : Nat) (hF : 0 < F) (hE : ExprC W0 A cap lib bv tr d) (hL : LibX W0 A lib) (h80 : x.kind ≠ 80) (h81 : x.kind ≠ 81) (h83 : x.kind ≠ 83) (h84 : x.kind ≠ 84) :
    Calls Tryd.prog 75 #[.pointer (some ⟨bv, 0, none⟩), .agg #[.int .u8 x.kind, .int .i64 x.num, .string x.name, .slice Ak x.kids.length ck], .map (some bm), .pointer (some ⟨bc, 0, none⟩)] w
      (RetE (ev apR lib (d + 1) act env x F.toNat) A cap lib bv bc tr act S v ts w) := by
  have HEV := Lib.hid (ev_op (lib := lib) (d := d) (act := act) (env := env) (by omega : 0 < F.toNat) h80 h81 h83 h84)
  obtain ⟨v0, v1, v2, v3, z0, z1, z2, z3⟩ := h.ev.four
  have hlv : bv < w.heap.size := h.ev.lt
  have hes := Lib.hid (h.start (.int .u8 x.kind) (.int .i64 x.num) (.string x.name) (.slice Ak x.kids.length ck) 53 46)
  have hF0 : decide (F ≤ 0) = false := by simp; omega
  have hFu : F ≤ 1000000 := by have := h.tn; omega
  obtain ⟨hf1, hf2, hf3, hf4⟩ := h.fit.facts
  have HP := Lib.hid h
  clear h
  have k80 : ((x.kind : Int) == 80) = false := beqK (n := 80) h80
  have k81 : ((x.kind : Int) == 81) = false := beqK (n := 81) h81
  have k83 : ((x.kind : Int) == 83) = false := beqK (n := 83) h83
  have k84 : ((x.kind : Int) == 84) = false := beqK (n := 84) h84
  have hFe : F.toNat - 1 = (F - 1).toNat := by omega
  rw [hFe] at HEV
  have hG1 : (F - 1).toNat ≤ d := by have := HP.out.fuel; omega
  have hG2 : n + (F - 1).toNat ≤ 1000000 := by have := HP.out.en; omega
  have hG3 : ts.length + (F - 1).toNat ≤ 900000 := by have := HP.out.tn; omega
  have hac := HP.out.act30
  clear hFe
  have HK := Lib.hid (And.intro h80 (And.intro h81 (And.intro h83 h84)))
  clear h80 h81 h83 h84
  obtain ⟨j0, hj0, hk0, hk1, hk2⟩ := info_parts info_val
  have HJ := Lib.hid (And.intro hj0 (And.intro hk0 (And.intro hk1 hk2)))
  have hsz := HP.out.size
  have hsl := sizeT_eq x
  have hkl : x.kids.length ≤ 500000 := by have := kids_le x.kids; omega
  clear hj0 hk0 hk1 hk2 hsl hsz
  go_enter Tryd.func75, Tryd.ntmps75
  go_wp2_with fail
  clear v0 v1 v2 v3 z0 z1 z2 z3 k80 k81 k83 k84 hF0
  generalize World.alloc _ _ = W at hes ⊢
  obtain ⟨f0, hf0⟩ : ∃ f0 : Nat, F - 1 = f0 := ⟨(F - 1).toNat, by omega⟩
  rw [hf0] at hes
  rw [hf0, Int.toNat_natCast] at HEV hG1 hG2 hG3
  have li0 := Lib.hid (show LI W0 A cap lib bv bc tr act n bm env (fun k => S k ∨ k = w.heap.size + 1) v w (.int .u8 x.kind) (.int .i64 x.num) (.string x.name) (.slice Ak x.kids.length ck) W f0 v (ts ++ trC tr []) (.slice none 0 0) [] from ⟨by
    have := hes.out.less (S' := SL (fun k => S k ∨ k = w.heap.size + 1) (.slice none 0 0)) (fun k e => e.elim id fun e => by cases e) (.inl hes.out.Sv) (.inl hes.out.Sc)
    simpa [trC] using this, ⟨[], ⟨rfl, .inl ⟨rfl, rfl⟩⟩, .nil⟩, (fun g hg => by cases hg), by simp, hes.out.Sv, hes.out.Sc, fun k e => by
      rcases e with e | e
      · have := HP.out.Sl k e; omega
      · omega⟩)
  clear hf0 hes
  go_loopw [15, 124] (fun l i wr => ∃ (k : Nat) (vs : List Vl) (f1 : Nat) (vc : Value) (c : List Tr), k ≤ x.kids.length ∧ i = .int .i64 k ∧ Hid (evL (ev apR lib d act env) (x.kids.take k) f0 = .ok vs f1 c) ∧ Hid (LI W0 A cap lib bv bc tr act n bm env (fun k => S k ∨ k = w.heap.size + 1) v w (.int .u8 x.kind) (.int .i64 x.num) (.string x.name) (.slice Ak x.kids.length ck) wr f1 vc (ts ++ trC tr c) l vs)) (fun _ i _ => x.kids.length - (intOf i).toNat)
  case atStart => exact ⟨0, [], f0, v, [], by omega, rfl, (by rw [List.take_zero, evL] : evL (ev apR lib d act env) (x.kids.take 0) f0 = .ok [] f0 []), li0⟩
  case round =>
    obtain ⟨k, vs, f1, vc, c, hk, rfl, hev, li⟩ := hrel
    have hsp := evL_sp hev.out
    have hvl := Lib.hid (evL_len hev.out)
    by_cases hin : k < x.kids.length
    · obtain ⟨kb, ko, Ay, cy, rfl, kl, c0, c1, c2, c3, hks⟩ := HP.out.kids.kid hin
      have hget : x.kids[k]? = some x.kids[k] := List.getElem?_eq_getElem hin
      have hkp := Lib.hid (epre_kid HP.out hget)
      have hfk := HP.out.fit.kid hget
      have HSN := Lib.hid (evL_snoc (ev apR lib d act env) (x.kids.take k) x.kids[k] f0 hev.out)
      have HTK := Lib.hid (List.take_succ_eq_append_getElem hin)
      generalize x.kids[k] = y at *
      have d0 := below_cell li.out.es.hb c0
      have d1 := below_cell li.out.es.hb c1
      have d2 := below_cell li.out.es.hb c2
      have d3 := below_cell li.out.es.hb c3
      have hlt : kb < wr.heap.size := block_lt_of_cell d0
      have bb := below_box wr (Obj.cells #[.int .u8 y.kind, .int .i64 y.num, .string y.name, .slice Ay y.kids.length cy] 53)
      have li1 := Lib.hid (li.out.below bb)
      clear c0 c1 c2 c3 hget bb
      go_wp2_with fail
      clear d0 d1 d2 d3
      generalize wr.alloc _ = W1 at li1 ⊢
      have htl : (trC tr c).length ≤ c.length := by cases tr <;> simp [trC]
      refine (es_kidC hE li1.out.es hks hfk hkp.out.1 hkp.out.2.1 hkp.out.2.2 li1.out.es.env (by rw [Int.toNat_natCast]; omega) (by rw [Int.toNat_natCast]; omega) (by rw [Int.toNat_natCast, List.length_append]; omega) hac).mono ?_
      rintro e w4 ⟨hf4, h4⟩
      have rb4 := li1.out.es.rb.fr hf4 li1.out.es.mx.1.2
      have hrl := rb4.lt
      rcases h4 with ⟨q, ho, hq0, ⟨b, m, A', k', c', rfl⟩, F', ev4⟩ | ⟨t, f2, c2, ho, A', c', v', rfl, hyl, hi, ev4, cs4, hat⟩
      · have hq1 : (q != 0) = true := by simpa using hq0
        rw [Int.toNat_natCast] at ho
        have HST := Lib.hid (show evL (ev apR lib d act env) x.kids f0 = .err q by
          have h1 : evL (ev apR lib d act env) (x.kids.take (k + 1)) f0 = .err q := by rw [HTK.out, HSN.out, ho]
          have h2 := evL_stop (ev apR lib d act env) (x.kids.take (k + 1)) (x.kids.drop (k + 1)) f0 h1
          rwa [List.take_append_drop] at h2)
        have RF1 := Lib.hid (((li1.out.es.less (S' := fun k => S k ∨ k = w.heap.size + 1) (fun k e => .inl e) li.out.Sv li.out.Sc)).fail (ts := ts) hf4 ev4 hq0 (HEV.out.trans (by rw [HST.out]; rfl)) false 0 none 0 0)
        obtain ⟨y0', y1', y2', x0, x1, x2⟩ := rb4.three
        have rb5 := rb4.set3 (.bool false) (.int .i64 0) (.slice none 0 0)
        clear ho HEV HSN HTK hev
        go_wp2_with fail
        generalize World.setCell _ _ _ = W5 at RF1 rb5 ⊢
        have bb := below_box W5 (Obj.cells #[.bool b, .int .i64 m, .slice A' k' c'] 46)
        have RF := RF1.out.below bb
        have rb6 := rb5.below bb
        generalize World.alloc _ _ = W6 at RF rb6 ⊢
        obtain ⟨s0, s1, s2, _⟩ := rb6.three
        exact bodyPost_ret (v := .tuple #[.agg #[.bool false, .int .i64 0, .slice none 0 0], .int .i64 q]) (by simp [results, Tryd.results75, go_sem, s0, s1, s2]) rfl RF
      · rw [Int.toNat_natCast] at ho
        have HST := Lib.hid (show evL (ev apR lib d act env) (x.kids.take (k + 1)) f0 = .ok (vs ++ [t]) f2 (c ++ c2) by rw [HTK.out, HSN.out, ho])
        have li4 := li1.out.next hf4 ev4 cs4 hat
        rw [List.append_assoc, ← trC_append] at li4
        have bb := two_box w4 (Obj.cells #[.bool t.list, .int .i64 t.n, .slice A' t.l.length c'] 46) (Obj.cells #[.bool t.list, .int .i64 t.n, .slice A' t.l.length c'] 46)
        have li6 := Lib.hid (li4.below bb)
        have hi6 := Lib.hid (hi.le (X' := Hd (SL (fun k => S k ∨ k = w.heap.size + 1) u15) v') (Le.of_fr (Fr.of_below bb (fun _ => False)) (fun _ _ e => e.elim) fun _ _ e => e))
        obtain ⟨cs6, ow6, rr6⟩ := li6.out.row
        have OW6 := Lib.hid ow6
        have RR6 := Lib.hid rr6
        have ON6 := Lib.hid (VlC.one _ t (VlC.mk hi))
        have hvk : vs.length ≤ 500000 := by rw [hvl.out]; simp; omega
        have hlt6 : w.heap.size + 2 ≤ w4.heap.size := by omega
        clear li4 bb hi ev4 cs4 hat hf4 HSN HTK ho hev ow6 rr6
        go_wp2_with (at_builtin; go_loud (refine wpList_app _ rfl _ _ 41 rfl (w.heap.size + 2) 46 j0 (.agg #[.bool false, .int .i64 0, .slice none 0 0]) 3 40 Tryd.underlying41 HJ.out.1 HJ.out.2.1 HJ.out.2.2.1 HJ.out.2.2.2 rfl (by decide) _ vs.length cs6 rfl OW6.out (some ⟨w4.heap.size + 1, 0, none⟩) 1 1 [.bool t.list, .int .i64 t.n, .slice A' t.l.length c'] rfl rfl (by have := cells_new (w4.alloc (Obj.cells #[.bool t.list, .int .i64 t.n, .slice A' t.l.length c'] 46)) [.bool t.list, .int .i64 t.n, .slice A' t.l.length c'] 46; simpa using this) ON6.out (by unfold maxLen; omega) (by omega) (by simp; omega) ?_; intro lv' w7 hown7 hgrow7 hat7; have NX := Lib.hid (li6.out.push RR6.out hi6.out hyl hgrow7 hat7 hown7); clear hown7 hgrow7 hat7))
        exact ⟨⟨k + 1, _, _, _, _, by omega, by go_num, HST, NX⟩, by simp [intOf]; omega⟩
    · obtain rfl : k = x.kids.length := by omega
      rw [List.take_length] at hev hvl
      obtain ⟨Al, cl, rfl, hV, es⟩ := li.out.slice
      have HLEN := Lib.hid li.out.len
      have HES := Lib.hid es
      have HV := Lib.hid hV
      obtain ⟨n0, n1, n2, n3, _⟩ := es.nb.four
      have hnl := es.nb.lt
      clear es hV li li0
      by_cases h85 : x.kind = 85
      · have k85 : ((x.kind : Int) != 85) = false := by rw [h85]; rfl
        obtain ⟨fi, fn, hfi, hfn, hfl⟩ := ar85 HP.out.ar h85
        have HCA := Lib.hid (HEV.out.trans (show _ = ((enter lib (ev apR lib d) act fi vs f1).out).pre c by rw [hev.out]; show Out.pre c _ = _; dsimp only; rw [if_pos h85, hfi]))
        have hXl : ∀ k, Hd (fun k => S k ∨ k = w.heap.size + 1) vc k → k < wr.heap.size := fun k e => e.elim (HES.out.Sl k) fun e => (HES.out.cs.own_gt k e).2
        have hbvw : bv < wr.heap.size := HES.out.ev.lt
        have hvb : W0.heap.size ≤ bv := HES.out.bvl.1
        have KC := Lib.hid (fun (Y : World) (hY : Below wr.heap.size wr Y) => call_of W0 A cap lib hL bv tr d hE fi fn vs Al cl f1 act (fun k => Hd (fun k => S k ∨ k = w.heap.size + 1) vc k ∨ (wr.heap.size ≤ k ∧ k < Y.heap.size)) Y hfn (hvl.out.trans hfl) (HV.out.le (Le.of_fr (Fr.of_below hY (fun _ => False)) (fun _ _ e => e.elim) fun k hk e => by
          rcases e with e | e
          · exact e
          · omega)) HLEN.out (below_step HES.out.hb HES.out.hb.size hY) hvb (HES.out.ev.below hY) (.inl (.inl HES.out.Sv)) (fun k e => by
          have := hY.size
          rcases e with e | e
          · have := hXl k e; omega
          · exact e.2) (by rw [Int.toNat_natCast]; omega) (by rw [Int.toNat_natCast]; omega) hac)
        have KF := Lib.hid (fun (Y : World) (hY : Below wr.heap.size wr Y) => find_any lib A cap x.name Y (hL.at_.mono (below_step HES.out.hb HES.out.hb.size hY)) hL.fit.1)
        have KS := Lib.hid (fun (Y : World) (hY : Below wr.heap.size wr Y) => show Y.cell? ⟨bv, 0, none⟩ = some (.slice A lib.length cap) ∧ Y.cell? ⟨w.heap.size, 2, none⟩ = some (.string x.name) from ⟨(HES.out.ev.below hY).cell rfl, (HES.out.nb.below hY).cell rfl⟩)
        rw [hfi] at KF
        have hbP := Below.refl wr.heap.size wr
        have e0 : wr.cell? ⟨bv, 0, none⟩ = some (.slice A lib.length cap) := HES.out.ev.cell rfl
        have hnb : w.heap.size ≠ bv := by have := HES.out.bvl; omega
        clear h85 HEV hev hXl HV hE hfi hfl hfn
        go_wp2_with fail
        go_cut [20, 21] (fun p q wc => ∃ (P : Nat) (tf : Int) (Aa : Option Addr) (na ca : Nat) (b : Bool) (m : Int) (AL : Option Addr) (nl cL : Nat) (Ac : Option Addr) (nc cc : Nat) (qq : Int), p = .pointer (some ⟨P, 0, none⟩) ∧ q = .int .i64 qq ∧ Hid (CallAt (enter lib (ev apR lib d) act fi vs f1) A cap lib bv tr act (Hd (fun k => S k ∨ k = w.heap.size + 1) vc) wr wc P [.int .i64 tf, .slice Aa na ca, .bool b, .int .i64 m, .slice AL nl cL, .slice Ac nc cc] qq))
        case first =>
          go_region_held3 (fun w' => w'.cell? ⟨bv, 0, none⟩ = some (.slice A lib.length cap) ∧ w'.cell? ⟨w.heap.size, 2, none⟩ = some (.string x.name))
            (first | (with_reducible exact S6.out) | (with_reducible exact S7.out) | (with_reducible exact S8.out) | (with_reducible exact S9.out) | (refine KS.out _ ?_; (repeat first | exact hbP | refine belowDrawn ?_ | refine Below.alloc ?_ (by first | exact Nat.le_refl _ | exact hbP.size | simp) _); done))
            (first | (go_at_call 38; refine (KF.out _ ?_).mono ?_; (repeat first | exact hbP | refine belowDrawn ?_ | refine Below.alloc ?_ (by first | exact Nat.le_refl _ | exact hbP.size | simp) _); rintro e w5 ⟨rfl, hb5⟩; have hbQ := hbP; clear hbP; have hbP : Below wr.heap.size wr w5 := below_step (by (repeat first | exact hbQ | refine belowDrawn ?_ | refine Below.alloc ?_ (by first | exact Nat.le_refl _ | exact hbQ.size | simp) _)) (by simp) hb5) | (go_at_call 57; refine (KC.out _ ?_).mono ?_; (repeat first | exact hbP | refine belowDrawn ?_ | refine Below.alloc ?_ (by first | exact Nat.le_refl _ | exact hbP.size | simp) _); rintro e w6 hr; obtain ⟨tf, Aa, na, ca, b, m, AL, nl, cL, Ac, nc, cc, qq, rfl, hcr⟩ := hr.form; clear hr; have hFF : Fr wr w6 (fun k => k = bv) := (Fr.of_below (by (repeat first | exact hbP | refine belowDrawn ?_ | refine Below.alloc ?_ (by first | exact Nat.le_refl _ | exact hbP.size | simp) _)) _).trans hcr.1 (fun _ _ e => e); have S6 := Lib.hid (And.intro hcr.bv0 (show w6.cell? ⟨w.heap.size, 2, none⟩ = some (.string x.name) from (HES.out.nb.fr hFF hnb).cell rfl)); have hs6 := hFF.size; have S8 := Lib.hid (And.intro (below_cell (below_box w6 (Obj.cells #[.int .i64 tf, .slice Aa na ca, .bool b, .int .i64 m, .slice AL nl cL, .slice Ac nc cc] 98)) S6.out.1) (below_cell (below_box w6 (Obj.cells #[.int .i64 tf, .slice Aa na ca, .bool b, .int .i64 m, .slice AL nl cL, .slice Ac nc cc] 98)) S6.out.2)); have S9 := Lib.hid (And.intro (below_cell (below_box w6 (Obj.cells #[.int .i64 0, .slice none 0 0, .bool false, .int .i64 0, .slice none 0 0, .slice none 0 0] 98)) S6.out.1) (below_cell (below_box w6 (Obj.cells #[.int .i64 0, .slice none 0 0, .bool false, .int .i64 0, .slice none 0 0, .slice none 0 0] 98)) S6.out.2)); (first | (have bP : Bx w6 wr.heap.size #[.int .i64 0, .slice none 0 0, .bool false, .int .i64 0, .slice none 0 0, .slice none 0 0] := ((show Bx (wr.alloc (Obj.cells #[.int .i64 0, .slice none 0 0, .bool false, .int .i64 0, .slice none 0 0, .slice none 0 0] 98)).drew wr.heap.size #[.int .i64 0, .slice none 0 0, .bool false, .int .i64 0, .slice none 0 0, .slice none 0 0] from bx_new wr _ _).below hb5).fr hcr.1 (fun e => (by have : wr.heap.size = bv := e; omega)); obtain ⟨⟨p0, p1, p2, p3, p4, p5⟩, g0, g1, g2, g3, g4, g5⟩ := bP.six; have hPl := bP.lt; have S7 := Lib.hid (And.intro ((Fr.set6 w6 wr.heap.size (.int .i64 tf) (.slice Aa na ca) (.bool b) (.int .i64 m) (.slice AL nl cL) (.slice Ac nc cc)).cell S6.out.1 (show ¬ bv = wr.heap.size by omega)) ((Fr.set6 w6 wr.heap.size (.int .i64 tf) (.slice Aa na ca) (.bool b) (.int .i64 m) (.slice AL nl cL) (.slice Ac nc cc)).cell S6.out.2 (show ¬ w.heap.size = wr.heap.size by omega))); have CA := Lib.hid (call_set (S := Hd (fun k => S k ∨ k = w.heap.size + 1) vc) hcr hbP (fun k e => .inl e) bP (Nat.le_refl _) hbvw (.inr ⟨Nat.le_refl _, (by have := hb5.size; simp at this; omega)⟩))) | (have bP : Bx w6 w5.heap.size #[.int .i64 0, .slice none 0 0, .bool false, .int .i64 0, .slice none 0 0, .slice none 0 0] := (bx_new w5 _ 98).fr hcr.1 (fun e => (by have : w5.heap.size = bv := e; have := hbP.size; omega)); obtain ⟨⟨p0, p1, p2, p3, p4, p5⟩, g0, g1, g2, g3, g4, g5⟩ := bP.six; have hPl := bP.lt; have hP5 := hbP.size; have S7 := Lib.hid (And.intro ((Fr.set6 w6 w5.heap.size (.int .i64 tf) (.slice Aa na ca) (.bool b) (.int .i64 m) (.slice AL nl cL) (.slice Ac nc cc)).cell S6.out.1 (show ¬ bv = w5.heap.size by omega)) ((Fr.set6 w6 w5.heap.size (.int .i64 tf) (.slice Aa na ca) (.bool b) (.int .i64 m) (.slice AL nl cL) (.slice Ac nc cc)).cell S6.out.2 (show ¬ w.heap.size = w5.heap.size by omega))); have CA := Lib.hid (call_set (S := Hd (fun k => S k ∨ k = w.heap.size + 1) vc) hcr (hbP.alloc hbP.size _) (fun k e => .inl e) bP hbP.size hbvw (.inr ⟨hbP.size, (by simp)⟩))) | (have CA := Lib.hid (call_new (S := Hd (fun k => S k ∨ k = w.heap.size + 1) vc) hcr hbP (fun k e => .inl e) 98))); clear hcr hFF) | fail)
          all_goals
            go_wp2_with fail
            go_meet
            exact ⟨_, tf, Aa, na, ca, b, m, AL, nl, cL, Ac, nc, cc, qq, rfl, rfl, CA⟩
        case rest =>
          obtain ⟨P, tf, Aa, na, ca, b, m, AL, nl, cL, Ac, nc, cc, qq, rfl, rfl, hca⟩ := hcut
          obtain ⟨⟨hf5, hcr⟩, hPw, bxP⟩ := hca.out
          have hlt := HES.out.lt
          have hb5 := HES.out.bvl
          obtain ⟨⟨p0, p1, p2, p3, p4, p5⟩, _⟩ := bxP.six
          rcases hcr with ⟨q, ho, hq0, rfl, F', ev5⟩ | ⟨t, f2, ho, rfl, htl, ev5, htc⟩
          · have hq1 : (qq != 0) = true := by simpa using hq0
            have hf6 : Fr wr wc (Mx bv bc vc) := hf5.mono fun k _ e => .inl e
            have rb4 := HES.out.rb.fr hf6 HES.out.mx.1.2
            have RF := HES.out.fail (ts := ts) hf6 ev5 hq0 (HCA.out.trans (by rw [ho]; rfl)) false 0 none 0 0
            obtain ⟨y0', y1', y2', x0, x1, x2⟩ := rb4.three
            have rb5 := rb4.set3 (.bool false) (.int .i64 0) (.slice none 0 0)
            clear HCA ho KC KF KS hca
            go_wp2_with fail
            generalize World.setCell _ _ _ = W5 at RF rb5 ⊢
            obtain ⟨s0, s1, s2, _⟩ := rb5.three
            exact bodyPost_ret (v := .tuple #[.agg #[.bool false, .int .i64 0, .slice none 0 0], .int .i64 qq]) (by simp [results, Tryd.results75, go_sem, s0, s1, s2]) rfl RF
          · have HCO := Lib.hid (HCA.out.trans (show _ = Out.ok t.res f2 (c ++ [t]) by rw [ho]; rfl))
            have es5 := HES.out.next (hf5.mono fun k _ e => .inl e) ev5 (HES.out.cs.fr hf5 (fun e => by omega) (fun g hg e => by have := (HES.out.cs.own_gt g hg).1; omega) (fun k _ e => by rw [e]; exact .inl HES.out.Sv) (fun _ _ e => e)) (.inl rfl)
            obtain ⟨hb1, hb2, hb3, ht2⟩ := trC_res htc
            obtain ⟨ev0, ev1, ev2, ev3, _⟩ := ev5.four
            have rb5 := es5.rb
            have hrl := rb5.lt
            clear HCA ho KC KF KS hca
            cases tr with
            | false =>
              subst hb1
              subst hb2
              subst hb3
              have RF := es5.done (c0 := c ++ [t]) ht2 htl rfl HCO.out
              obtain ⟨y0', y1', y2', x0, x1, x2⟩ := rb5.three
              generalize t.res = r at *
              have rb6 := rb5.set3 (.bool r.list) (.int .i64 r.n) (.slice AL r.l.length cL)
              clear es5 HCO HES htc ht2
              go_wp2_with fail
              generalize World.setCell _ _ _ = W6 at RF rb6 ⊢
              obtain ⟨s0, s1, s2, _⟩ := rb6.three
              exact bodyPost_ret (v := .tuple #[.agg #[.bool r.list, .int .i64 r.n, .slice AL r.l.length cL], .int .i64 0]) (by simp [results, Tryd.results75, go_sem, s0, s1, s2]) rfl RF
            | true =>
              subst hb1
              subst hb2
              subst hb3
              have es5 : ES W0 A cap lib bv bc true act n bm env (fun k => S k ∨ k = w.heap.size + 1) v w (.int .u8 x.kind) (.int .i64 x.num) (.string x.name) (.slice Ak x.kids.length ck) wc f2 vc (ts ++ c) := es5
              have htc : TrC wc (Hd (fun k => S k ∨ k = w.heap.size + 1) vc) [.int .i64 tf, .slice Aa na ca, .bool t.res.list, .int .i64 t.res.n, .slice AL t.res.l.length cL, .slice Ac nc cc] t := htc
              obtain ⟨csb, css, cso, csr⟩ := es5.cs
              have hown := (es5.cs.own_gt)
              obtain ⟨Av, cv, hvv, hvc, _⟩ := own_formB cso
              have hN9 : (ts ++ c).length ≤ 900000 := by rw [List.length_append]; omega
              have hP1 : vc.ownBlock ≠ some P := fun e => by have := (HES.out.cs.own_gt P e).2; omega
              have hP2 : P ≠ bc := by omega
              have hcsl : css.length = (ts ++ c).length * 6 := csr.len TrC.len
              have htsc : ts ++ (c ++ [t]) = (ts ++ c) ++ [t] := (List.append_assoc _ _ _).symm
              subst hvv
              have ES5 := Lib.hid es5
              have CSR := Lib.hid csr
              have HTC := Lib.hid htc
              have HT2 := Lib.hid ht2
              have HP1 := Lib.hid hP1
              have HTS := Lib.hid htsc
              obtain ⟨i0, hi0, hz0, hz1, hz2⟩ := info_parts info_tree
              have HI := Lib.hid (And.intro hi0 (And.intro hz0 (And.intro hz1 hz2)))
              have hbz := below_box wc (Obj.cells #[.int .i64 0, .slice none 0 0, .bool false, .int .i64 0, .slice none 0 0, .slice none 0 0] 98)
              have OWB := Lib.hid (show (wc.alloc (Obj.cells #[.int .i64 0, .slice none 0 0, .bool false, .int .i64 0, .slice none 0 0, .slice none 0 0] 98)).drew.ownsRow (bc + 1) 98 6 (.slice Av (ts ++ c).length cv) (ts ++ c).length css from own_below cso (belowDrawn hbz))
              have CNW := Lib.hid (show CellsAt (wc.alloc (Obj.cells #[.int .i64 0, .slice none 0 0, .bool false, .int .i64 0, .slice none 0 0, .slice none 0 0] 98)).drew (some ⟨wc.heap.size, 0, none⟩) [.int .i64 0, .slice none 0 0, .bool false, .int .i64 0, .slice none 0 0, .slice none 0 0] from cells_new wc [.int .i64 0, .slice none 0 0, .bool false, .int .i64 0, .slice none 0 0, .slice none 0 0] _)
              have BZD := Lib.hid (belowDrawn hbz)
              have ONZ := Lib.hid z6_one
              have hHC := Lib.hid hcsl
              obtain ⟨l0, l0f⟩ := csb.one
              have BCB := Lib.hid csb
              have BXP := Lib.hid bxP
              have hbcl : bc < wc.heap.size := csb.lt
              have hPl : P < wc.heap.size := bxP.lt
              have HOG := Lib.hid hown
              generalize hNN : (ts ++ c).length = N at *
              clear hi0 hz0 hz1 hz2 es5 htc cso csr csb ht2 hbz hcsl htsc hP1 hown hf5 ev5 HES rb5
              go_wp2_with fail
              go_cut [20] (fun p wd => p = .pointer (some ⟨P, 0, none⟩) ∧ Hid (PushAt W0 A cap lib bv bc true act n bm env (fun k => S k ∨ k = w.heap.size + 1) v w (.int .u8 x.kind) (.int .i64 x.num) (.string x.name) (.slice Ak x.kids.length ck) f2 ((ts ++ c) ++ [t]) P #[.int .i64 tf, .slice Aa na ca, .bool t.res.list, .int .i64 t.res.n, .slice AL t.res.l.length cL, .slice Ac nc cc] AL cL t.res.l wd))
              case first =>
                have r1 : (0 : Int) ≤ N := by omega
                have r2 : (N : Int) < (N : Int) + 1 := by omega
                have hPd : P ≠ bc := hP2
                go_region_law (first | (refine step_app _ (by rfl) (.tmp 176) (.tmp 179) 96 (by rfl) (bc + 1) 98 i0 (.agg #[.int .i64 0, .slice none 0 0, .bool false, .int .i64 0, .slice none 0 0, .slice none 0 0]) 6 96 Tryd.underlying96 HI.out.1 HI.out.2.1 HI.out.2.2.1 HI.out.2.2.2 rfl (by decide) (.slice Av N cv) N css (by first | (simp [Act.eval]; done) | (simp [Act.eval, Act.put]; done) | rfl) OWB.out (some ⟨wc.heap.size, 0, none⟩) 1 1 [.int .i64 0, .slice none 0 0, .bool false, .int .i64 0, .slice none 0 0, .slice none 0 0] (by first | (simp [Act.eval]; done) | (simp [Act.eval, Act.put]; done) | rfl) rfl CNW.out ONZ.out (by unfold maxLen; omega) (by omega) (by simp; omega) ?_; intro v7 w7 hown7 hgrow7 hat7; obtain ⟨A7, c7, rfl, hn7, hg7⟩ := own_formB hown7; obtain ⟨g7, rfl, hge7⟩ := hg7 (by omega); have bP7 := (BXP.out.below BZD.out).fr (Fr.of_grown hgrow7) (fun e => HP1.out e.symm); have bC7 := (BCB.out.below BZD.out).fr (Fr.of_grown hgrow7) (fun e => (by have := (HOG.out bc e.symm).1; omega)); obtain ⟨⟨q0, q1, q2, q3, q4, q5⟩, _⟩ := bP7.six; obtain ⟨l7, l7f⟩ := bC7.one; obtain ⟨⟨t0, t1, t2, t3, t4, t5⟩, o0, o1, o2, o3, o4, o5⟩ := row_cells hown7 (N := N) hHC.out rfl; have hgc : g7 ≠ bc := (by omega); have hcg : bc ≠ g7 := (by omega); have PA0 := row_a bC7 hown7 (N := N) hHC.out hgc (.int .i64 tf) (.slice Aa na ca) (.bool t.res.list) (.int .i64 t.res.n) (.slice AL t.res.l.length cL) (.slice Ac nc cc); have PB0 := row_b bC7 hown7 (N := N) hHC.out hgc (.int .i64 tf) (.slice Aa na ca) (.bool t.res.list) (.int .i64 t.res.n) (.slice AL t.res.l.length cL) (.slice Ac nc cc); have PA := Lib.hid (push_at ES5.out CSR.out BZD.out hgrow7 hat7 PA0.1 PA0.2.1 (by rw [hNN]; exact PA0.2.2) HTC.out BXP.out HP1.out hP2 HT2.out); have PB := Lib.hid (push_at ES5.out CSR.out BZD.out hgrow7 hat7 PB0.1 PB0.2.1 (by rw [hNN]; exact PB0.2.2) HTC.out BXP.out HP1.out hP2 HT2.out); clear PA0 PB0) | fail)
                all_goals
                  go_wp2_with fail
                  go_meet
                  first
                    | (refine ⟨rfl, ?_⟩; with_reducible exact PA)
                    | (refine ⟨rfl, ?_⟩; with_reducible exact PB)
                    | fail
              case rest =>
                obtain ⟨rfl, hpa⟩ := hcut
                obtain ⟨v', es7, bP7, hi7⟩ := hpa.out
                rw [← HTS.out] at es7
                have RF := es7.done (c0 := c ++ [t]) hi7 htl rfl HCO.out
                have rb7 := es7.rb
                have hrl7 := rb7.lt
                obtain ⟨y0', y1', y2', x0, x1, x2⟩ := rb7.three
                obtain ⟨⟨q0, q1, q2, q3, q4, q5⟩, _⟩ := bP7.six
                generalize t.res = r at *
                have rb8 := rb7.set3 (.bool r.list) (.int .i64 r.n) (.slice AL r.l.length cL)
                clear es7 HCO ES5 hpa hi7 bP7
                go_wp2_with fail
                generalize World.setCell _ _ _ = W6 at RF rb8 ⊢
                obtain ⟨s0, s1, s2, _⟩ := rb8.three
                exact bodyPost_ret (v := .tuple #[.agg #[.bool r.list, .int .i64 r.n, .slice AL r.l.length cL], .int .i64 0]) (by simp [results, Tryd.results75, go_sem, s0, s1, s2]) rfl RF
      have k85 : ((x.kind : Int) != 85) = true := bne_iff_ne.2 (by omega)
      have HOP := Lib.hid (HEV.out.trans (show _ = (opO apR x vs f1).pre c by rw [hev.out]; show Out.pre c _ = _; dsimp only; rw [if_neg h85]))
      have hXl : ∀ k, Hd (fun k => S k ∨ k = w.heap.size + 1) vc k → k < wr.heap.size := fun k e => e.elim (HES.out.Sl k) fun e => (HES.out.cs.own_gt k e).2
      have hoc := Lib.hid (operate_any x Ak ck vs Al cl (Hd (fun k => S k ∨ k = w.heap.size + 1) vc) wr HV.out hXl (Bool.and_eq_true_iff.1 ((formT_eq x).symm.trans HP.out.form)).1 HK.out.1 HK.out.2.1 HK.out.2.2.1 HK.out.2.2.2 h85 hvl.out HLEN.out)
      have hol := opR_len x vs HLEN.out
      clear h85 HEV hev hXl HV
      go_wp2_with fail
      refine hoc.out.mono ?_
      clear hoc n0 n1 n2 n3
      rintro e w5 (⟨h0, A5, c5, rfl, hi5, hb5⟩ | ⟨h0, ub, um, uA, uk, uc, rfl, hb5⟩)
      · have es5 := HES.out.below hb5
        have rb5 := es5.rb
        obtain ⟨y0', y1', y2', x0, x1, x2⟩ := rb5.three
        have RF := Lib.hid (es5.done hi5 hol rfl (HOP.out.trans (by rw [opO_ok h0]; show Out.ok _ _ (c ++ []) = _; rw [List.append_nil])))
        generalize (opR apR x.kind x.num vs).1 = r at *
        have rb6 := rb5.set3 (.bool r.list) (.int .i64 r.n) (.slice A5 r.l.length c5)
        have RF := RF.out
        clear es5 HOP hi5 h0
        go_wp2_with fail
        generalize World.setCell _ _ _ = W6 at RF rb6 ⊢
        obtain ⟨s0, s1, s2, _⟩ := rb6.three
        exact bodyPost_ret (v := .tuple #[.agg #[.bool r.list, .int .i64 r.n, .slice A5 r.l.length c5], .int .i64 0]) (by simp [results, Tryd.results75, go_sem, s0, s1, s2]) rfl RF
      · have es5 := HES.out.below hb5
        have rb5 := es5.rb
        obtain ⟨y0', y1', y2', x0, x1, x2⟩ := rb5.three
        have RF := es5.fail (ts := ts) (Fr.refl w5 _) es5.ev h0 (HOP.out.trans (by rw [opO_err h0]; rfl)) ub um uA uk uc
        generalize (opR apR x.kind x.num vs).2 = q at *
        have rb6 := rb5.set3 (.bool ub) (.int .i64 um) (.slice uA uk uc)
        clear es5 HOP h0
        go_wp2_with fail
        generalize World.setCell _ _ _ = W6 at RF rb6 ⊢
        obtain ⟨s0, s1, s2, _⟩ := rb6.three
        exact bodyPost_ret (v := .tuple #[.agg #[.bool ub, .int .i64 um, .slice uA uk uc], .int .i64 q]) (by simp [results, Tryd.results75, go_sem, s0, s1, s2]) rfl RF

end Go.Proofs.YtcoeakdpcigogaaDoor

namespace Go.Proofs.YtcoeakdpcigogaaDoor
open Go.ChangeShapes Go.WideShapes Go.ChangeAt Go.RowKit Go.Sort Go.Maps

theorem expr_all (W0 : World) (A : Option Addr) (cap : Nat) (lib : List Fn1) (hL : LibX W0 A lib) (bv : Nat) (tr : Bool) : ∀ d, ExprC W0 A cap lib bv tr d
  | 0 => by
    intro x Ak ck F act n bm bc env S v ts w h1 h2 h3 h4 h5 h6 h7 h8 h9 h10 h11 h12 h13 h14 h15 h16 h17 h18
    exact expr_zero (d := 0) ⟨h1, h2, h3, h4, h5, h6, h7, h8, h9, h10, h11, h12, h13, h14, h15, h16, h17, h18⟩ ck (by omega)
  | d + 1 => by
    intro x Ak ck F act n bm bc env S v ts w h1 h2 h3 h4 h5 h6 h7 h8 h9 h10 h11 h12 h13 h14 h15 h16 h17 h18
    have ih := expr_all W0 A cap lib hL bv tr d
    have h : EPre W0 A cap lib bv tr (d + 1) x Ak F act n bm bc env S v ts w := ⟨h1, h2, h3, h4, h5, h6, h7, h8, h9, h10, h11, h12, h13, h14, h15, h16, h17, h18⟩
    by_cases hF : F ≤ 0
    · have e : ev apR lib (d + 1) act env x F.toNat = .err 18 := by rw [ev, if_pos (by omega)]
      rw [e]
      exact expr_zero h ck hF
    have hF : 0 < F := by omega
    by_cases h80 : x.kind = 80
    · exact expr_80 h ck hF h80
    by_cases h81 : x.kind = 81
    · exact expr_81 h ck hF h81
    by_cases h83 : x.kind = 83
    · exact expr_83 h ck hF ih h83
    by_cases h84 : x.kind = 84
    · exact expr_84 h ck hF ih h84
    exact expr_op h ck hF ih hL h80 h81 h83 h84

end Go.Proofs.YtcoeakdpcigogaaDoor

namespace Go.Proofs.YtcoeakdpcigogaaDoor
open Go.ChangeShapes Go.WideShapes Go.ChangeAt Go.RowKit Go.Sort Go.Maps

def tyB (args : List Vl) (ps : List Pm) : Bool := decide (args.map Vl.list = ps.map Pm.list)
def longB (args : List Vl) : Bool := args.any fun a => a.list && decide (1000 < a.l.length)
/-- What a call of the evaluator comes to. -/
noncomputable def startR (lib : List Fn1) (name : ByteArray) (args : List Vl) (F : Int) : OutT :=
  if (validR lib).2 ≠ 0 then .err 3
  else if findF lib name 0 < 0 then .err 21
  else match lib[(findF lib name 0).toNat]? with
    | none => .err 0
    | some fn => if args.length ≠ fn.params.length then .err 7 else if tyB args fn.params = false then .err 7 else if longB args = true then .err 5 else enter lib (ev apR lib F.toNat) 0 (findF lib name 0) args F.toNat
def RetS (o : OutT) (tr : Bool) (S0 : Nat → Prop) (w : World) (e : Ending) (w' : World) : Prop :=
  Below w.heap.size w w' ∧
  ((∃ n, o = .err n ∧ n ≠ 0 ∧ e = .returned (.tuple #[.agg #[.int .i64 0, .slice none 0 0, .bool false, .int .i64 0, .slice none 0 0, .slice none 0 0], .int .i64 n])) ∨
  (∃ t f1, o = .ok t f1 ∧ t.res.l.length ≤ 1000000 ∧ ∃ cs, TrC w' S0 cs (trT tr t) ∧ NewR tr w w' cs t.res.l ∧ e = .returned (.tuple #[.agg cs.toArray, .int .i64 0])))
theorem libX_of {W0 : World} {A : Option Addr} {lib : List Fn1} (hL : LibAt W0 A lib) (hF : LibFit lib) (hv : (validR lib).2 = 0) : LibX W0 A lib := by
  have one := fun (i : Nat) (f : Fn1) (h : lib[i]? = some f) => one_facts (valid_facts hv h)
  exact ⟨hL, hF, fun i f h => (one i f h).2.2.2.2.1, fun i f h => chk_ar lib f.body (envF f.params) (by rw [(one i f h).2.2.2.2.2.2.2]), fun i f h => by have := (one i f h).2.2.2.2.2.2.1; omega, fun i f h => by have := paramE_zero (one i f h).2.2.2.1; omega⟩
theorem tyB_get {args : List Vl} {ps : List Pm} (hl : args.length = ps.length) : (∀ k, k < args.length → ∃ a p, args[k]? = some a ∧ ps[k]? = some p ∧ a.list = p.list) → tyB args ps = true := fun h => by
  unfold tyB
  simp only [decide_eq_true_eq]
  apply List.ext_getElem?
  intro k
  rw [List.getElem?_map, List.getElem?_map]
  by_cases hk : k < args.length
  · obtain ⟨a, p, h1, h2, h3⟩ := h k hk
    rw [h1, h2]; simp [h3]
  · rw [List.getElem?_eq_none (by omega), List.getElem?_eq_none (by omega)]; rfl
theorem tyB_not {args : List Vl} {ps : List Pm} {k : Nat} {a : Vl} {p : Pm} (h1 : args[k]? = some a) (h2 : ps[k]? = some p) (h3 : a.list ≠ p.list) : tyB args ps = false := by
  unfold tyB
  simp only [decide_eq_false_iff_not]
  intro e
  have := congrArg (fun l => l[k]?) e
  simp only [List.getElem?_map, h1, h2, Option.map_some] at this
  exact h3 (Option.some.inj this)
theorem longB_drop {l : List Vl} {k : Nat} (h : k < l.length) : longB (l.drop k) = ((l[k].list && decide (1000 < l[k].l.length)) || longB (l.drop (k + 1))) := by
  unfold longB; rw [List.drop_eq_getElem_cons h]; rfl
theorem RetS.err {w w' : World} (hb : Below w.heap.size w w') {n : Int} (hn : n ≠ 0) (tr : Bool) {o : OutT} (ho : o = .err n) {S0 : Nat → Prop} : RetS o tr S0 w (.returned (.tuple #[.agg #[.int .i64 0, .slice none 0 0, .bool false, .int .i64 0, .slice none 0 0, .slice none 0 0], .int .i64 n])) w' := ⟨hb, .inl ⟨n, ho, hn, rfl⟩⟩
theorem findF_some {lib : List Fn1} {s : ByteArray} (h : ¬ findF lib s 0 < 0) : ∃ (i : Nat) (fn : Fn1), findF lib s 0 = i ∧ lib[i]? = some fn := by
  rcases findF_range s lib 0 with e | ⟨i, i1, i2, _⟩
  · rw [e] at h; omega
  · exact ⟨i, lib[i], by rw [i2]; omega, List.getElem?_eq_getElem i1⟩
theorem validR_pos {lib : List Fn1} : 0 ≤ (validR lib).2 ∨ True := .inr trivial

set_option maxRecDepth 100000 in
set_option maxHeartbeats 2000000 in
theorem start_any (lib : List Fn1) (A : Option Addr) (cap : Nat) (name : ByteArray) (args : List Vl) (Aa : Option Addr) (ca : Nat) (F : Int) (tr : Bool) (S0 : Nat → Prop) (w : World) (hL : LibAt w A lib) (hF : LibFit lib) (hP : FewParams lib) (hN : FewNodes lib) (hV : VlsX w S0 Aa args) (hS0 : ∀ k, S0 k → k < w.heap.size) (hvl : ∀ v ∈ args, v.l.length ≤ 1000000) (hal : args.length ≤ 1000000) (hFu : F ≤ 900000) :
    Calls Tryd.prog 40 #[.slice A lib.length cap, .string name, .slice Aa args.length ca, .agg #[.slice A lib.length cap, .int .i64 F, .int .i64 0, .bool tr]] w (RetS (startR lib name args F) tr S0 w) := by
  have hl := hF.1
  have HS := Lib.hid (startR.eq_def lib name args F)
  have b2 := two_box w (Obj.cells #[.slice A lib.length cap, .int .i64 F, .int .i64 0, .bool tr] 102) (Obj.cells #[.int .i64 0, .slice none 0 0, .bool false, .int .i64 0, .slice none 0 0, .slice none 0 0] 98)
  have eb := (bx_new w #[.slice A lib.length cap, .int .i64 F, .int .i64 0, .bool tr] 102).below (below_box _ (Obj.cells #[.int .i64 0, .slice none 0 0, .bool false, .int .i64 0, .slice none 0 0, .slice none 0 0] 98))
  have rb := bx_new (w.alloc (Obj.cells #[.slice A lib.length cap, .int .i64 F, .int .i64 0, .bool tr] 102)) #[.int .i64 0, .slice none 0 0, .bool false, .int .i64 0, .slice none 0 0, .slice none 0 0] 98
  rw [show (w.alloc (Obj.cells #[.slice A lib.length cap, .int .i64 F, .int .i64 0, .bool tr] 102)).heap.size = w.heap.size + 1 by simp] at rb
  have HL := Lib.hid hL
  have HV := Lib.hid hV
  have HVL := Lib.hid hvl
  have HS0 := Lib.hid hS0
  clear hL hV hvl hS0
  go_enter Tryd.func40, Tryd.ntmps40
  go_wp2_with fail
  generalize World.alloc _ _ = W at b2 eb rb ⊢
  refine (valid_any lib A cap W (HL.out.mono b2) hF hP hN).mono ?_
  rintro e w3 ⟨rfl, hb3⟩
  have q3 := Lib.hid (below_step b2 b2.size hb3)
  have eb3 := eb.below hb3
  have rb3 := rb.below hb3
  clear hb3 b2 eb rb
  by_cases hv : (validR lib).2 = 0
  rotate_left
  · have hv' : ((validR lib).2 != 0) = true := by simpa using hv
    have HO := Lib.hid (HS.out.trans (if_pos hv))
    obtain ⟨⟨y0, y1, y2, y3, y4, y5⟩, x0, x1, x2, x3, x4, x5⟩ := rb3.six
    generalize (validR lib).2 = vv at *
    generalize (validR lib).1 = vw at *
    go_wp2_with fail
    have rbF := rb3.set6 (.int .i64 0) (.slice none 0 0) (.bool false) (.int .i64 0) (.slice none 0 0) (.slice none 0 0)
    have qF := (Fr.set6 w3 (w.heap.size + 1) (.int .i64 0) (.slice none 0 0) (.bool false) (.int .i64 0) (.slice none 0 0) (.slice none 0 0)).toBelow q3.out q3.out.size (fun k e => by omega)
    generalize World.setCell _ _ _ = WF at rbF qF ⊢
    obtain ⟨⟨s0, s1, s2, s3, s4, s5⟩, _⟩ := rbF.six
    exact bodyPost_ret (v := .tuple #[.agg #[.int .i64 0, .slice none 0 0, .bool false, .int .i64 0, .slice none 0 0, .slice none 0 0], .int .i64 3]) (by simp [results, Tryd.results40, go_sem, s0, s1, s2, s3, s4, s5]) rfl (RetS.err qF (by decide) tr HO.out)
  have HV0 := Lib.hid hv
  have HX := Lib.hid (libX_of HL.out hF hv)
  have HS1 := Lib.hid (HS.out.trans (if_neg (fun e => e hv)))
  rw [hv]
  generalize (validR lib).1 = vw at *
  clear hv HS
  go_wp2_with fail
  refine (find_any lib A cap name w3 (HL.out.mono q3.out) hl).mono ?_
  rintro e w4 ⟨rfl, hb4⟩
  have q4 := Lib.hid (below_step q3.out q3.out.size hb4)
  have eb4 := eb3.below hb4
  have rb4 := rb3.below hb4
  clear hb4 q3 eb3 rb3
  by_cases hf : findF lib name 0 < 0
  · have HO := Lib.hid (HS1.out.trans (if_pos hf))
    obtain ⟨⟨y0, y1, y2, y3, y4, y5⟩, x0, x1, x2, x3, x4, x5⟩ := rb4.six
    generalize findF lib name 0 = fi at *
    go_wp2_with fail
    have rbF := rb4.set6 (.int .i64 0) (.slice none 0 0) (.bool false) (.int .i64 0) (.slice none 0 0) (.slice none 0 0)
    have qF := (Fr.set6 w4 (w.heap.size + 1) (.int .i64 0) (.slice none 0 0) (.bool false) (.int .i64 0) (.slice none 0 0) (.slice none 0 0)).toBelow q4.out q4.out.size (fun k e => by omega)
    generalize World.setCell _ _ _ = WF at rbF qF ⊢
    obtain ⟨⟨s0, s1, s2, s3, s4, s5⟩, _⟩ := rbF.six
    exact bodyPost_ret (v := .tuple #[.agg #[.int .i64 0, .slice none 0 0, .bool false, .int .i64 0, .slice none 0 0, .slice none 0 0], .int .i64 21]) (by simp [results, Tryd.results40, go_sem, s0, s1, s2, s3, s4, s5]) rfl (RetS.err qF (by decide) tr HO.out)
  obtain ⟨fi, fn, hfi, hfn⟩ := findF_some hf
  have HS2 := Lib.hid (HS1.out.trans (if_neg hf))
  rw [hfi] at HS2 ⊢
  rw [Int.toNat_natCast, hfn] at HS2
  clear hf HS1
  obtain ⟨hfl, hget⟩ := List.getElem?_eq_some_iff.1 hfn
  obtain ⟨b, o, rfl, hfo⟩ := HL.out.at_ hfl
  have HFO := Lib.hid (show FnO w b (o + fi * 7) fn by rw [← hget]; exact hfo)
  obtain ⟨Ap, cp, hp1', hps⟩ := HFO.out.ps
  have HPS := Lib.hid hps
  have HP1 := Lib.hid hp1'
  have hp1 := below_cell q4.out hp1'
  have hbl : b < w4.heap.size := block_lt_of_cell hp1
  have r1 : (0 : Int) ≤ fi := by omega
  have r2 : (fi : Int) < lib.length := by omega
  have hpl : fn.params.length ≤ 1000 := HX.out.par fi fn hfn
  have HFN := Lib.hid hfn
  clear hfn hget hfo hps hp1' hfi
  by_cases hla : args.length = fn.params.length
  rotate_left
  · have HO := Lib.hid (HS2.out.trans (if_pos hla))
    have hn1 : ((args.length : Int) != fn.params.length) = true := bne_iff_ne.2 (by omega)
    obtain ⟨⟨y0, y1, y2, y3, y4, y5⟩, x0, x1, x2, x3, x4, x5⟩ := rb4.six
    clear hla
    go_wp2_with fail
    have rbF := rb4.set6 (.int .i64 0) (.slice none 0 0) (.bool false) (.int .i64 0) (.slice none 0 0) (.slice none 0 0)
    have qF := (Fr.set6 w4 (w.heap.size + 1) (.int .i64 0) (.slice none 0 0) (.bool false) (.int .i64 0) (.slice none 0 0) (.slice none 0 0)).toBelow q4.out q4.out.size (fun k e => by omega)
    generalize World.setCell _ _ _ = WF at rbF qF ⊢
    obtain ⟨⟨s0, s1, s2, s3, s4, s5⟩, _⟩ := rbF.six
    exact bodyPost_ret (v := .tuple #[.agg #[.int .i64 0, .slice none 0 0, .bool false, .int .i64 0, .slice none 0 0, .slice none 0 0], .int .i64 7]) (by simp [results, Tryd.results40, go_sem, s0, s1, s2, s3, s4, s5]) rfl (RetS.err qF (by decide) tr HO.out)
  have hn1 : ((args.length : Int) != fn.params.length) = false := by rw [hla]; simp
  have HLA := Lib.hid hla
  have HS3 := Lib.hid (HS2.out.trans (if_neg (fun e => e hla)))
  clear hla HS2
  go_wp2_with fail
  clear hn1 hp1
  go_loopw [43] (fun i wr => ∃ k : Nat, k ≤ args.length ∧ i = .int .i64 k ∧ Hid (Below w4.heap.size w4 wr) ∧ Hid (∀ j, j < k → ∃ a p, args[j]? = some a ∧ fn.params[j]? = some p ∧ a.list = p.list)) (fun i _ => args.length - (intOf i).toNat)
  case atStart => exact ⟨0, by omega, rfl, Below.refl _ _, fun j hj => by omega⟩
  case round =>
    obtain ⟨k, hk, rfl, hb, hall⟩ := hrel
    have qr := Lib.hid (below_step q4.out q4.out.size hb.out)
    by_cases hin : k < args.length
    · have hin' : k < fn.params.length := by rw [← HLA.out]; exact hin
      obtain ⟨ba', oa', A', c', rfl, _, d0, d1, d2, hi⟩ := (HV.out.le (X' := fun _ => False) (Le.of_fr (Fr.of_below qr.out (fun _ => False)) (fun _ _ e => e.elim) fun _ _ e => e.elim)) k _ (List.getElem?_eq_getElem hin)
      obtain ⟨bp, op, rfl, e0, e1⟩ := (HPS.out.mono qr.out).at_ hin'
      have g1 := Lib.hid (List.getElem?_eq_getElem hin)
      have g2 := Lib.hid (List.getElem?_eq_getElem hin')
      generalize args[k] = u at *
      generalize fn.params[k] = p at *
      have hp2 := below_cell qr.out HP1.out
      have hlt1 : ba' < wr.heap.size := block_lt_of_cell d0
      have hlt2 : bp < wr.heap.size := block_lt_of_cell e0
      have hlt3 : b < wr.heap.size := block_lt_of_cell hp2
      have rk1 : (0 : Int) ≤ k := by omega
      have rk2 : (k : Int) < args.length := by omega
      have rk3 : (k : Int) < fn.params.length := by omega
      have bb := below_box wr (Obj.cells #[.bool u.list, .int .i64 u.n, .slice A' u.l.length c'] 46)
      by_cases hup : u.list = p.list
      · have hall' := Lib.hid (fun j (hj : j < k + 1) => show ∃ a p, args[j]? = some a ∧ fn.params[j]? = some p ∧ a.list = p.list from by
          by_cases e : j = k
          · rw [e]; exact ⟨u, p, g1.out, g2.out, hup⟩
          · exact hall.out j (by omega))
        rw [← hup] at e1
        have hu1 : (u.list != u.list) = false := by simp
        clear hup hi
        go_wp2_with fail
        go_quiet (fail)
        go_wp2_with fail
        exact ⟨⟨k + 1, by omega, by go_num, below_drewN (below_step hb.out hb.out.size bb) _, hall'⟩, by simp [intOf]; omega⟩
      · have HO := Lib.hid (HS3.out.trans (if_pos (tyB_not g1.out g2.out hup)))
        have rbr := (rb4.below hb.out).below bb
        have q5 := below_step qr.out qr.out.size bb
        have hup2 : (u.list = true ∧ p.list = false) ∨ (u.list = false ∧ p.list = true) := by
          cases hu : u.list <;> cases hp : p.list <;> simp_all
        clear hup hi g1 g2
        rcases hup2 with ⟨hu, hp⟩ | ⟨hu, hp⟩
        all_goals
          rw [hu] at d0 bb rbr q5
          rw [hp] at e1
          clear hu hp
          go_wp2_with fail
          go_quiet (fail)
          generalize wr.alloc _ = V at rbr q5 ⊢
          have rbq := rbr.below (below_drewN (Below.refl V.heap.size V) nq)
          have q6 := Lib.hid (below_drewN q5 nq)
          generalize V.drewN nq = V2 at rbq q6 ⊢
          obtain ⟨⟨y0, y1, y2, y3, y4, y5⟩, x0, x1, x2, x3, x4, x5⟩ := rbq.six
          go_wp2_with fail
          have rbF := rbq.set6 (.int .i64 0) (.slice none 0 0) (.bool false) (.int .i64 0) (.slice none 0 0) (.slice none 0 0)
          have qF := (Fr.set6 V2 (w.heap.size + 1) (.int .i64 0) (.slice none 0 0) (.bool false) (.int .i64 0) (.slice none 0 0) (.slice none 0 0)).toBelow q6.out q6.out.size (fun k e => by omega)
          generalize World.setCell _ _ _ = WF at rbF qF ⊢
          obtain ⟨⟨s0, s1, s2, s3, s4, s5⟩, _⟩ := rbF.six
          exact bodyPost_ret (v := .tuple #[.agg #[.int .i64 0, .slice none 0 0, .bool false, .int .i64 0, .slice none 0 0, .slice none 0 0], .int .i64 7]) (by simp [results, Tryd.results40, go_sem, s0, s1, s2, s3, s4, s5]) rfl (RetS.err qF (by decide) tr HO.out)
    · obtain rfl : k = args.length := by omega
      have HS4 := Lib.hid (HS3.out.trans (if_neg (by rw [tyB_get HLA.out hall.out]; simp)))
      have ebr := eb4.below hb.out
      have rbr := rb4.below hb.out
      clear hall hb q4 eb4 rb4 HS3
      go_wp2_with fail
      obtain ⟨wo, rfl⟩ : ∃ wo : World, wo = wr := ⟨_, rfl⟩
      go_loopw [64] (fun i wr => ∃ k : Nat, k ≤ args.length ∧ i = .int .i64 k ∧ Hid (Below wo.heap.size wo wr) ∧ Hid (longB args = longB (args.drop k))) (fun i _ => args.length - (intOf i).toNat)
      case atStart => exact ⟨0, by omega, rfl, Below.refl _ _, rfl⟩
      case round =>
        obtain ⟨k, hk, rfl, hb, hlg⟩ := hrel
        have q5 := Lib.hid (below_step qr.out qr.out.size hb.out)
        by_cases hin : k < args.length
        · obtain ⟨ba', oa', A', c', rfl, _, d0, d1, d2, hi⟩ := (HV.out.le (X' := fun _ => False) (Le.of_fr (Fr.of_below q5.out (fun _ => False)) (fun _ _ e => e.elim) fun _ _ e => e.elim)) k _ (List.getElem?_eq_getElem hin)
          have HLG := Lib.hid (hlg.out.trans (longB_drop hin))
          generalize args[k] = u at *
          have hlt1 : ba' < wr.heap.size := block_lt_of_cell d0
          have rk1 : (0 : Int) ≤ k := by omega
          have rk2 : (k : Int) < args.length := by omega
          have bb := below_box wr (Obj.cells #[.bool u.list, .int .i64 u.n, .slice A' u.l.length c'] 46)
          obtain ⟨ul, un, us⟩ := u
          simp only at *
          clear hlg hi
          cases ul with
          | false =>
            have HN := Lib.hid (HLG.out.trans (show _ = longB (args.drop (k + 1)) by simp))
            clear HLG
            go_wp2_with fail
            exact ⟨⟨k + 1, by omega, by go_num, below_step hb.out hb.out.size bb, HN⟩, by simp [intOf]; omega⟩
          | true =>
            by_cases h1000 : 1000 < us.length
            · have hc : decide (1000 < us.length) = true := by simpa using h1000
              have HO := Lib.hid (HS4.out.trans (if_pos (HLG.out.trans (by rw [hc]; rfl))))
              have rbr2 := (rbr.below hb.out).below bb
              have q6 := Lib.hid (below_step q5.out q5.out.size bb)
              have hnl := rbr2.lt
              have hrl1 := (rbr.below hb.out).lt
              clear HLG
              obtain ⟨⟨y0, y1, y2, y3, y4, y5⟩, x0, x1, x2, x3, x4, x5⟩ := (rbr.below hb.out).six
              have rbw := rbr.below hb.out
              go_wp2_with fail
              have rbF := rbw.set6 (.int .i64 0) (.slice none 0 0) (.bool false) (.int .i64 0) (.slice none 0 0) (.slice none 0 0)
              have qF := (Fr.set6 wr (w.heap.size + 1) (.int .i64 0) (.slice none 0 0) (.bool false) (.int .i64 0) (.slice none 0 0) (.slice none 0 0)).toBelow q5.out q5.out.size (fun k e => by omega)
              generalize World.setCell _ _ _ = WF at rbF qF ⊢
              have bbF := below_box WF (Obj.cells #[.bool true, .int .i64 un, .slice A' us.length c'] 46)
              have rbG := rbF.below bbF
              have qG := below_step qF qF.size bbF
              generalize World.alloc _ _ = WG at rbG qG ⊢
              obtain ⟨⟨s0, s1, s2, s3, s4, s5⟩, _⟩ := rbG.six
              exact bodyPost_ret (v := .tuple #[.agg #[.int .i64 0, .slice none 0 0, .bool false, .int .i64 0, .slice none 0 0, .slice none 0 0], .int .i64 5]) (by simp [results, Tryd.results40, go_sem, s0, s1, s2, s3, s4, s5]) rfl (RetS.err qG (by decide) tr HO.out)
            · have hc : decide (1000 < us.length) = false := by simpa using h1000
              have HN := Lib.hid (HLG.out.trans (show _ = longB (args.drop (k + 1)) by rw [hc]; rfl))
              clear HLG
              go_wp2_with fail
              exact ⟨⟨k + 1, by omega, by go_num, below_step hb.out hb.out.size bb, HN⟩, by simp [intOf]; omega⟩
        · obtain rfl : k = args.length := by omega
          have HS5 := Lib.hid (HS4.out.trans (if_neg (by rw [hlg.out, List.drop_length]; simp [longB])))
          have eb5 := ebr.below hb.out
          have rb5 := rbr.below hb.out
          have hVr := HV.out.le (X' := fun k => S0 k ∨ k = w.heap.size ∨ k = w.heap.size + 1) (Le.of_fr (Fr.of_below q5.out (fun _ => False)) (fun _ _ e => e.elim) fun k hk e => by
            rcases e with e | e
            · exact e
            · omega)
          have hsl := rb5.lt
          have hcall := Lib.hid (call_of w (some ⟨b, o, none⟩) cap lib HX.out w.heap.size tr F.toNat (expr_all w (some ⟨b, o, none⟩) cap lib HX.out w.heap.size tr F.toNat) fi fn args Aa ca F 0 (fun k => S0 k ∨ k = w.heap.size ∨ k = w.heap.size + 1) wr HFN.out HLA.out hVr HVL.out q5.out (Nat.le_refl _) eb5 (.inr (.inl rfl)) (fun k e => by
            rcases e with e | e
            · have := HS0.out k e; omega
            · omega) (Nat.le_refl _) (by omega) (by omega))
          clear hlg HS4 hb ebr rbr eb5 hVr
          go_wp2_with fail
          refine hcall.out.mono ?_
          clear hcall
          rintro e w6 ⟨hf6, h6⟩
          have rb6 := rb5.fr hf6 (fun e => by omega)
          have q6 := Lib.hid (hf6.toBelow q5.out q5.out.size (fun k e => by omega))
          have hs6 := hf6.size
          obtain ⟨⟨y0, y1, y2, y3, y4, y5⟩, x0, x1, x2, x3, x4, x5⟩ := rb6.six
          rcases h6 with ⟨n, ho, hn0, rfl, _⟩ | ⟨t, f1, ho, htl, _, cs, htc, hnr, rfl⟩
          · have HO := Lib.hid (HS5.out.trans ho)
            go_wp2_with fail
            have rbF := rb6.set6 (.int .i64 0) (.slice none 0 0) (.bool false) (.int .i64 0) (.slice none 0 0) (.slice none 0 0)
            have qF := (Fr.set6 w6 (w.heap.size + 1) (.int .i64 0) (.slice none 0 0) (.bool false) (.int .i64 0) (.slice none 0 0) (.slice none 0 0)).toBelow q6.out q6.out.size (fun k e => by omega)
            generalize World.setCell _ _ _ = WF at rbF qF ⊢
            obtain ⟨⟨s0, s1, s2, s3, s4, s5⟩, _⟩ := rbF.six
            exact bodyPost_ret (v := .tuple #[.agg #[.int .i64 0, .slice none 0 0, .bool false, .int .i64 0, .slice none 0 0, .slice none 0 0], .int .i64 n]) (by simp [results, Tryd.results40, go_sem, s0, s1, s2, s3, s4, s5]) rfl (RetS.err qF hn0 tr HO.out)
          · have HO := Lib.hid (HS5.out.trans ho)
            obtain ⟨Aa', ca', AL', cL', Ac', cc', rfl, _, _, _⟩ := id htc
            have HTC := Lib.hid htc
            have HNR := Lib.hid hnr
            generalize hta : (trT tr t).args.length = na at *
            generalize htk : (trT tr t).calls.length = nk at *
            generalize htf : (trT tr t).func = tf at *
            generalize htb : (trT tr t).res.list = tb at *
            generalize htn : (trT tr t).res.n = tn at *
            generalize hts : (trT tr t).res.l.length = tl at *
            clear htc hnr ho HS5
            go_wp2_with fail
            have f7 := Fr.set6 w6 (w.heap.size + 1) (.int .i64 tf) (.slice Aa' na ca') (.bool tb) (.int .i64 tn) (.slice AL' tl cL') (.slice Ac' nk cc')
            have rbF := rb6.set6 (.int .i64 tf) (.slice Aa' na ca') (.bool tb) (.int .i64 tn) (.slice AL' tl cL') (.slice Ac' nk cc')
            have qF := f7.toBelow q6.out q6.out.size (fun k e => by omega)
            have tc7 := TrC.le (Le.of_fr (X' := S0) f7 (fun k _ e => .inr (.inr e)) fun _ _ e => .inl e) _ _ HTC.out
            obtain ⟨A9, m9, c9, e9, i9, n9⟩ := HNR.out
            have n10 := fun e => (n9 e).le (Le.of_nw (w := w) f7 (fun k _ e => .inl (by omega)) (fun k _ e => .inl (by omega)) (fun k e => .inr e))
            have i10 := i9.le (X' := fun k => k < w.heap.size) (Le.of_fr f7 (fun k _ e => by show k < wr.heap.size; omega) fun k _ e => (show k < wr.heap.size from by have : k < w.heap.size := e; omega))
            generalize World.setCell _ _ _ = WF at rbF qF tc7 i10 n10 ⊢
            obtain ⟨⟨s0, s1, s2, s3, s4, s5⟩, _⟩ := rbF.six
            exact bodyPost_ret (v := .tuple #[.agg #[.int .i64 tf, .slice Aa' na ca', .bool tb, .int .i64 tn, .slice AL' tl cL', .slice Ac' nk cc'], .int .i64 0]) (by simp [results, Tryd.results40, go_sem, s0, s1, s2, s3, s4, s5]) rfl ⟨qF, .inr ⟨t, f1, HO.out, htl, _, tc7, ⟨A9, m9, c9, e9, i10, n10⟩, rfl⟩⟩

end Go.Proofs.YtcoeakdpcigogaaDoor

namespace Go.Proofs.YtcoeakdpcigogaaDoor
open Go.ChangeShapes Go.WideShapes Go.ChangeAt Go.RowKit Go.Sort Go.Maps

/-- .. the list is new, and can be written. -/
def RetCallN (o : OutT) (w : World) (e : Ending) (w' : World) : Prop :=
  Below w.heap.size w w' ∧
  ((∃ n, o = .err n ∧ n ≠ 0 ∧ e = .returned (.tuple #[.agg #[.bool false, .int .i64 0, .slice none 0 0], .int .i64 n])) ∨
  (∃ t f1, o = .ok t f1 ∧ t.res.l.length ≤ 1000000 ∧ ∃ A c, IntsC w' (Nw w w') A c t.res.l ∧ e = .returned (.tuple #[.agg #[.bool t.res.list, .int .i64 t.res.n, .slice A t.res.l.length c], .int .i64 0])))
/-- What funeval.Call returns. -/
def RetCall (o : OutT) (w : World) (e : Ending) (w' : World) : Prop :=
  Below w.heap.size w w' ∧
  ((∃ n, o = .err n ∧ n ≠ 0 ∧ e = .returned (.tuple #[.agg #[.bool false, .int .i64 0, .slice none 0 0], .int .i64 n])) ∨
  (∃ t f1, o = .ok t f1 ∧ t.res.l.length ≤ 1000000 ∧ ∃ A c, IntsC w' (fun k => k < w.heap.size) A c t.res.l ∧ e = .returned (.tuple #[.agg #[.bool t.res.list, .int .i64 t.res.n, .slice A t.res.l.length c], .int .i64 0])))

set_option maxRecDepth 100000 in
set_option maxHeartbeats 2000000 in
theorem evcall_anyN (lib : List Fn1) (A : Option Addr) (cap : Nat) (name : ByteArray) (args : List Vl) (Aa : Option Addr) (ca : Nat) (F : Int) (w : World) (hL : LibAt w A lib) (hF : LibFit lib) (hP : FewParams lib) (hN : FewNodes lib) (hV : VlsX w (fun _ => False) Aa args) (hvl : ∀ v ∈ args, v.l.length ≤ 1000000) (hal : args.length ≤ 1000000) (hFu : F ≤ 900000) :
    Calls Tryd.prog 25 #[.slice A lib.length cap, .string name, .slice Aa args.length ca, .int .i64 F] w (RetCallN (startR lib name args F) w) := by
  have b1 := below_box w (Obj.cells #[.bool false, .int .i64 0, .slice none 0 0] 46)
  have rb := bx_new w #[.bool false, .int .i64 0, .slice none 0 0] 46
  have HST := Lib.hid (start_any lib A cap name args Aa ca F false (fun _ => False) _ (hL.mono b1) hF hP hN (hV.le (Le.of_fr (X' := fun _ => False) (Fr.of_below b1 (fun _ => False)) (fun _ _ e => e) fun _ _ e => e)) (fun _ e => e.elim) hvl hal hFu)
  clear hL hV hvl
  go_enter Tryd.func25, Tryd.ntmps25
  go_wp2_with fail
  generalize w.alloc _ = W at b1 rb HST ⊢
  refine HST.out.mono ?_
  clear HST
  rintro e w6 ⟨hb6, h6⟩
  have q6 := Lib.hid (below_step b1 b1.size hb6)
  have rb6 := rb.below hb6
  have hrl := rb6.lt
  have hb1s := b1.size
  have hb6s := hb6.size
  have hrlW := rb.lt
  obtain ⟨y0, y1, y2, x0, x1, x2⟩ := rb6.three
  rcases h6 with ⟨n, ho, hn0, rfl⟩ | ⟨t, f1, ho, htl, cs, htc, hnr, rfl⟩
  · have HO := Lib.hid ho
    clear ho
    go_wp2_with fail
    have rbF := rb6.set3 (.bool false) (.int .i64 0) (.slice none 0 0)
    have qF := (Fr.set3 w6 w.heap.size (.bool false) (.int .i64 0) (.slice none 0 0)).toBelow q6.out q6.out.size (fun k e => by omega)
    generalize World.setCell _ _ _ = WF at rbF qF ⊢
    have bbF := below_box WF (Obj.cells #[.int .i64 0, .slice none 0 0, .bool false, .int .i64 0, .slice none 0 0, .slice none 0 0] 98)
    have rbG := rbF.below bbF
    have qG := below_step qF qF.size bbF
    generalize World.alloc _ _ = WG at rbG qG ⊢
    obtain ⟨s0, s1, s2, _⟩ := rbG.three
    exact bodyPost_ret (v := .tuple #[.agg #[.bool false, .int .i64 0, .slice none 0 0], .int .i64 n]) (by simp [results, Tryd.results25, go_sem, s0, s1, s2]) rfl ⟨qG, .inl ⟨n, HO.out, hn0, rfl⟩⟩
  · have HO := Lib.hid ho
    obtain ⟨Aa', ca', AL', cL', Ac', cc', rfl, _, hi6, _⟩ := htc
    obtain ⟨A9, m9, c9, e9, _, n9⟩ := hnr
    have i9 := n9 rfl
    clear n9
    have hA : AL' = A9 := by simp at e9; exact e9.1
    have hres : (trT false t).res = t.res := rfl
    subst hA
    rw [hres] at hi6 ⊢
    have HI := Lib.hid (And.intro hi6.1 i9)
    generalize (trT false t).args.length = na at *
    generalize (trT false t).calls.length = nk at *
    generalize (trT false t).func = tf at *
    clear ho e9 hi6 i9
    go_wp2_with fail
    have rbF := rb6.set3 (.bool t.res.list) (.int .i64 t.res.n) (.slice AL' t.res.l.length cL')
    have f7 := Fr.set3 w6 w.heap.size (.bool t.res.list) (.int .i64 t.res.n) (.slice AL' t.res.l.length cL')
    have qF := f7.toBelow q6.out q6.out.size (fun k e => by omega)
    have i10 := HI.out.2.le (Le.of_nw (w := w) f7 (fun k _ e => .inl (by omega)) (fun k _ e => .inl (by omega)) (fun k e => .inr e))
    generalize World.setCell _ _ _ = WF at rbF qF i10 ⊢
    have bbF := below_box WF (Obj.cells #[.int .i64 tf, .slice Aa' na ca', .bool t.res.list, .int .i64 t.res.n, .slice AL' t.res.l.length cL', .slice Ac' nk cc'] 98)
    have rbG := rbF.below bbF
    have qG := below_step qF qF.size bbF
    have i11 := i10.le (Le.of_nw (w := w) (Fr.of_below bbF (fun _ => False)) (fun _ _ e => e.elim) (fun _ _ e => .inl e) (fun _ e => .inr e))
    generalize World.alloc _ _ = WG at rbG qG i11 ⊢
    obtain ⟨s0, s1, s2, _⟩ := rbG.three
    exact bodyPost_ret (v := .tuple #[.agg #[.bool t.res.list, .int .i64 t.res.n, .slice AL' t.res.l.length cL'], .int .i64 0]) (by simp [results, Tryd.results25, go_sem, s0, s1, s2]) rfl ⟨qG, .inr ⟨t, f1, HO.out, htl, AL', cL', ⟨HI.out.1, i11⟩, rfl⟩⟩

theorem evcall_any (lib : List Fn1) (A : Option Addr) (cap : Nat) (name : ByteArray) (args : List Vl) (Aa : Option Addr) (ca : Nat) (F : Int) (w : World) (hL : LibAt w A lib) (hF : LibFit lib) (hP : FewParams lib) (hN : FewNodes lib) (hV : VlsX w (fun _ => False) Aa args) (hvl : ∀ v ∈ args, v.l.length ≤ 1000000) (hal : args.length ≤ 1000000) (hFu : F ≤ 900000) :
    Calls Tryd.prog 25 #[.slice A lib.length cap, .string name, .slice Aa args.length ca, .int .i64 F] w (RetCall (startR lib name args F) w) :=
  (evcall_anyN lib A cap name args Aa ca F w hL hF hP hN hV hvl hal hFu).mono fun _ _ h => ⟨h.1, by
    rcases h.2 with h | ⟨t, f1, h1, h2, A', c', h3, h4⟩
    · exact .inl h
    · exact .inr ⟨t, f1, h1, h2, A', c', h3.old, h4⟩⟩

end Go.Proofs.YtcoeakdpcigogaaDoor
