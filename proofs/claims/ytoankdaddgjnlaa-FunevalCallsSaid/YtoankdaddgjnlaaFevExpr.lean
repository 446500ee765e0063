/-
  The contract of the evaluator's expr: what is carried from one operand to the next; numbers and variables.
-/
import Derived.Test.YtoankdaddgjnlaaFevCall
namespace Go.Proofs.Ytoankdaddgjnlaa
open Go.ChangeShapes Go.WideShapes Go.ChangeAt Go.RowKit Go.Sort Go.Maps

/-- What expr asks. -/
structure EPre (W0 : World) (A : Option Addr) (cap : Nat) (lib : List Fn1) (bv : Nat) (tr : Bool) (d : Nat) (x : Nd) (Ak : Option Addr) (F : Int) (act n bm bc : Nat) (env : ByteArray → Option Vl) (S : Nat → Prop) (v : Value) (ts : List Tr) (w : World) : Prop where
  kids : NdsAt W0 Ak x.kids
  fit : NdFit x
  form : formT x = true
  ar : arT lib x = true
  size : sizeT x ≤ 500000
  hb : Below W0.heap.size W0 w
  bvl : W0.heap.size ≤ bv
  bcl : bv < bc
  ev : EvAt w bv A cap lib F act tr
  cs : CsAt w (Hd S v) bc v ts
  env : EnvX w (Hd S v) bm n env
  Sv : S bv
  Sc : S bc
  Sl : ∀ k, S k → k < w.heap.size
  fuel : F.toNat ≤ d
  en : n + F.toNat ≤ 1000000
  tn : ts.length + F.toNat ≤ 900000
  act30 : act ≤ 30
/-- What is carried from one operand to the next. -/
structure ES (W0 : World) (A : Option Addr) (cap : Nat) (lib : List Fn1) (bv bc : Nat) (tr : Bool) (act n bm : Nat) (env : ByteArray → Option Vl) (S : Nat → Prop) (v0 : Value) (w : World) (u0 u1 u2 u3 : Value) (wc : World) (G : Int) (vc : Value) (ts : List Tr) : Prop where
  fr : Fr w wc (Mx bv bc v0)
  hb : Below W0.heap.size W0 wc
  ev : EvAt wc bv A cap lib G act tr
  cs : CsAt wc (Hd S vc) bc vc ts
  env : EnvX wc (Hd S vc) bm n env
  nb : Bx wc w.heap.size #[u0, u1, u2, u3]
  rb : Bx wc (w.heap.size + 1) #[.bool false, .int .i64 0, .slice none 0 0]
  at_ : vc.ownBlock = v0.ownBlock ∨ ∃ g, vc.ownBlock = some g ∧ w.heap.size + 2 ≤ g
  old : ∀ g, v0.ownBlock = some g → g < w.heap.size
  bvl : W0.heap.size ≤ bv ∧ bv < bc ∧ bc < w.heap.size
  Sv : S bv
  Sc : S bc
  Sl : ∀ k, S k → k < wc.heap.size
/-- The fuel is taken, the parameter and the result have their blocks. -/
theorem EPre.start {W0 : World} {A : Option Addr} {cap : Nat} {lib : List Fn1} {bv : Nat} {tr : Bool} {d : Nat} {x : Nd} {Ak : Option Addr} {F : Int} {act n bm bc : Nat} {env : ByteArray → Option Vl} {S : Nat → Prop} {v : Value} {ts : List Tr} {w : World} (h : EPre W0 A cap lib bv tr d x Ak F act n bm bc env S v ts w) (u0 u1 u2 u3 : Value) (T1 T2 : TypeId) :
    ES W0 A cap lib bv bc tr act n bm env (fun k => S k ∨ k = w.heap.size + 1) v w u0 u1 u2 u3 (((w.setCell ⟨bv, 1, none⟩ (.int .i64 (F - 1))).alloc (Obj.cells #[u0, u1, u2, u3] T1)).alloc (Obj.cells #[.bool false, .int .i64 0, .slice none 0 0] T2)) (F - 1) v ts := by
  have hbc := h.cs.1.lt
  have f1 := Fr.of_set w ⟨bv, 1, none⟩ (.int .i64 (F - 1))
  have hs : (w.setCell ⟨bv, 1, none⟩ (.int .i64 (F - 1))).heap.size = w.heap.size := by simp
  have ev1 := Bx.set h.ev 1 (.int .i64 (F - 1))
  generalize hw1 : w.setCell ⟨bv, 1, none⟩ (.int .i64 (F - 1)) = w1 at *
  have b2 := two_box w1 (Obj.cells #[u0, u1, u2, u3] T1) (Obj.cells #[.bool false, .int .i64 0, .slice none 0 0] T2)
  have nb := (bx_new w1 #[u0, u1, u2, u3] T1).below (below_box _ (Obj.cells #[.bool false, .int .i64 0, .slice none 0 0] T2))
  have rb := bx_new (w1.alloc (Obj.cells #[u0, u1, u2, u3] T1)) #[.bool false, .int .i64 0, .slice none 0 0] T2
  have hs2 : (w1.alloc (Obj.cells #[u0, u1, u2, u3] T1)).heap.size = w.heap.size + 1 := by simp [hs]
  rw [hs2] at rb
  rw [hs] at nb
  have fr := f1.trans (Fr.of_below b2 (fun _ => False)) (fun _ _ e => e.elim)
  have hX : ∀ k, k < w.heap.size → Hd (fun k => S k ∨ k = w.heap.size + 1) v k → Hd S v k := fun k hk e => by
    rcases e with (e | e) | e
    · exact .inl e
    · omega
    · exact .inr e
  have hm : ∀ k, k < w.heap.size → k = bv → Hd S v k := fun k _ e => .inl (by rw [e]; exact h.Sv)
  have hown := h.cs.own_gt
  refine ⟨fr.mono fun k _ e => .inl e, fr.below h.hb fun k e => ?_, ev1.below b2, h.cs.fr fr ?_ ?_ hm hX, h.env.fr fr hm hX, nb, rb, .inl rfl, fun g hg => (hown g hg).2, ⟨h.bvl, h.bcl, hbc⟩, .inl h.Sv, .inl h.Sc, fun k e => ?_⟩
  · have : k = bv := e
    have := h.bvl; omega
  · intro e
    have : bc = bv := e
    have := h.bcl; omega
  · intro g hg e
    have : g = bv := e
    have := (hown g hg).1
    have := h.bcl; omega
  · have := rb.lt
    rcases e with e | e
    · have := h.Sl k e; omega
    · omega
theorem ES.below {W0 : World} {A : Option Addr} {cap : Nat} {lib : List Fn1} {bv bc : Nat} {tr : Bool} {act n bm : Nat} {env : ByteArray → Option Vl} {S : Nat → Prop} {v0 : Value} {w : World} {u0 u1 u2 u3 : Value} {wc w' : World} {G : Int} {vc : Value} {ts : List Tr} (h : ES W0 A cap lib bv bc tr act n bm env S v0 w u0 u1 u2 u3 wc G vc ts) (hb : Below wc.heap.size wc w') :
    ES W0 A cap lib bv bc tr act n bm env S v0 w u0 u1 u2 u3 w' G vc ts := by
  have f := Fr.of_below hb (fun _ => False)
  exact ⟨h.fr.trans f (fun _ _ e => e.elim), below_step h.hb h.hb.size hb, h.ev.below hb, h.cs.fr f id (fun _ _ => id) (fun _ _ e => e.elim) (fun _ _ e => e), h.env.fr f (fun _ _ e => e.elim) (fun _ _ e => e), h.nb.below hb, h.rb.below hb, h.at_, h.old, h.bvl, h.Sv, h.Sc, fun k e => Nat.lt_of_lt_of_le (h.Sl k e) hb.size⟩
theorem ES.lt {W0 : World} {A : Option Addr} {cap : Nat} {lib : List Fn1} {bv bc : Nat} {tr : Bool} {act n bm : Nat} {env : ByteArray → Option Vl} {S : Nat → Prop} {v0 : Value} {w : World} {u0 u1 u2 u3 : Value} {wc : World} {G : Int} {vc : Value} {ts : List Tr} (h : ES W0 A cap lib bv bc tr act n bm env S v0 w u0 u1 u2 u3 wc G vc ts) : w.heap.size + 2 ≤ wc.heap.size := by
  have := h.rb.lt; omega
/-- What an operand's evaluation may turn does not touch the two blocks. -/
theorem ES.mx {W0 : World} {A : Option Addr} {cap : Nat} {lib : List Fn1} {bv bc : Nat} {tr : Bool} {act n bm : Nat} {env : ByteArray → Option Vl} {S : Nat → Prop} {v0 : Value} {w : World} {u0 u1 u2 u3 : Value} {wc : World} {G : Int} {vc : Value} {ts : List Tr} (h : ES W0 A cap lib bv bc tr act n bm env S v0 w u0 u1 u2 u3 wc G vc ts) : (¬ Mx bv bc vc w.heap.size ∧ ¬ Mx bv bc vc (w.heap.size + 1)) ∧ ∀ k, k < w.heap.size → Mx bv bc vc k → Mx bv bc v0 k := by
  have hb := h.bvl
  have hown : ∀ g, vc.ownBlock = some g → g < w.heap.size ∨ w.heap.size + 2 ≤ g := fun g hg => by
    rcases h.at_ with e | ⟨g', e, h'⟩
    · exact .inl (h.old g (e.symm.trans hg))
    · rw [e] at hg; cases hg; exact .inr h'
  refine ⟨⟨fun e => ?_, fun e => ?_⟩, fun k hk e => ?_⟩
  · rcases e with e | e | e
    · omega
    · omega
    · have := hown _ e; omega
  · rcases e with e | e | e
    · omega
    · omega
    · have := hown _ e; omega
  · rcases e with e | e | e
    · exact .inl e
    · exact .inr (.inl e)
    · rcases h.at_ with e' | ⟨g', e', h'⟩
      · exact .inr (.inr (e'.symm.trans e))
      · rw [e'] at e; have := Option.some.inj e; omega
/-- After an operand that has a value. -/
theorem ES.next {W0 : World} {A : Option Addr} {cap : Nat} {lib : List Fn1} {bv bc : Nat} {tr : Bool} {act n bm : Nat} {env : ByteArray → Option Vl} {S : Nat → Prop} {v0 : Value} {w : World} {u0 u1 u2 u3 : Value} {wc w' : World} {G G' : Int} {vc v' : Value} {ts ts' : List Tr} (h : ES W0 A cap lib bv bc tr act n bm env S v0 w u0 u1 u2 u3 wc G vc ts)
    (hf : Fr wc w' (Mx bv bc vc)) (hev : EvAt w' bv A cap lib G' act tr) (hcs : CsAt w' (Hd S v') bc v' ts') (hat : v'.ownBlock = vc.ownBlock ∨ ∃ g, v'.ownBlock = some g ∧ wc.heap.size ≤ g) :
    ES W0 A cap lib bv bc tr act n bm env S v0 w u0 u1 u2 u3 w' G' v' ts' := by
  obtain ⟨⟨m1, m2⟩, m3⟩ := h.mx
  have hlt := h.lt
  have hb := h.bvl
  have hown := h.cs.own_gt
  refine ⟨h.fr.trans hf m3, hf.below h.hb fun k e => ?_, hev, hcs, h.env.fr hf (fun k _ e => ?_) (fun k hk e => ?_), h.nb.fr hf m1, h.rb.fr hf m2, ?_, h.old, h.bvl, h.Sv, h.Sc, fun k e => Nat.lt_of_lt_of_le (h.Sl k e) hf.size⟩
  · rcases e with e | e | e
    · omega
    · omega
    · have := (hown k e).1; omega
  · rcases e with e | e | e
    · rw [e]; exact .inl h.Sv
    · rw [e]; exact .inl h.Sc
    · exact .inr e
  · rcases e with e | e
    · exact .inl e
    · rcases hat with e' | ⟨g, e', h'⟩
      · exact .inr (e'.symm.trans e)
      · rw [e'] at e; have := Option.some.inj e; omega
  · rcases hat with e | ⟨g, e, h'⟩
    · rw [e]; exact h.at_
    · exact .inr ⟨g, e, by omega⟩

end Go.Proofs.Ytoankdaddgjnlaa
