/-
  The contract of the evaluator's expr: the operands of an operation, one after the other.
-/
import Derived.Test.YtoankdaddgjnlaaFevExpr3
namespace Go.Proofs.Ytoankdaddgjnlaa
open Go.ChangeShapes Go.WideShapes Go.ChangeAt Go.RowKit Go.Sort Go.Maps

/-- Fewer blocks are hidden. -/
theorem ES.less {W0 : World} {A : Option Addr} {cap : Nat} {lib : List Fn1} {bv bc : Nat} {tr : Bool} {act n bm : Nat} {env : ByteArray → Option Vl} {S : Nat → Prop} {v0 : Value} {w : World} {u0 u1 u2 u3 : Value} {wc : World} {G : Int} {vc : Value} {ts : List Tr} (h : ES W0 A cap lib bv bc tr act n bm env S v0 w u0 u1 u2 u3 wc G vc ts) {S' : Nat → Prop} (hS : ∀ k, S' k → S k) (hv : S' bv) (hc : S' bc) : ES W0 A cap lib bv bc tr act n bm env S' v0 w u0 u1 u2 u3 wc G vc ts := by
  have hX : ∀ k, k < wc.heap.size → Hd S' vc k → Hd S vc k := fun k _ e => e.elim (fun e => .inl (hS k e)) .inr
  exact ⟨h.fr, h.hb, h.ev, h.cs.fr (Fr.refl wc (fun _ => False)) id (fun _ _ => id) (fun _ _ e => e.elim) hX, h.env.fr (Fr.refl wc (fun _ => False)) (fun _ _ e => e.elim) hX, h.nb, h.rb, h.at_, h.old, h.bvl, hv, hc, fun k e => h.Sl k (hS k e)⟩
/-- The hidden blocks with the row of l. -/
def SL (S : Nat → Prop) (lv : Value) (k : Nat) : Prop := S k ∨ lv.ownBlock = some k
/-- A row of the call's own has grown. -/
theorem ES.grown {W0 : World} {A : Option Addr} {cap : Nat} {lib : List Fn1} {bv bc : Nat} {tr : Bool} {act n bm : Nat} {env : ByteArray → Option Vl} {S : Nat → Prop} {v0 : Value} {w : World} {u0 u1 u2 u3 : Value} {wc : World} {G : Int} {vc : Value} {ts : List Tr} {lv lv' : Value} (h : ES W0 A cap lib bv bc tr act n bm env (SL S lv) v0 w u0 u1 u2 u3 wc G vc ts) {w' : World} (hg : wc.grownBy w' lv.ownBlock) (hat : lv'.ownBlock = lv.ownBlock ∨ lv'.ownBlock = some wc.heap.size) (hl : ∀ g, lv.ownBlock = some g → w.heap.size + 2 ≤ g ∧ vc.ownBlock ≠ some g) (hv : S bv) (hc : S bc) (hSl : ∀ k, S k → k < wc.heap.size) (hl' : ∀ g, lv'.ownBlock = some g → g < w'.heap.size) :
    ES W0 A cap lib bv bc tr act n bm env (SL S lv') v0 w u0 u1 u2 u3 w' G vc ts ∧ ∀ g, lv'.ownBlock = some g → w.heap.size + 2 ≤ g ∧ vc.ownBlock ≠ some g := by
  have f := Fr.of_grown hg
  have hb := h.bvl
  have hlt := h.lt
  have hX : ∀ k, k < wc.heap.size → Hd (SL S lv') vc k → Hd (SL S lv) vc k := fun k hk e => by
    rcases e with (e | e) | e
    · exact .inl (.inl e)
    · rcases hat with e' | e'
      · exact .inl (.inr (e'.symm.trans e))
      · rw [e'] at e; have := Option.some.inj e; omega
    · exact .inr e
  have hm : ∀ k, k < wc.heap.size → some k = lv.ownBlock → Hd (SL S lv) vc k := fun k _ e => .inl (.inr e.symm)
  refine ⟨⟨h.fr.trans f (fun k hk e => ?_), f.below h.hb fun k e => ?_, h.ev.fr f (fun e => ?_), h.cs.fr f (fun e => ?_) (fun g hg e => ?_) hm hX, h.env.fr f hm hX, h.nb.fr f (fun e => ?_), h.rb.fr f (fun e => ?_), h.at_, h.old, h.bvl, .inl hv, .inl hc, fun k e => ?_⟩, fun g hg => ?_⟩
  · have := (hl k e.symm).1; omega
  · have := (hl k e.symm).1; omega
  · have := (hl _ e.symm).1; omega
  · have := (hl _ e.symm).1; omega
  · exact (hl g e.symm).2 hg
  · have := (hl _ e.symm).1; omega
  · have := (hl _ e.symm).1; omega
  · rcases e with e | e
    · exact Nat.lt_of_lt_of_le (hSl k e) f.size
    · exact hl' k e
  · rcases hat with e' | e'
    · exact hl g (e'.symm.trans hg)
    · rw [e'] at hg
      have := Option.some.inj hg
      refine ⟨by omega, fun e => ?_⟩
      have := (h.cs.own_gt g e).2; omega

/-- The operands evaluated so far. -/
structure LI (W0 : World) (A : Option Addr) (cap : Nat) (lib : List Fn1) (bv bc : Nat) (tr : Bool) (act n bm : Nat) (env : ByteArray → Option Vl) (S : Nat → Prop) (v0 : Value) (w : World) (u0 u1 u2 u3 : Value) (wc : World) (f1 : Nat) (vc : Value) (ts : List Tr) (lv : Value) (vs : List Vl) : Prop where
  es : ES W0 A cap lib bv bc tr act n bm env (SL S lv) v0 w u0 u1 u2 u3 wc f1 vc ts
  row : ∃ cs, wc.ownsRow (w.heap.size + 2) 28 3 lv vs.length cs ∧ RowG (VlC wc (Hd (SL S lv) vc)) cs vs
  ne : ∀ g, lv.ownBlock = some g → w.heap.size + 2 ≤ g ∧ vc.ownBlock ≠ some g
  len : ∀ v ∈ vs, v.l.length ≤ 1000000
  Sv : S bv
  Sc : S bc
  Sl : ∀ k, S k → k < w.heap.size + 2
theorem LI.below {W0 : World} {A : Option Addr} {cap : Nat} {lib : List Fn1} {bv bc : Nat} {tr : Bool} {act n bm : Nat} {env : ByteArray → Option Vl} {S : Nat → Prop} {v0 : Value} {w : World} {u0 u1 u2 u3 : Value} {wc w' : World} {f1 : Nat} {vc : Value} {ts : List Tr} {lv : Value} {vs : List Vl} (h : LI W0 A cap lib bv bc tr act n bm env S v0 w u0 u1 u2 u3 wc f1 vc ts lv vs) (hb : Below wc.heap.size wc w') : LI W0 A cap lib bv bc tr act n bm env S v0 w u0 u1 u2 u3 w' f1 vc ts lv vs := by
  obtain ⟨cs, h1, h2⟩ := h.row
  have f := Fr.of_below hb (fun _ => False)
  exact ⟨h.es.below hb, ⟨cs, f.own h1 (fun _ _ => id), h2.map (VlC.le (Le.of_fr f (fun _ _ e => e.elim) fun _ _ e => e))⟩, h.ne, h.len, h.Sv, h.Sc, h.Sl⟩
/-- After an operand that has a value. -/
theorem LI.next {W0 : World} {A : Option Addr} {cap : Nat} {lib : List Fn1} {bv bc : Nat} {tr : Bool} {act n bm : Nat} {env : ByteArray → Option Vl} {S : Nat → Prop} {v0 : Value} {w : World} {u0 u1 u2 u3 : Value} {wc w' : World} {f1 f2 : Nat} {vc v' : Value} {ts ts' : List Tr} {lv : Value} {vs : List Vl} (h : LI W0 A cap lib bv bc tr act n bm env S v0 w u0 u1 u2 u3 wc f1 vc ts lv vs)
    (hf : Fr wc w' (Mx bv bc vc)) (hev : EvAt w' bv A cap lib f2 act tr) (hcs : CsAt w' (Hd (SL S lv) v') bc v' ts') (hat : v'.ownBlock = vc.ownBlock ∨ ∃ g, v'.ownBlock = some g ∧ wc.heap.size ≤ g) : LI W0 A cap lib bv bc tr act n bm env S v0 w u0 u1 u2 u3 w' f2 v' ts' lv vs := by
  obtain ⟨cs, h1, h2⟩ := h.row
  have hb := h.es.bvl
  have hlt := h.es.lt
  refine ⟨h.es.next hf hev hcs hat, ⟨cs, hf.own h1 (fun g hg e => ?_), h2.map (VlC.le (Le.of_fr hf (fun k _ e => ?_) fun k hk e => ?_))⟩, fun g hg => ⟨(h.ne g hg).1, fun e => ?_⟩, h.len, h.Sv, h.Sc, h.Sl⟩
  · have h3 := h.ne g hg
    rcases e with e | e | e
    · omega
    · omega
    · exact h3.2 e
  · rcases e with e | e | e
    · rw [e]; exact .inl (.inl h.Sv)
    · rw [e]; exact .inl (.inl h.Sc)
    · exact .inr e
  · rcases e with e | e
    · exact .inl e
    · rcases hat with e' | ⟨g, e', h'⟩
      · exact .inr (e'.symm.trans e)
      · rw [e'] at e; have := Option.some.inj e; omega
  · rcases hat with e' | ⟨g', e', h'⟩
    · exact (h.ne g hg).2 (e'.symm.trans e)
    · rw [e'] at e
      have := Option.some.inj e
      have := (h1.lt g hg).2; omega
/-- The value is appended. -/
theorem LI.push {W0 : World} {A : Option Addr} {cap : Nat} {lib : List Fn1} {bv bc : Nat} {tr : Bool} {act n bm : Nat} {env : ByteArray → Option Vl} {S : Nat → Prop} {v0 : Value} {w : World} {u0 u1 u2 u3 : Value} {wc w' : World} {f1 : Nat} {vc : Value} {ts : List Tr} {lv lv' : Value} {vs : List Vl} (h : LI W0 A cap lib bv bc tr act n bm env S v0 w u0 u1 u2 u3 wc f1 vc ts lv vs) {cs : List Value} (hr : RowG (VlC wc (Hd (SL S lv) vc)) cs vs)
    {u : Vl} {A' : Option Addr} {c' : Nat} (hi : IntsC wc (Hd (SL S lv) vc) A' c' u.l) (hul : u.l.length ≤ 1000000) (hg : wc.grownBy w' lv.ownBlock) (hat : lv'.ownBlock = lv.ownBlock ∨ lv'.ownBlock = some wc.heap.size)
    (hown : w'.ownsRow (w.heap.size + 2) 28 3 lv' (vs.length + 1) (cs ++ [.bool u.list, .int .i64 u.n, .slice A' u.l.length c'])) : LI W0 A cap lib bv bc tr act n bm env S v0 w u0 u1 u2 u3 w' f1 vc ts lv' (vs ++ [u]) := by
  have hlt := h.es.lt
  obtain ⟨e1, e2⟩ := h.es.grown hg hat h.ne h.Sv h.Sc (fun k e => Nat.lt_of_lt_of_le (h.Sl k e) hlt) (fun g hg => (hown.lt g hg).2)
  have l1 : Le wc (Hd (SL S lv) vc) w' (Hd (SL S lv') vc) := Le.of_fr (Fr.of_grown hg) (fun k _ e => .inl (.inr e.symm)) fun k hk e => by
    rcases e with (e | e) | e
    · exact .inl (.inl e)
    · rcases hat with e' | e'
      · exact .inl (.inr (e'.symm.trans e))
      · rw [e'] at e; have := Option.some.inj e; omega
    · exact .inr e
  refine ⟨e1, ⟨_, by rw [List.length_append]; exact hown, .snoc (hr.map (VlC.le l1)) (VlC.mk (hi.le l1))⟩, e2, fun v hv => ?_, h.Sv, h.Sc, h.Sl⟩
  rcases List.mem_append.1 hv with hv | hv
  · exact h.len v hv
  · rw [List.mem_singleton] at hv; rw [hv]; exact hul
/-- The operands as a slice. -/
theorem LI.slice {W0 : World} {A : Option Addr} {cap : Nat} {lib : List Fn1} {bv bc : Nat} {tr : Bool} {act n bm : Nat} {env : ByteArray → Option Vl} {S : Nat → Prop} {v0 : Value} {w : World} {u0 u1 u2 u3 : Value} {wc : World} {f1 : Nat} {vc : Value} {ts : List Tr} {lv : Value} {vs : List Vl} (h : LI W0 A cap lib bv bc tr act n bm env S v0 w u0 u1 u2 u3 wc f1 vc ts lv vs) : ∃ Al cl, lv = .slice Al vs.length cl ∧ VlsX wc (Hd S vc) Al vs ∧ ES W0 A cap lib bv bc tr act n bm env S v0 w u0 u1 u2 u3 wc f1 vc ts := by
  obtain ⟨cs, h1, h2⟩ := h.row
  have hX : ∀ k, k < wc.heap.size → Hd S vc k → Hd (SL S lv) vc k := fun k _ e => e.elim (fun e => .inl (.inl e)) .inr
  obtain ⟨Al, cl, e, h3⟩ := vlsX_of_own (X := Hd S vc) h1 (h2.map (VlC.le (Le.less hX))) (fun g hg e => by
    rcases e with e | e
    · have := h.Sl g e; have := (h.ne g hg).1; omega
    · exact (h.ne g hg).2 e)
  exact ⟨Al, cl, e, h3, h.es.less (fun k e => .inl e) h.Sv h.Sc⟩
/-- .. evaluated one after the other. -/
theorem evL_snoc (E : Nd → Nat → Out) : ∀ (l : List Nd) (y : Nd) (f : Nat) {vs : List Vl} {f1 : Nat} {c : List Tr}, evL E l f = .ok vs f1 c → evL E (l ++ [y]) f = match E y f1 with | .err e => .err e | .ok u f2 c2 => .ok (vs ++ [u]) f2 (c ++ c2)
  | [], y, f, vs, f1, c, h => by
    rw [evL] at h
    cases h
    rw [List.nil_append, evL]
    cases E y f with
    | err e => rfl
    | ok u f2 c2 => simp [evL]
  | x :: r, y, f, vs, f1, c, h => by
    rw [evL] at h
    rw [List.cons_append, evL]
    cases hx : E x f with
    | err e => rw [hx] at h; cases h
    | ok u f2 c2 =>
      rw [hx] at h
      dsimp only at h ⊢
      cases hr : evL E r f2 with
      | err e => rw [hr] at h; cases h
      | ok us f3 c3 =>
        rw [hr] at h
        cases h
        rw [evL_snoc E r y f2 hr]
        cases E y f1 with
        | err e => rfl
        | ok u2 f4 c4 => simp
theorem evL_stop (E : Nd → Nat → Out) : ∀ (l r : List Nd) (f : Nat) {e : Int}, evL E l f = .err e → evL E (l ++ r) f = .err e
  | [], r, f, e, h => by rw [evL] at h; cases h
  | x :: l, r, f, e, h => by
    rw [evL] at h
    rw [List.cons_append, evL]
    cases hx : E x f with
    | err e' => rw [hx] at h; exact h
    | ok u f2 c2 =>
      rw [hx] at h
      dsimp only at h ⊢
      cases hr : evL E l f2 with
      | err e' => rw [hr] at h; cases h; rw [evL_stop E l r f2 hr]
      | ok us f3 c3 => rw [hr] at h; cases h
theorem evL_sp {lib : List Fn1} {d act : Nat} {env : ByteArray → Option Vl} {l : List Nd} {f : Nat} {vs : List Vl} {f1 : Nat} {c : List Tr} (h : evL (ev apR lib d act env) l f = .ok vs f1 c) : f1 + c.length ≤ f := by
  have h1 := evL_cost (fun x f => Out.cost_S (ev_cost apR lib d act env x f)) l f
  rw [h] at h1
  have h2 : f1 + stepsL c ≤ f := h1
  have h3 : c.length ≤ stepsL c := by
    clear h1 h2 h
    induction c with
    | nil => simp
    | cons t r ih => cases t; rw [stepsL, stepsT, List.length_cons]; omega
  omega

end Go.Proofs.Ytoankdaddgjnlaa
