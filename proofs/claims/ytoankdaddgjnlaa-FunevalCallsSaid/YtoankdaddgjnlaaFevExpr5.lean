/-
  The contract of the evaluator's expr: operations and calls.
-/
import Derived.Test.YtoankdaddgjnlaaFevExpr4
import Derived.Deep.DeepCutAuto
import Derived.Deep.RegionHeld3
namespace Go.Proofs.Ytoankdaddgjnlaa
open Go.ChangeShapes Go.WideShapes Go.ChangeAt Go.RowKit Go.Sort Go.Maps

theorem ev_op {lib : List Fn1} {d act : Nat} {env : ByteArray → Option Vl} {x : Nd} {f : Nat} (h0 : 0 < f) (h80 : x.kind ≠ 80) (h81 : x.kind ≠ 81) (h83 : x.kind ≠ 83) (h84 : x.kind ≠ 84) : ev apR lib (d + 1) act env x f = (evL (ev apR lib d act env) x.kids (f - 1)).bind fun vs f1 => if x.kind = 85 then (enter lib (ev apR lib d) act (findF lib x.name 0) vs f1).out else opO apR x vs f1 := by
  rw [ev, if_neg (by omega), if_neg h80, if_neg h81, if_neg h83, if_neg h84]
theorem evL_len {E : Nd → Nat → Out} : ∀ {l : List Nd} {f : Nat} {vs : List Vl} {f1 : Nat} {c : List Tr}, evL E l f = .ok vs f1 c → vs.length = l.length
  | [], f, vs, f1, c, h => by rw [evL] at h; cases h; rfl
  | x :: r, f, vs, f1, c, h => by
    rw [evL] at h
    cases hx : E x f with
    | err e => rw [hx] at h; cases h
    | ok u f2 c2 =>
      rw [hx] at h
      dsimp only at h
      cases hr : evL E r f2 with
      | err e => rw [hr] at h; cases h
      | ok us f3 c3 => rw [hr] at h; cases h; simp [evL_len hr]
theorem opO_ok {x : Nd} {vs : List Vl} {f : Nat} (h : (opR apR x.kind x.num vs).2 = 0) : opO apR x vs f = .ok (opR apR x.kind x.num vs).1 f [] := by unfold opO; rw [if_pos h]
theorem opO_err {x : Nd} {vs : List Vl} {f : Nat} (h : (opR apR x.kind x.num vs).2 ≠ 0) : opO apR x vs f = .err (opR apR x.kind x.num vs).2 := by unfold opO; rw [if_neg h]

/-! ### Calls -/
/-- What the call has left, its results told apart. -/
def CR (o : OutT) (A : Option Addr) (cap : Nat) (lib : List Fn1) (bv : Nat) (tr : Bool) (act : Nat) (S : Nat → Prop) (w w' : World) (cs : List Value) (q : Int) : Prop :=
  Fr w w' (fun k => k = bv) ∧ ((∃ n, o = .err n ∧ n ≠ 0 ∧ q = n ∧ ∃ F', EvAt w' bv A cap lib F' act tr) ∨ (∃ t f1, o = .ok t f1 ∧ q = 0 ∧ t.res.l.length ≤ 1000000 ∧ EvAt w' bv A cap lib f1 act tr ∧ TrC w' S cs (trT tr t)))
theorem RetC.form {o : OutT} {A : Option Addr} {cap : Nat} {lib : List Fn1} {bv : Nat} {tr : Bool} {act : Nat} {S : Nat → Prop} {w w' : World} {e : Ending} (h : RetC o A cap lib bv tr act S w e w') :
    ∃ (tf : Int) (Aa : Option Addr) (na ca : Nat) (b : Bool) (m : Int) (AL : Option Addr) (nl cL : Nat) (Ac : Option Addr) (nc cc : Nat) (q : Int), e = .returned (.tuple #[.agg #[.int .i64 tf, .slice Aa na ca, .bool b, .int .i64 m, .slice AL nl cL, .slice Ac nc cc], .int .i64 q]) ∧ CR o A cap lib bv tr act S w w' [.int .i64 tf, .slice Aa na ca, .bool b, .int .i64 m, .slice AL nl cL, .slice Ac nc cc] q := by
  obtain ⟨hf, h⟩ := h
  rcases h with ⟨n, ho, hn, rfl, hev⟩ | ⟨t, f1, ho, hl, hev, cs, hcs, _, rfl⟩
  · exact ⟨0, none, 0, 0, false, 0, none, 0, 0, none, 0, 0, n, rfl, hf, .inl ⟨n, ho, hn, rfl, hev⟩⟩
  · obtain ⟨Aa, ca, AL, cL, Ac, cc, rfl, h1, h2, h3⟩ := id hcs
    exact ⟨_, Aa, _, ca, _, _, AL, _, cL, Ac, _, cc, 0, rfl, hf, .inr ⟨t, f1, ho, rfl, hl, hev, hcs⟩⟩
theorem CR.bv0 {o : OutT} {A : Option Addr} {cap : Nat} {lib : List Fn1} {bv : Nat} {tr : Bool} {act : Nat} {S : Nat → Prop} {w w' : World} {cs : List Value} {q : Int} (h : CR o A cap lib bv tr act S w w' cs q) : w'.cell? ⟨bv, 0, none⟩ = some (.slice A lib.length cap) := by
  rcases h.2 with ⟨n, _, _, _, F', hev⟩ | ⟨t, f1, _, _, _, hev, _⟩
  · exact hev.cell rfl
  · exact hev.cell rfl
/-- .. and its tree in block P. -/
def CallAt (o : OutT) (A : Option Addr) (cap : Nat) (lib : List Fn1) (bv : Nat) (tr : Bool) (act : Nat) (S : Nat → Prop) (w w' : World) (P : Nat) (cs : List Value) (q : Int) : Prop := CR o A cap lib bv tr act S w w' cs q ∧ w.heap.size ≤ P ∧ Bx w' P cs.toArray
theorem call_new {o : OutT} {A : Option Addr} {cap : Nat} {lib : List Fn1} {bv : Nat} {tr : Bool} {act : Nat} {S X : Nat → Prop} {w0 w w' : World} {cs : List Value} {q : Int} (h : CR o A cap lib bv tr act X w w' cs q) (h0 : Below w0.heap.size w0 w) (hX : ∀ k, S k → X k) (T : TypeId) : CallAt o A cap lib bv tr act S w0 (w'.alloc (Obj.cells cs.toArray T)) w'.heap.size cs q := by
  have hb := below_box w' (Obj.cells cs.toArray T)
  have f := Fr.of_below hb (fun _ => False)
  refine ⟨⟨((Fr.of_below h0 _).trans h.1 (fun _ _ e => e)).trans f (fun _ _ e => e.elim), ?_⟩, Nat.le_trans h0.size h.1.size, bx_new w' cs.toArray T⟩
  rcases h.2 with ⟨n, ho, hn, hq, F', hev⟩ | ⟨t, f1, ho, hq, hl, hev, ht⟩
  · exact .inl ⟨n, ho, hn, hq, F', hev.below hb⟩
  · exact .inr ⟨t, f1, ho, hq, hl, hev.below hb, TrC.le (Le.of_fr f (fun _ _ e => e.elim) fun k _ e => hX k e) _ _ ht⟩
theorem call_set {o : OutT} {A : Option Addr} {cap : Nat} {lib : List Fn1} {bv : Nat} {tr : Bool} {act : Nat} {S X : Nat → Prop} {w0 w w' : World} {a0 a1 a2 a3 a4 a5 : Value} {q : Int} (h : CR o A cap lib bv tr act X w w' [a0, a1, a2, a3, a4, a5] q) (h0 : Below w0.heap.size w0 w) (hX : ∀ k, S k → X k) {P : Nat} {z0 z1 z2 z3 z4 z5 : Value} (hP : Bx w' P #[z0, z1, z2, z3, z4, z5]) (hw : w0.heap.size ≤ P) (hbv : bv < w0.heap.size) (hXP : X P) :
    CallAt o A cap lib bv tr act S w0 ((((((w'.setCell ⟨P, 0, none⟩ a0).setCell ⟨P, 1, none⟩ a1).setCell ⟨P, 2, none⟩ a2).setCell ⟨P, 3, none⟩ a3).setCell ⟨P, 4, none⟩ a4).setCell ⟨P, 5, none⟩ a5) P [a0, a1, a2, a3, a4, a5] q := by
  have f := Fr.set6 w' P a0 a1 a2 a3 a4 a5
  refine ⟨⟨((Fr.of_below h0 _).trans h.1 (fun _ _ e => e)).trans f (fun k hk e => by omega), ?_⟩, hw, hP.set6 a0 a1 a2 a3 a4 a5⟩
  rcases h.2 with ⟨n, ho, hn, hq, F', hev⟩ | ⟨t, f1, ho, hq, hl, hev, ht⟩
  · exact .inl ⟨n, ho, hn, hq, F', hev.fr f (fun e => by omega)⟩
  · exact .inr ⟨t, f1, ho, hq, hl, hev.fr f (fun e => by omega), TrC.le (Le.of_fr f (fun k _ e => by rw [e]; exact hXP) fun k _ e => hX k e) _ _ ht⟩
theorem ar85 {lib : List Fn1} {x : Nd} (h : arT lib x = true) (h85 : x.kind = 85) : ∃ (i : Nat) (fn : Fn1), findF lib x.name 0 = i ∧ lib[i]? = some fn ∧ x.kids.length = fn.params.length := by
  rw [arT_eq, if_pos h85] at h
  have h1 := (Bool.and_eq_true_iff.1 h).1
  have h2 := Bool.and_eq_true_iff.1 h1
  have h3 : 0 ≤ findF lib x.name 0 := by simpa using h2.1
  have h4 : x.kids.length = ((lib[(findF lib x.name 0).toNat]?).map fun f => f.params.length).getD 0 := by simpa using h2.2
  rcases findF_range x.name lib 0 with e | ⟨i, i1, i2, _⟩
  · rw [e] at h3; omega
  have hn : (findF lib x.name 0).toNat = i := by rw [i2]; omega
  rw [hn, List.getElem?_eq_getElem i1] at h4
  exact ⟨i, lib[i], by rw [i2]; omega, List.getElem?_eq_getElem i1, h4⟩

/-- A call's tree is appended. -/
theorem ES.push {W0 : World} {A : Option Addr} {cap : Nat} {lib : List Fn1} {bv bc : Nat} {tr : Bool} {act n bm : Nat} {env : ByteArray → Option Vl} {S : Nat → Prop} {v0 : Value} {w : World} {u0 u1 u2 u3 : Value} {wc : World} {G : Int} {vc : Value} {ts : List Tr} (h : ES W0 A cap lib bv bc tr act n bm env S v0 w u0 u1 u2 u3 wc G vc ts) {css cs6 : List Value} (hr : RowG (TrC wc (Hd S vc)) css ts) {wB w' wF : World} (hB : Below wc.heap.size wc wB) (hg : wB.grownBy w' vc.ownBlock) {v' : Value} (hat : v'.ownBlock = vc.ownBlock ∨ v'.ownBlock = some wB.heap.size)
    (hF : Fr w' wF (fun k => v'.ownBlock = some k ∨ k = bc)) (hbc : Bx wF bc #[v']) (hown : wF.ownsRow (bc + 1) 50 6 v' (ts.length + 1) (css ++ cs6)) {t : Tr} (ht : TrC wc (Hd S vc) cs6 t) : ES W0 A cap lib bv bc tr act n bm env S v0 w u0 u1 u2 u3 wF G v' (ts ++ [t]) := by
  have hbs := hB.size
  have hb := h.bvl
  have hfr : Fr wc wF (Mx bv bc vc) := by
    refine ((Fr.of_below hB _).trans (Fr.of_grown hg) fun k _ e => .inr (.inr e.symm)).trans hF fun k hk e => ?_
    rcases e with e | e
    · rcases hat with e' | e'
      · exact .inr (.inr (e'.symm.trans e))
      · rw [e'] at e; have := Option.some.inj e; omega
    · exact .inr (.inl e)
  have hle : Le wc (Hd S vc) wF (Hd S v') := Le.of_fr hfr (fun k _ e => by
    rcases e with e | e | e
    · rw [e]; exact .inl h.Sv
    · rw [e]; exact .inl h.Sc
    · exact .inr e) fun k hk e => by
    rcases e with e | e
    · exact .inl e
    · rcases hat with e' | e'
      · exact .inr (e'.symm.trans e)
      · rw [e'] at e; have := Option.some.inj e; omega
  refine h.next hfr (((Bx.below h.ev hB).fr (Fr.of_grown hg) (fun e => ?_)).fr hF (fun e => ?_)) ⟨hbc, _, by rw [List.length_append]; exact hown, .snoc (hr.map (TrC.le hle)) (TrC.le hle _ _ ht)⟩ ?_
  · have := (h.cs.own_gt bv e.symm).1; omega
  · rcases e with e | e
    · have := (hown.lt bv e).1; omega
    · omega
  · rcases hat with e' | e'
    · exact .inl e'
    · exact .inr ⟨_, e', hbs⟩
theorem set_in {cs z : List Value} {k : Nat} (h : cs.length = k) (j : Nat) (u : Value) : (cs ++ z).set (k + j) u = cs ++ z.set j u := by
  subst h; rw [List.set_append_right _ _ (by omega)]; congr 1; congr 1; omega
theorem own_set6 {w : World} {base : Nat} {e : TypeId} {g n cap N : Nat} {cs : List Value} {z0 z1 z2 z3 z4 z5 : Value} (h : w.ownsRow base e 6 (.slice (some ⟨g, 0, none⟩) n cap) n (cs ++ [z0, z1, z2, z3, z4, z5])) (hN : cs.length = N * 6) (a0 a1 a2 a3 a4 a5 : Value) :
    ((((((w.setCell ⟨g, N * 6, none⟩ a0).setCell ⟨g, N * 6 + 1, none⟩ a1).setCell ⟨g, N * 6 + 2, none⟩ a2).setCell ⟨g, N * 6 + 3, none⟩ a3).setCell ⟨g, N * 6 + 4, none⟩ a4).setCell ⟨g, N * 6 + 5, none⟩ a5).ownsRow base e 6 (.slice (some ⟨g, 0, none⟩) n cap) n (cs ++ [a0, a1, a2, a3, a4, a5]) := by
  have h0 := (h.stored (N * 6) a0).1
  rw [show N * 6 = N * 6 + 0 from rfl, set_in hN] at h0
  have h1 := (h0.stored (N * 6 + 1) a1).1
  rw [set_in hN] at h1
  have h2 := (h1.stored (N * 6 + 2) a2).1
  rw [set_in hN] at h2
  have h3 := (h2.stored (N * 6 + 3) a3).1
  rw [set_in hN] at h3
  have h4 := (h3.stored (N * 6 + 4) a4).1
  rw [set_in hN] at h4
  have h5 := (h4.stored (N * 6 + 5) a5).1
  rw [set_in hN] at h5
  exact h5
theorem Fr.row6 (w : World) (g k : Nat) (a0 a1 a2 a3 a4 a5 : Value) : Fr w ((((((w.setCell ⟨g, k, none⟩ a0).setCell ⟨g, k + 1, none⟩ a1).setCell ⟨g, k + 2, none⟩ a2).setCell ⟨g, k + 3, none⟩ a3).setCell ⟨g, k + 4, none⟩ a4).setCell ⟨g, k + 5, none⟩ a5) (fun b => b = g) :=
  ((((((Fr.of_set w ⟨g, k, none⟩ a0).trans (Fr.of_set _ ⟨g, k + 1, none⟩ a1) fun _ _ e => e).trans (Fr.of_set _ ⟨g, k + 2, none⟩ a2) fun _ _ e => e).trans (Fr.of_set _ ⟨g, k + 3, none⟩ a3) fun _ _ e => e).trans (Fr.of_set _ ⟨g, k + 4, none⟩ a4) fun _ _ e => e).trans (Fr.of_set _ ⟨g, k + 5, none⟩ a5) fun _ _ e => e)
theorem info_tree : (Try.prog.info? 50).map (fun i => (i.zero, i.size, i.bytes)) = some (some (.agg #[.int .i64 0, .slice none 0 0, .bool false, .int .i64 0, .slice none 0 0, .slice none 0 0]), 6, 96) := by kernel_rfl

/-- The tree is appended, the value lies in block P still. -/
def PushAt (W0 : World) (A : Option Addr) (cap : Nat) (lib : List Fn1) (bv bc : Nat) (tr : Bool) (act n bm : Nat) (env : ByteArray → Option Vl) (S : Nat → Prop) (v0 : Value) (w : World) (u0 u1 u2 u3 : Value) (G : Int) (ts : List Tr) (P : Nat) (cs : Array Value) (AL : Option Addr) (cL : Nat) (l : List Int) (wd : World) : Prop :=
  ∃ v', ES W0 A cap lib bv bc tr act n bm env S v0 w u0 u1 u2 u3 wd G v' ts ∧ Bx wd P cs ∧ IntsC wd (Hd S v') AL cL l
theorem push_at {W0 : World} {A : Option Addr} {cap : Nat} {lib : List Fn1} {bv bc : Nat} {tr : Bool} {act n bm : Nat} {env : ByteArray → Option Vl} {S : Nat → Prop} {v0 : Value} {w : World} {u0 u1 u2 u3 : Value} {wc : World} {G : Int} {vc : Value} {ts : List Tr} (h : ES W0 A cap lib bv bc tr act n bm env S v0 w u0 u1 u2 u3 wc G vc ts) {css cs6 : List Value} (hr : RowG (TrC wc (Hd S vc)) css ts) {wB w' wF : World} (hB : Below wc.heap.size wc wB) (hg : wB.grownBy w' vc.ownBlock) {v' : Value} (hat : v'.ownBlock = vc.ownBlock ∨ v'.ownBlock = some wB.heap.size)
    (hF : Fr w' wF (fun k => v'.ownBlock = some k ∨ k = bc)) (hbc : Bx wF bc #[v']) (hown : wF.ownsRow (bc + 1) 50 6 v' (ts.length + 1) (css ++ cs6)) {t : Tr} (ht : TrC wc (Hd S vc) cs6 t) {P : Nat} {cs : Array Value} (bP : Bx wc P cs) (hP1 : vc.ownBlock ≠ some P) (hP2 : P ≠ bc) {AL : Option Addr} {cL : Nat} {l : List Int} (hi : IntsC wc (Hd S vc) AL cL l) :
    PushAt W0 A cap lib bv bc tr act n bm env S v0 w u0 u1 u2 u3 G (ts ++ [t]) P cs AL cL l wF := by
  have hbs := hB.size
  have hPl := bP.lt
  refine ⟨v', h.push hr hB hg hat hF hbc hown ht, ((bP.below hB).fr (Fr.of_grown hg) (fun e => hP1 e.symm)).fr hF (fun e => ?_), hi.le (Le.of_fr (m := Mx bv bc vc) (((Fr.of_below hB _).trans (Fr.of_grown hg) fun k _ e => .inr (.inr e.symm)).trans hF fun k hk e => ?_) (fun k _ e => ?_) fun k hk e => ?_)⟩
  · rcases e with e | e
    · rcases hat with e' | e'
      · exact hP1 (e'.symm.trans e)
      · rw [e'] at e; have := Option.some.inj e; omega
    · exact hP2 e
  · rcases e with e | e
    · rcases hat with e' | e'
      · exact .inr (.inr (e'.symm.trans e))
      · rw [e'] at e; have := Option.some.inj e; omega
    · exact .inr (.inl e)
  · rcases e with e | e | e
    · rw [e]; exact .inl h.Sv
    · rw [e]; exact .inl h.Sc
    · exact .inr e
  · rcases e with e | e
    · exact .inl e
    · rcases hat with e' | e'
      · exact .inr (e'.symm.trans e)
      · rw [e'] at e; have := Option.some.inj e; omega
/-- The two orders of the stores. -/
theorem row_a {w' : World} {bc g n c N : Nat} {css : List Value} {z0 z1 z2 z3 z4 z5 x0 : Value} (hbc : Bx w' bc #[x0]) (hown : w'.ownsRow (bc + 1) 50 6 (.slice (some ⟨g, 0, none⟩) n c) n (css ++ [z0, z1, z2, z3, z4, z5])) (hN : css.length = N * 6) (hne : g ≠ bc) (a0 a1 a2 a3 a4 a5 : Value) :
    Fr w' (((((((w'.setCell ⟨g, N * 6, none⟩ a0).setCell ⟨g, N * 6 + 1, none⟩ a1).setCell ⟨g, N * 6 + 2, none⟩ a2).setCell ⟨g, N * 6 + 3, none⟩ a3).setCell ⟨g, N * 6 + 4, none⟩ a4).setCell ⟨g, N * 6 + 5, none⟩ a5).setCell ⟨bc, 0, none⟩ (.slice (some ⟨g, 0, none⟩) n c)) (fun k => (Value.slice (some ⟨g, 0, none⟩) n c).ownBlock = some k ∨ k = bc) ∧
    Bx (((((((w'.setCell ⟨g, N * 6, none⟩ a0).setCell ⟨g, N * 6 + 1, none⟩ a1).setCell ⟨g, N * 6 + 2, none⟩ a2).setCell ⟨g, N * 6 + 3, none⟩ a3).setCell ⟨g, N * 6 + 4, none⟩ a4).setCell ⟨g, N * 6 + 5, none⟩ a5).setCell ⟨bc, 0, none⟩ (.slice (some ⟨g, 0, none⟩) n c)) bc #[.slice (some ⟨g, 0, none⟩) n c] ∧
    (((((((w'.setCell ⟨g, N * 6, none⟩ a0).setCell ⟨g, N * 6 + 1, none⟩ a1).setCell ⟨g, N * 6 + 2, none⟩ a2).setCell ⟨g, N * 6 + 3, none⟩ a3).setCell ⟨g, N * 6 + 4, none⟩ a4).setCell ⟨g, N * 6 + 5, none⟩ a5).setCell ⟨bc, 0, none⟩ (.slice (some ⟨g, 0, none⟩) n c)).ownsRow (bc + 1) 50 6 (.slice (some ⟨g, 0, none⟩) n c) n (css ++ [a0, a1, a2, a3, a4, a5]) := by
  have f := Fr.row6 w' g (N * 6) a0 a1 a2 a3 a4 a5
  have o := own_set6 hown hN a0 a1 a2 a3 a4 a5
  have b := hbc.fr f (fun e => hne e.symm)
  generalize World.setCell _ _ _ = W1 at f o b ⊢
  exact ⟨(f.mono fun k _ e => .inl (by rw [e]; rfl)).trans (Fr.of_set _ _ _) fun _ _ e => .inr e, b.set 0 _, ownsRow_setCell_other o (fun e => hne (by injection e)) _⟩
theorem row_b {w' : World} {bc g n c N : Nat} {css : List Value} {z0 z1 z2 z3 z4 z5 x0 : Value} (hbc : Bx w' bc #[x0]) (hown : w'.ownsRow (bc + 1) 50 6 (.slice (some ⟨g, 0, none⟩) n c) n (css ++ [z0, z1, z2, z3, z4, z5])) (hN : css.length = N * 6) (hne : g ≠ bc) (a0 a1 a2 a3 a4 a5 : Value) :
    Fr w' (((((((w'.setCell ⟨bc, 0, none⟩ (.slice (some ⟨g, 0, none⟩) n c)).setCell ⟨g, N * 6, none⟩ a0).setCell ⟨g, N * 6 + 1, none⟩ a1).setCell ⟨g, N * 6 + 2, none⟩ a2).setCell ⟨g, N * 6 + 3, none⟩ a3).setCell ⟨g, N * 6 + 4, none⟩ a4).setCell ⟨g, N * 6 + 5, none⟩ a5) (fun k => (Value.slice (some ⟨g, 0, none⟩) n c).ownBlock = some k ∨ k = bc) ∧
    Bx (((((((w'.setCell ⟨bc, 0, none⟩ (.slice (some ⟨g, 0, none⟩) n c)).setCell ⟨g, N * 6, none⟩ a0).setCell ⟨g, N * 6 + 1, none⟩ a1).setCell ⟨g, N * 6 + 2, none⟩ a2).setCell ⟨g, N * 6 + 3, none⟩ a3).setCell ⟨g, N * 6 + 4, none⟩ a4).setCell ⟨g, N * 6 + 5, none⟩ a5) bc #[.slice (some ⟨g, 0, none⟩) n c] ∧
    (((((((w'.setCell ⟨bc, 0, none⟩ (.slice (some ⟨g, 0, none⟩) n c)).setCell ⟨g, N * 6, none⟩ a0).setCell ⟨g, N * 6 + 1, none⟩ a1).setCell ⟨g, N * 6 + 2, none⟩ a2).setCell ⟨g, N * 6 + 3, none⟩ a3).setCell ⟨g, N * 6 + 4, none⟩ a4).setCell ⟨g, N * 6 + 5, none⟩ a5).ownsRow (bc + 1) 50 6 (.slice (some ⟨g, 0, none⟩) n c) n (css ++ [a0, a1, a2, a3, a4, a5]) := by
  have f0 := Fr.of_set w' ⟨bc, 0, none⟩ (.slice (some ⟨g, 0, none⟩) n c)
  have o0 := ownsRow_setCell_other hown (a := ⟨bc, 0, none⟩) (fun e => hne (by injection e)) (.slice (some ⟨g, 0, none⟩) n c)
  have b0 := hbc.set 0 (.slice (some ⟨g, 0, none⟩) n c)
  generalize World.setCell _ _ _ = W1 at f0 o0 b0 ⊢
  have f := Fr.row6 W1 g (N * 6) a0 a1 a2 a3 a4 a5
  exact ⟨(f0.mono fun k _ e => .inr e).trans f (fun k _ e => .inl (by rw [e]; rfl)), Bx.fr b0 f (fun e => hne e.symm), own_set6 o0 hN a0 a1 a2 a3 a4 a5⟩

theorem z6_one : ∀ u ∈ ([.int .i64 0, .slice none 0 0, .bool false, .int .i64 0, .slice none 0 0, .slice none 0 0] : List Value), u.oneCell' = true := by
  intro u hu
  simp at hu
  rcases hu with h | h | h | h | h <;> subst h <;> rfl
theorem row_cells {w : World} {base : Nat} {e : TypeId} {g n cap N : Nat} {cs : List Value} {z0 z1 z2 z3 z4 z5 : Value} (h : w.ownsRow base e 6 (.slice (some ⟨g, 0, none⟩) n cap) n (cs ++ [z0, z1, z2, z3, z4, z5])) (hN : cs.length = N * 6) (hn : n = N + 1) : (w.cell? ⟨g, N * 6, none⟩ = some z0 ∧ w.cell? ⟨g, N * 6 + 1, none⟩ = some z1 ∧ w.cell? ⟨g, N * 6 + 2, none⟩ = some z2 ∧ w.cell? ⟨g, N * 6 + 3, none⟩ = some z3 ∧ w.cell? ⟨g, N * 6 + 4, none⟩ = some z4 ∧ w.cell? ⟨g, N * 6 + 5, none⟩ = some z5) ∧ w.frozen? ⟨g, N * 6, none⟩ = false ∧ w.frozen? ⟨g, N * 6 + 1, none⟩ = false ∧ w.frozen? ⟨g, N * 6 + 2, none⟩ = false ∧ w.frozen? ⟨g, N * 6 + 3, none⟩ = false ∧ w.frozen? ⟨g, N * 6 + 4, none⟩ = false ∧ w.frozen? ⟨g, N * 6 + 5, none⟩ = false := by
  have c : ∀ j, j < 6 → w.cell? ⟨g, N * 6 + j, none⟩ = [z0, z1, z2, z3, z4, z5][j]? := fun j hj => by
    rw [h.cellAt (N * 6 + j) (by omega), List.getElem?_append_right (by omega), hN]
    congr 1; omega
  exact ⟨⟨c 0 (by omega), c 1 (by omega), c 2 (by omega), c 3 (by omega), c 4 (by omega), c 5 (by omega)⟩, h.frozenAt _, h.frozenAt _, h.frozenAt _, h.frozenAt _, h.frozenAt _, h.frozenAt _⟩
theorem trC_res {w : World} {X : Nat → Prop} {tf : Int} {Aa : Option Addr} {na ca : Nat} {b : Bool} {m : Int} {AL : Option Addr} {nl cL : Nat} {Ac : Option Addr} {nc cc : Nat} {tr : Bool} {t : Tr} (h : TrC w X [.int .i64 tf, .slice Aa na ca, .bool b, .int .i64 m, .slice AL nl cL, .slice Ac nc cc] (trT tr t)) : b = t.res.list ∧ m = t.res.n ∧ nl = t.res.l.length ∧ IntsC w X AL cL t.res.l := by
  have hres : (trT tr t).res = t.res := by cases tr <;> rfl
  obtain ⟨Aa', ca', AL', cL', Ac', cc', ecs, _, h2, _⟩ := h
  rw [hres] at ecs h2
  generalize t.res = r at *
  simp at ecs
  obtain ⟨_, _, rfl, rfl, ⟨rfl, rfl, rfl⟩, _⟩ := ecs
  exact ⟨rfl, rfl, rfl, h2⟩
theorem kids_le : ∀ l : List Nd, l.length ≤ sizeTL l
  | [] => by simp
  | x :: r => by
    have h1 := kids_le r
    have h2 := sizeT_eq x
    rw [sizeTL, List.length_cons]; omega

set_option maxRecDepth 100000 in
set_option maxHeartbeats 4000000 in
theorem expr_op {W0 : World} {A : Option Addr} {cap : Nat} {lib : List Fn1} {bv : Nat} {tr : Bool} {d : Nat} {x : Nd} {Ak : Option Addr} {F : Int} {act n bm bc : Nat} {env : ByteArray → Option Vl} {S : Nat → Prop} {v : Value} {ts : List Tr} {w : World} (h : EPre W0 A cap lib bv tr (d + 1) x Ak F act n bm bc env S v ts w) (ck : Nat) (hF : 0 < F) (hE : ExprC W0 A cap lib bv tr d) (hL : LibX W0 A lib) (h80 : x.kind ≠ 80) (h81 : x.kind ≠ 81) (h83 : x.kind ≠ 83) (h84 : x.kind ≠ 84) :
    Calls Try.prog 28 #[.pointer (some ⟨bv, 0, none⟩), .agg #[.int .u8 x.kind, .int .i64 x.num, .string x.name, .slice Ak x.kids.length ck], .map (some bm), .pointer (some ⟨bc, 0, none⟩)] w
      (RetE (ev apR lib (d + 1) act env x F.toNat) A cap lib bv bc tr act S v ts w) := by
  have HEV := Lib.hid (ev_op (lib := lib) (d := d) (act := act) (env := env) (by omega : 0 < F.toNat) h80 h81 h83 h84)
  obtain ⟨v0, v1, v2, v3, z0, z1, z2, z3⟩ := h.ev.four
  have hlv : bv < w.heap.size := h.ev.lt
  have hes := Lib.hid (h.start (.int .u8 x.kind) (.int .i64 x.num) (.string x.name) (.slice Ak x.kids.length ck) 41 28)
  have hF0 : decide (F ≤ 0) = false := by simp; omega
  have hFu : F ≤ 1000000 := by have := h.tn; omega
  obtain ⟨hf1, hf2, hf3, hf4⟩ := h.fit.facts
  have HP := Lib.hid h
  clear h
  have k80 : ((x.kind : Int) == 80) = false := beqK (n := 80) h80
  have k81 : ((x.kind : Int) == 81) = false := beqK (n := 81) h81
  have k83 : ((x.kind : Int) == 83) = false := beqK (n := 83) h83
  have k84 : ((x.kind : Int) == 84) = false := beqK (n := 84) h84
  have hFe : F.toNat - 1 = (F - 1).toNat := by omega
  rw [hFe] at HEV
  have hG1 : (F - 1).toNat ≤ d := by have := HP.out.fuel; omega
  have hG2 : n + (F - 1).toNat ≤ 1000000 := by have := HP.out.en; omega
  have hG3 : ts.length + (F - 1).toNat ≤ 900000 := by have := HP.out.tn; omega
  have hac := HP.out.act30
  clear hFe
  have HK := Lib.hid (And.intro h80 (And.intro h81 (And.intro h83 h84)))
  clear h80 h81 h83 h84
  obtain ⟨j0, hj0, hk0, hk1, hk2⟩ := info_parts info_val
  have HJ := Lib.hid (And.intro hj0 (And.intro hk0 (And.intro hk1 hk2)))
  have hsz := HP.out.size
  have hsl := sizeT_eq x
  have hkl : x.kids.length ≤ 500000 := by have := kids_le x.kids; omega
  clear hj0 hk0 hk1 hk2 hsl hsz
  go_enter Try.func28, Try.ntmps28
  go_wp2_with fail
  clear v0 v1 v2 v3 z0 z1 z2 z3 k80 k81 k83 k84 hF0
  generalize World.alloc _ _ = W at hes ⊢
  obtain ⟨f0, hf0⟩ : ∃ f0 : Nat, F - 1 = f0 := ⟨(F - 1).toNat, by omega⟩
  rw [hf0] at hes
  rw [hf0, Int.toNat_natCast] at HEV hG1 hG2 hG3
  have li0 := Lib.hid (show LI W0 A cap lib bv bc tr act n bm env (fun k => S k ∨ k = w.heap.size + 1) v w (.int .u8 x.kind) (.int .i64 x.num) (.string x.name) (.slice Ak x.kids.length ck) W f0 v (ts ++ trC tr []) (.slice none 0 0) [] from ⟨by
    have := hes.out.less (S' := SL (fun k => S k ∨ k = w.heap.size + 1) (.slice none 0 0)) (fun k e => e.elim id fun e => by cases e) (.inl hes.out.Sv) (.inl hes.out.Sc)
    simpa [trC] using this, ⟨[], ⟨rfl, .inl ⟨rfl, rfl⟩⟩, .nil⟩, (fun g hg => by cases hg), by simp, hes.out.Sv, hes.out.Sc, fun k e => by
      rcases e with e | e
      · have := HP.out.Sl k e; omega
      · omega⟩)
  clear hf0 hes
  go_loopw [15, 124] (fun l i wr => ∃ (k : Nat) (vs : List Vl) (f1 : Nat) (vc : Value) (c : List Tr), k ≤ x.kids.length ∧ i = .int .i64 k ∧ Hid (evL (ev apR lib d act env) (x.kids.take k) f0 = .ok vs f1 c) ∧ Hid (LI W0 A cap lib bv bc tr act n bm env (fun k => S k ∨ k = w.heap.size + 1) v w (.int .u8 x.kind) (.int .i64 x.num) (.string x.name) (.slice Ak x.kids.length ck) wr f1 vc (ts ++ trC tr c) l vs)) (fun _ i _ => x.kids.length - (intOf i).toNat)
  case atStart => exact ⟨0, [], f0, v, [], by omega, rfl, (by rw [List.take_zero, evL] : evL (ev apR lib d act env) (x.kids.take 0) f0 = .ok [] f0 []), li0⟩
  case round =>
    obtain ⟨k, vs, f1, vc, c, hk, rfl, hev, li⟩ := hrel
    have hsp := evL_sp hev.out
    have hvl := Lib.hid (evL_len hev.out)
    by_cases hin : k < x.kids.length
    · obtain ⟨kb, ko, Ay, cy, rfl, kl, c0, c1, c2, c3, hks⟩ := HP.out.kids.kid hin
      have hget : x.kids[k]? = some x.kids[k] := List.getElem?_eq_getElem hin
      have hkp := Lib.hid (epre_kid HP.out hget)
      have hfk := HP.out.fit.kid hget
      have HSN := Lib.hid (evL_snoc (ev apR lib d act env) (x.kids.take k) x.kids[k] f0 hev.out)
      have HTK := Lib.hid (List.take_succ_eq_append_getElem hin)
      generalize x.kids[k] = y at *
      have d0 := below_cell li.out.es.hb c0
      have d1 := below_cell li.out.es.hb c1
      have d2 := below_cell li.out.es.hb c2
      have d3 := below_cell li.out.es.hb c3
      have hlt : kb < wr.heap.size := block_lt_of_cell d0
      have bb := below_box wr (Obj.cells #[.int .u8 y.kind, .int .i64 y.num, .string y.name, .slice Ay y.kids.length cy] 41)
      have li1 := Lib.hid (li.out.below bb)
      clear c0 c1 c2 c3 hget bb
      go_wp2_with fail
      clear d0 d1 d2 d3
      generalize wr.alloc _ = W1 at li1 ⊢
      have htl : (trC tr c).length ≤ c.length := by cases tr <;> simp [trC]
      refine (es_kidC hE li1.out.es hks hfk hkp.out.1 hkp.out.2.1 hkp.out.2.2 li1.out.es.env (by rw [Int.toNat_natCast]; omega) (by rw [Int.toNat_natCast]; omega) (by rw [Int.toNat_natCast, List.length_append]; omega) hac).mono ?_
      rintro e w4 ⟨hf4, h4⟩
      have rb4 := li1.out.es.rb.fr hf4 li1.out.es.mx.1.2
      have hrl := rb4.lt
      rcases h4 with ⟨q, ho, hq0, ⟨b, m, A', k', c', rfl⟩, F', ev4⟩ | ⟨t, f2, c2, ho, A', c', v', rfl, hyl, hi, ev4, cs4, hat⟩
      · have hq1 : (q != 0) = true := by simpa using hq0
        rw [Int.toNat_natCast] at ho
        have HST := Lib.hid (show evL (ev apR lib d act env) x.kids f0 = .err q by
          have h1 : evL (ev apR lib d act env) (x.kids.take (k + 1)) f0 = .err q := by rw [HTK.out, HSN.out, ho]
          have h2 := evL_stop (ev apR lib d act env) (x.kids.take (k + 1)) (x.kids.drop (k + 1)) f0 h1
          rwa [List.take_append_drop] at h2)
        have RF1 := Lib.hid (((li1.out.es.less (S' := fun k => S k ∨ k = w.heap.size + 1) (fun k e => .inl e) li.out.Sv li.out.Sc)).fail (ts := ts) hf4 ev4 hq0 (HEV.out.trans (by rw [HST.out]; rfl)) false 0 none 0 0)
        obtain ⟨y0', y1', y2', x0, x1, x2⟩ := rb4.three
        have rb5 := rb4.set3 (.bool false) (.int .i64 0) (.slice none 0 0)
        clear ho HEV HSN HTK hev
        go_wp2_with fail
        generalize World.setCell _ _ _ = W5 at RF1 rb5 ⊢
        have bb := below_box W5 (Obj.cells #[.bool b, .int .i64 m, .slice A' k' c'] 28)
        have RF := RF1.out.below bb
        have rb6 := rb5.below bb
        generalize World.alloc _ _ = W6 at RF rb6 ⊢
        obtain ⟨s0, s1, s2, _⟩ := rb6.three
        exact bodyPost_ret (v := .tuple #[.agg #[.bool false, .int .i64 0, .slice none 0 0], .int .i64 q]) (by simp [results, Try.results28, go_sem, s0, s1, s2]) rfl RF
      · rw [Int.toNat_natCast] at ho
        have HST := Lib.hid (show evL (ev apR lib d act env) (x.kids.take (k + 1)) f0 = .ok (vs ++ [t]) f2 (c ++ c2) by rw [HTK.out, HSN.out, ho])
        have li4 := li1.out.next hf4 ev4 cs4 hat
        rw [List.append_assoc, ← trC_append] at li4
        have bb := two_box w4 (Obj.cells #[.bool t.list, .int .i64 t.n, .slice A' t.l.length c'] 28) (Obj.cells #[.bool t.list, .int .i64 t.n, .slice A' t.l.length c'] 28)
        have li6 := Lib.hid (li4.below bb)
        have hi6 := Lib.hid (hi.le (X' := Hd (SL (fun k => S k ∨ k = w.heap.size + 1) u15) v') (Le.of_fr (Fr.of_below bb (fun _ => False)) (fun _ _ e => e.elim) fun _ _ e => e))
        obtain ⟨cs6, ow6, rr6⟩ := li6.out.row
        have OW6 := Lib.hid ow6
        have RR6 := Lib.hid rr6
        have ON6 := Lib.hid (VlC.one _ t (VlC.mk hi))
        have hvk : vs.length ≤ 500000 := by rw [hvl.out]; simp; omega
        have hlt6 : w.heap.size + 2 ≤ w4.heap.size := by omega
        clear li4 bb hi ev4 cs4 hat hf4 HSN HTK ho hev ow6 rr6
        go_wp2_with (at_builtin; go_loud (refine wpList_app _ rfl _ _ 23 rfl (w.heap.size + 2) 28 j0 (.agg #[.bool false, .int .i64 0, .slice none 0 0]) 3 40 Try.underlying23 HJ.out.1 HJ.out.2.1 HJ.out.2.2.1 HJ.out.2.2.2 rfl (by decide) _ vs.length cs6 rfl OW6.out (some ⟨w4.heap.size + 1, 0, none⟩) 1 1 [.bool t.list, .int .i64 t.n, .slice A' t.l.length c'] rfl rfl (by have := cells_new (w4.alloc (Obj.cells #[.bool t.list, .int .i64 t.n, .slice A' t.l.length c'] 28)) [.bool t.list, .int .i64 t.n, .slice A' t.l.length c'] 28; simpa using this) ON6.out (by unfold maxLen; omega) (by omega) (by simp; omega) ?_; intro lv' w7 hown7 hgrow7 hat7; have NX := Lib.hid (li6.out.push RR6.out hi6.out hyl hgrow7 hat7 hown7); clear hown7 hgrow7 hat7))
        exact ⟨⟨k + 1, _, _, _, _, by omega, by go_num, HST, NX⟩, by simp [intOf]; omega⟩
    · obtain rfl : k = x.kids.length := by omega
      rw [List.take_length] at hev hvl
      obtain ⟨Al, cl, rfl, hV, es⟩ := li.out.slice
      have HLEN := Lib.hid li.out.len
      have HES := Lib.hid es
      have HV := Lib.hid hV
      obtain ⟨n0, n1, n2, n3, _⟩ := es.nb.four
      have hnl := es.nb.lt
      clear es hV li li0
      by_cases h85 : x.kind = 85
      · have k85 : ((x.kind : Int) != 85) = false := by rw [h85]; rfl
        obtain ⟨fi, fn, hfi, hfn, hfl⟩ := ar85 HP.out.ar h85
        have HCA := Lib.hid (HEV.out.trans (show _ = ((enter lib (ev apR lib d) act fi vs f1).out).pre c by rw [hev.out]; show Out.pre c _ = _; dsimp only; rw [if_pos h85, hfi]))
        have hXl : ∀ k, Hd (fun k => S k ∨ k = w.heap.size + 1) vc k → k < wr.heap.size := fun k e => e.elim (HES.out.Sl k) fun e => (HES.out.cs.own_gt k e).2
        have hbvw : bv < wr.heap.size := HES.out.ev.lt
        have hvb : W0.heap.size ≤ bv := HES.out.bvl.1
        have KC := Lib.hid (fun (Y : World) (hY : Below wr.heap.size wr Y) => call_of W0 A cap lib hL bv tr d hE fi fn vs Al cl f1 act (fun k => Hd (fun k => S k ∨ k = w.heap.size + 1) vc k ∨ (wr.heap.size ≤ k ∧ k < Y.heap.size)) Y hfn (hvl.out.trans hfl) (HV.out.le (Le.of_fr (Fr.of_below hY (fun _ => False)) (fun _ _ e => e.elim) fun k hk e => by
          rcases e with e | e
          · exact e
          · omega)) HLEN.out (below_step HES.out.hb HES.out.hb.size hY) hvb (HES.out.ev.below hY) (.inl (.inl HES.out.Sv)) (fun k e => by
          have := hY.size
          rcases e with e | e
          · have := hXl k e; omega
          · exact e.2) (by rw [Int.toNat_natCast]; omega) (by rw [Int.toNat_natCast]; omega) hac)
        have KF := Lib.hid (fun (Y : World) (hY : Below wr.heap.size wr Y) => find_any lib A cap x.name Y (hL.at_.mono (below_step HES.out.hb HES.out.hb.size hY)) hL.fit.1)
        have KS := Lib.hid (fun (Y : World) (hY : Below wr.heap.size wr Y) => show Y.cell? ⟨bv, 0, none⟩ = some (.slice A lib.length cap) ∧ Y.cell? ⟨w.heap.size, 2, none⟩ = some (.string x.name) from ⟨(HES.out.ev.below hY).cell rfl, (HES.out.nb.below hY).cell rfl⟩)
        rw [hfi] at KF
        have hbP := Below.refl wr.heap.size wr
        have e0 : wr.cell? ⟨bv, 0, none⟩ = some (.slice A lib.length cap) := HES.out.ev.cell rfl
        have hnb : w.heap.size ≠ bv := by have := HES.out.bvl; omega
        clear h85 HEV hev hXl HV hE hfi hfl hfn
        go_wp2_with fail
        go_cut [20, 21] (fun p q wc => ∃ (P : Nat) (tf : Int) (Aa : Option Addr) (na ca : Nat) (b : Bool) (m : Int) (AL : Option Addr) (nl cL : Nat) (Ac : Option Addr) (nc cc : Nat) (qq : Int), p = .pointer (some ⟨P, 0, none⟩) ∧ q = .int .i64 qq ∧ Hid (CallAt (enter lib (ev apR lib d) act fi vs f1) A cap lib bv tr act (Hd (fun k => S k ∨ k = w.heap.size + 1) vc) wr wc P [.int .i64 tf, .slice Aa na ca, .bool b, .int .i64 m, .slice AL nl cL, .slice Ac nc cc] qq))
        case first =>
          go_region_held3 (fun w' => w'.cell? ⟨bv, 0, none⟩ = some (.slice A lib.length cap) ∧ w'.cell? ⟨w.heap.size, 2, none⟩ = some (.string x.name))
            (first | (with_reducible exact S6.out) | (with_reducible exact S7.out) | (with_reducible exact S8.out) | (with_reducible exact S9.out) | (refine KS.out _ ?_; (repeat first | exact hbP | refine belowDrawn ?_ | refine Below.alloc ?_ (by first | exact Nat.le_refl _ | exact hbP.size | simp) _); done))
            (first | (go_at_call 22; refine (KF.out _ ?_).mono ?_; (repeat first | exact hbP | refine belowDrawn ?_ | refine Below.alloc ?_ (by first | exact Nat.le_refl _ | exact hbP.size | simp) _); rintro e w5 ⟨rfl, hb5⟩; have hbQ := hbP; clear hbP; have hbP : Below wr.heap.size wr w5 := below_step (by (repeat first | exact hbQ | refine belowDrawn ?_ | refine Below.alloc ?_ (by first | exact Nat.le_refl _ | exact hbQ.size | simp) _)) (by simp) hb5) | (go_at_call 23; refine (KC.out _ ?_).mono ?_; (repeat first | exact hbP | refine belowDrawn ?_ | refine Below.alloc ?_ (by first | exact Nat.le_refl _ | exact hbP.size | simp) _); rintro e w6 hr; obtain ⟨tf, Aa, na, ca, b, m, AL, nl, cL, Ac, nc, cc, qq, rfl, hcr⟩ := hr.form; clear hr; have hFF : Fr wr w6 (fun k => k = bv) := (Fr.of_below (by (repeat first | exact hbP | refine belowDrawn ?_ | refine Below.alloc ?_ (by first | exact Nat.le_refl _ | exact hbP.size | simp) _)) _).trans hcr.1 (fun _ _ e => e); have S6 := Lib.hid (And.intro hcr.bv0 (show w6.cell? ⟨w.heap.size, 2, none⟩ = some (.string x.name) from (HES.out.nb.fr hFF hnb).cell rfl)); have hs6 := hFF.size; have S8 := Lib.hid (And.intro (below_cell (below_box w6 (Obj.cells #[.int .i64 tf, .slice Aa na ca, .bool b, .int .i64 m, .slice AL nl cL, .slice Ac nc cc] 50)) S6.out.1) (below_cell (below_box w6 (Obj.cells #[.int .i64 tf, .slice Aa na ca, .bool b, .int .i64 m, .slice AL nl cL, .slice Ac nc cc] 50)) S6.out.2)); have S9 := Lib.hid (And.intro (below_cell (below_box w6 (Obj.cells #[.int .i64 0, .slice none 0 0, .bool false, .int .i64 0, .slice none 0 0, .slice none 0 0] 50)) S6.out.1) (below_cell (below_box w6 (Obj.cells #[.int .i64 0, .slice none 0 0, .bool false, .int .i64 0, .slice none 0 0, .slice none 0 0] 50)) S6.out.2)); (first | (have bP : Bx w6 wr.heap.size #[.int .i64 0, .slice none 0 0, .bool false, .int .i64 0, .slice none 0 0, .slice none 0 0] := ((show Bx (wr.alloc (Obj.cells #[.int .i64 0, .slice none 0 0, .bool false, .int .i64 0, .slice none 0 0, .slice none 0 0] 50)).drew wr.heap.size #[.int .i64 0, .slice none 0 0, .bool false, .int .i64 0, .slice none 0 0, .slice none 0 0] from bx_new wr _ _).below hb5).fr hcr.1 (fun e => (by have : wr.heap.size = bv := e; omega)); obtain ⟨⟨p0, p1, p2, p3, p4, p5⟩, g0, g1, g2, g3, g4, g5⟩ := bP.six; have hPl := bP.lt; have S7 := Lib.hid (And.intro ((Fr.set6 w6 wr.heap.size (.int .i64 tf) (.slice Aa na ca) (.bool b) (.int .i64 m) (.slice AL nl cL) (.slice Ac nc cc)).cell S6.out.1 (show ¬ bv = wr.heap.size by omega)) ((Fr.set6 w6 wr.heap.size (.int .i64 tf) (.slice Aa na ca) (.bool b) (.int .i64 m) (.slice AL nl cL) (.slice Ac nc cc)).cell S6.out.2 (show ¬ w.heap.size = wr.heap.size by omega))); have CA := Lib.hid (call_set (S := Hd (fun k => S k ∨ k = w.heap.size + 1) vc) hcr hbP (fun k e => .inl e) bP (Nat.le_refl _) hbvw (.inr ⟨Nat.le_refl _, (by have := hb5.size; simp at this; omega)⟩))) | (have bP : Bx w6 w5.heap.size #[.int .i64 0, .slice none 0 0, .bool false, .int .i64 0, .slice none 0 0, .slice none 0 0] := (bx_new w5 _ 50).fr hcr.1 (fun e => (by have : w5.heap.size = bv := e; have := hbP.size; omega)); obtain ⟨⟨p0, p1, p2, p3, p4, p5⟩, g0, g1, g2, g3, g4, g5⟩ := bP.six; have hPl := bP.lt; have hP5 := hbP.size; have S7 := Lib.hid (And.intro ((Fr.set6 w6 w5.heap.size (.int .i64 tf) (.slice Aa na ca) (.bool b) (.int .i64 m) (.slice AL nl cL) (.slice Ac nc cc)).cell S6.out.1 (show ¬ bv = w5.heap.size by omega)) ((Fr.set6 w6 w5.heap.size (.int .i64 tf) (.slice Aa na ca) (.bool b) (.int .i64 m) (.slice AL nl cL) (.slice Ac nc cc)).cell S6.out.2 (show ¬ w.heap.size = w5.heap.size by omega))); have CA := Lib.hid (call_set (S := Hd (fun k => S k ∨ k = w.heap.size + 1) vc) hcr (hbP.alloc hbP.size _) (fun k e => .inl e) bP hbP.size hbvw (.inr ⟨hbP.size, (by simp)⟩))) | (have CA := Lib.hid (call_new (S := Hd (fun k => S k ∨ k = w.heap.size + 1) vc) hcr hbP (fun k e => .inl e) 50))); clear hcr hFF) | fail)
          all_goals
            go_wp2_with fail
            go_meet
            exact ⟨_, tf, Aa, na, ca, b, m, AL, nl, cL, Ac, nc, cc, qq, rfl, rfl, CA⟩
        case rest =>
          obtain ⟨P, tf, Aa, na, ca, b, m, AL, nl, cL, Ac, nc, cc, qq, rfl, rfl, hca⟩ := hcut
          obtain ⟨⟨hf5, hcr⟩, hPw, bxP⟩ := hca.out
          have hlt := HES.out.lt
          have hb5 := HES.out.bvl
          obtain ⟨⟨p0, p1, p2, p3, p4, p5⟩, _⟩ := bxP.six
          rcases hcr with ⟨q, ho, hq0, rfl, F', ev5⟩ | ⟨t, f2, ho, rfl, htl, ev5, htc⟩
          · have hq1 : (qq != 0) = true := by simpa using hq0
            have hf6 : Fr wr wc (Mx bv bc vc) := hf5.mono fun k _ e => .inl e
            have rb4 := HES.out.rb.fr hf6 HES.out.mx.1.2
            have RF := HES.out.fail (ts := ts) hf6 ev5 hq0 (HCA.out.trans (by rw [ho]; rfl)) false 0 none 0 0
            obtain ⟨y0', y1', y2', x0, x1, x2⟩ := rb4.three
            have rb5 := rb4.set3 (.bool false) (.int .i64 0) (.slice none 0 0)
            clear HCA ho KC KF KS hca
            go_wp2_with fail
            generalize World.setCell _ _ _ = W5 at RF rb5 ⊢
            obtain ⟨s0, s1, s2, _⟩ := rb5.three
            exact bodyPost_ret (v := .tuple #[.agg #[.bool false, .int .i64 0, .slice none 0 0], .int .i64 qq]) (by simp [results, Try.results28, go_sem, s0, s1, s2]) rfl RF
          · have HCO := Lib.hid (HCA.out.trans (show _ = Out.ok t.res f2 (c ++ [t]) by rw [ho]; rfl))
            have es5 := HES.out.next (hf5.mono fun k _ e => .inl e) ev5 (HES.out.cs.fr hf5 (fun e => by omega) (fun g hg e => by have := (HES.out.cs.own_gt g hg).1; omega) (fun k _ e => by rw [e]; exact .inl HES.out.Sv) (fun _ _ e => e)) (.inl rfl)
            obtain ⟨hb1, hb2, hb3, ht2⟩ := trC_res htc
            obtain ⟨ev0, ev1, ev2, ev3, _⟩ := ev5.four
            have rb5 := es5.rb
            have hrl := rb5.lt
            clear HCA ho KC KF KS hca
            cases tr with
            | false =>
              subst hb1
              subst hb2
              subst hb3
              have RF := es5.done (c0 := c ++ [t]) ht2 htl rfl HCO.out
              obtain ⟨y0', y1', y2', x0, x1, x2⟩ := rb5.three
              generalize t.res = r at *
              have rb6 := rb5.set3 (.bool r.list) (.int .i64 r.n) (.slice AL r.l.length cL)
              clear es5 HCO HES htc ht2
              go_wp2_with fail
              generalize World.setCell _ _ _ = W6 at RF rb6 ⊢
              obtain ⟨s0, s1, s2, _⟩ := rb6.three
              exact bodyPost_ret (v := .tuple #[.agg #[.bool r.list, .int .i64 r.n, .slice AL r.l.length cL], .int .i64 0]) (by simp [results, Try.results28, go_sem, s0, s1, s2]) rfl RF
            | true =>
              subst hb1
              subst hb2
              subst hb3
              have es5 : ES W0 A cap lib bv bc true act n bm env (fun k => S k ∨ k = w.heap.size + 1) v w (.int .u8 x.kind) (.int .i64 x.num) (.string x.name) (.slice Ak x.kids.length ck) wc f2 vc (ts ++ c) := es5
              have htc : TrC wc (Hd (fun k => S k ∨ k = w.heap.size + 1) vc) [.int .i64 tf, .slice Aa na ca, .bool t.res.list, .int .i64 t.res.n, .slice AL t.res.l.length cL, .slice Ac nc cc] t := htc
              obtain ⟨csb, css, cso, csr⟩ := es5.cs
              have hown := (es5.cs.own_gt)
              obtain ⟨Av, cv, hvv, hvc, _⟩ := own_formB cso
              have hN9 : (ts ++ c).length ≤ 900000 := by rw [List.length_append]; omega
              have hP1 : vc.ownBlock ≠ some P := fun e => by have := (HES.out.cs.own_gt P e).2; omega
              have hP2 : P ≠ bc := by omega
              have hcsl : css.length = (ts ++ c).length * 6 := csr.len TrC.len
              have htsc : ts ++ (c ++ [t]) = (ts ++ c) ++ [t] := (List.append_assoc _ _ _).symm
              subst hvv
              have ES5 := Lib.hid es5
              have CSR := Lib.hid csr
              have HTC := Lib.hid htc
              have HT2 := Lib.hid ht2
              have HP1 := Lib.hid hP1
              have HTS := Lib.hid htsc
              obtain ⟨i0, hi0, hz0, hz1, hz2⟩ := info_parts info_tree
              have HI := Lib.hid (And.intro hi0 (And.intro hz0 (And.intro hz1 hz2)))
              have hbz := below_box wc (Obj.cells #[.int .i64 0, .slice none 0 0, .bool false, .int .i64 0, .slice none 0 0, .slice none 0 0] 50)
              have OWB := Lib.hid (show (wc.alloc (Obj.cells #[.int .i64 0, .slice none 0 0, .bool false, .int .i64 0, .slice none 0 0, .slice none 0 0] 50)).drew.ownsRow (bc + 1) 50 6 (.slice Av (ts ++ c).length cv) (ts ++ c).length css from own_below cso (belowDrawn hbz))
              have CNW := Lib.hid (show CellsAt (wc.alloc (Obj.cells #[.int .i64 0, .slice none 0 0, .bool false, .int .i64 0, .slice none 0 0, .slice none 0 0] 50)).drew (some ⟨wc.heap.size, 0, none⟩) [.int .i64 0, .slice none 0 0, .bool false, .int .i64 0, .slice none 0 0, .slice none 0 0] from cells_new wc [.int .i64 0, .slice none 0 0, .bool false, .int .i64 0, .slice none 0 0, .slice none 0 0] _)
              have BZD := Lib.hid (belowDrawn hbz)
              have ONZ := Lib.hid z6_one
              have hHC := Lib.hid hcsl
              obtain ⟨l0, l0f⟩ := csb.one
              have BCB := Lib.hid csb
              have BXP := Lib.hid bxP
              have hbcl : bc < wc.heap.size := csb.lt
              have hPl : P < wc.heap.size := bxP.lt
              have HOG := Lib.hid hown
              generalize hNN : (ts ++ c).length = N at *
              clear hi0 hz0 hz1 hz2 es5 htc cso csr csb ht2 hbz hcsl htsc hP1 hown hf5 ev5 HES rb5
              go_wp2_with fail
              go_cut [20] (fun p wd => p = .pointer (some ⟨P, 0, none⟩) ∧ Hid (PushAt W0 A cap lib bv bc true act n bm env (fun k => S k ∨ k = w.heap.size + 1) v w (.int .u8 x.kind) (.int .i64 x.num) (.string x.name) (.slice Ak x.kids.length ck) f2 ((ts ++ c) ++ [t]) P #[.int .i64 tf, .slice Aa na ca, .bool t.res.list, .int .i64 t.res.n, .slice AL t.res.l.length cL, .slice Ac nc cc] AL cL t.res.l wd))
              case first =>
                have r1 : (0 : Int) ≤ N := by omega
                have r2 : (N : Int) < (N : Int) + 1 := by omega
                have hPd : P ≠ bc := hP2
                go_region_law (first | (refine step_app _ (by rfl) (.tmp 176) (.tmp 179) 48 (by rfl) (bc + 1) 50 i0 (.agg #[.int .i64 0, .slice none 0 0, .bool false, .int .i64 0, .slice none 0 0, .slice none 0 0]) 6 96 Try.underlying48 HI.out.1 HI.out.2.1 HI.out.2.2.1 HI.out.2.2.2 rfl (by decide) (.slice Av N cv) N css (by first | (simp [Act.eval]; done) | (simp [Act.eval, Act.put]; done) | rfl) OWB.out (some ⟨wc.heap.size, 0, none⟩) 1 1 [.int .i64 0, .slice none 0 0, .bool false, .int .i64 0, .slice none 0 0, .slice none 0 0] (by first | (simp [Act.eval]; done) | (simp [Act.eval, Act.put]; done) | rfl) rfl CNW.out ONZ.out (by unfold maxLen; omega) (by omega) (by simp; omega) ?_; intro v7 w7 hown7 hgrow7 hat7; obtain ⟨A7, c7, rfl, hn7, hg7⟩ := own_formB hown7; obtain ⟨g7, rfl, hge7⟩ := hg7 (by omega); have bP7 := (BXP.out.below BZD.out).fr (Fr.of_grown hgrow7) (fun e => HP1.out e.symm); have bC7 := (BCB.out.below BZD.out).fr (Fr.of_grown hgrow7) (fun e => (by have := (HOG.out bc e.symm).1; omega)); obtain ⟨⟨q0, q1, q2, q3, q4, q5⟩, _⟩ := bP7.six; obtain ⟨l7, l7f⟩ := bC7.one; obtain ⟨⟨t0, t1, t2, t3, t4, t5⟩, o0, o1, o2, o3, o4, o5⟩ := row_cells hown7 (N := N) hHC.out rfl; have hgc : g7 ≠ bc := (by omega); have hcg : bc ≠ g7 := (by omega); have PA0 := row_a bC7 hown7 (N := N) hHC.out hgc (.int .i64 tf) (.slice Aa na ca) (.bool t.res.list) (.int .i64 t.res.n) (.slice AL t.res.l.length cL) (.slice Ac nc cc); have PB0 := row_b bC7 hown7 (N := N) hHC.out hgc (.int .i64 tf) (.slice Aa na ca) (.bool t.res.list) (.int .i64 t.res.n) (.slice AL t.res.l.length cL) (.slice Ac nc cc); have PA := Lib.hid (push_at ES5.out CSR.out BZD.out hgrow7 hat7 PA0.1 PA0.2.1 (by rw [hNN]; exact PA0.2.2) HTC.out BXP.out HP1.out hP2 HT2.out); have PB := Lib.hid (push_at ES5.out CSR.out BZD.out hgrow7 hat7 PB0.1 PB0.2.1 (by rw [hNN]; exact PB0.2.2) HTC.out BXP.out HP1.out hP2 HT2.out); clear PA0 PB0) | fail)
                all_goals
                  go_wp2_with fail
                  go_meet
                  first
                    | (refine ⟨rfl, ?_⟩; with_reducible exact PA)
                    | (refine ⟨rfl, ?_⟩; with_reducible exact PB)
                    | fail
              case rest =>
                obtain ⟨rfl, hpa⟩ := hcut
                obtain ⟨v', es7, bP7, hi7⟩ := hpa.out
                rw [← HTS.out] at es7
                have RF := es7.done (c0 := c ++ [t]) hi7 htl rfl HCO.out
                have rb7 := es7.rb
                have hrl7 := rb7.lt
                obtain ⟨y0', y1', y2', x0, x1, x2⟩ := rb7.three
                obtain ⟨⟨q0, q1, q2, q3, q4, q5⟩, _⟩ := bP7.six
                generalize t.res = r at *
                have rb8 := rb7.set3 (.bool r.list) (.int .i64 r.n) (.slice AL r.l.length cL)
                clear es7 HCO ES5 hpa hi7 bP7
                go_wp2_with fail
                generalize World.setCell _ _ _ = W6 at RF rb8 ⊢
                obtain ⟨s0, s1, s2, _⟩ := rb8.three
                exact bodyPost_ret (v := .tuple #[.agg #[.bool r.list, .int .i64 r.n, .slice AL r.l.length cL], .int .i64 0]) (by simp [results, Try.results28, go_sem, s0, s1, s2]) rfl RF
      have k85 : ((x.kind : Int) != 85) = true := bne_iff_ne.2 (by omega)
      have HOP := Lib.hid (HEV.out.trans (show _ = (opO apR x vs f1).pre c by rw [hev.out]; show Out.pre c _ = _; dsimp only; rw [if_neg h85]))
      have hXl : ∀ k, Hd (fun k => S k ∨ k = w.heap.size + 1) vc k → k < wr.heap.size := fun k e => e.elim (HES.out.Sl k) fun e => (HES.out.cs.own_gt k e).2
      have hoc := Lib.hid (operate_any x Ak ck vs Al cl (Hd (fun k => S k ∨ k = w.heap.size + 1) vc) wr HV.out hXl (Bool.and_eq_true_iff.1 ((formT_eq x).symm.trans HP.out.form)).1 HK.out.1 HK.out.2.1 HK.out.2.2.1 HK.out.2.2.2 h85 hvl.out HLEN.out)
      have hol := opR_len x vs HLEN.out
      clear h85 HEV hev hXl HV
      go_wp2_with fail
      refine hoc.out.mono ?_
      clear hoc n0 n1 n2 n3
      rintro e w5 (⟨h0, A5, c5, rfl, hi5, hb5⟩ | ⟨h0, ub, um, uA, uk, uc, rfl, hb5⟩)
      · have es5 := HES.out.below hb5
        have rb5 := es5.rb
        obtain ⟨y0', y1', y2', x0, x1, x2⟩ := rb5.three
        have RF := Lib.hid (es5.done hi5 hol rfl (HOP.out.trans (by rw [opO_ok h0]; show Out.ok _ _ (c ++ []) = _; rw [List.append_nil])))
        generalize (opR apR x.kind x.num vs).1 = r at *
        have rb6 := rb5.set3 (.bool r.list) (.int .i64 r.n) (.slice A5 r.l.length c5)
        have RF := RF.out
        clear es5 HOP hi5 h0
        go_wp2_with fail
        generalize World.setCell _ _ _ = W6 at RF rb6 ⊢
        obtain ⟨s0, s1, s2, _⟩ := rb6.three
        exact bodyPost_ret (v := .tuple #[.agg #[.bool r.list, .int .i64 r.n, .slice A5 r.l.length c5], .int .i64 0]) (by simp [results, Try.results28, go_sem, s0, s1, s2]) rfl RF
      · have es5 := HES.out.below hb5
        have rb5 := es5.rb
        obtain ⟨y0', y1', y2', x0, x1, x2⟩ := rb5.three
        have RF := es5.fail (ts := ts) (Fr.refl w5 _) es5.ev h0 (HOP.out.trans (by rw [opO_err h0]; rfl)) ub um uA uk uc
        generalize (opR apR x.kind x.num vs).2 = q at *
        have rb6 := rb5.set3 (.bool ub) (.int .i64 um) (.slice uA uk uc)
        clear es5 HOP h0
        go_wp2_with fail
        generalize World.setCell _ _ _ = W6 at RF rb6 ⊢
        obtain ⟨s0, s1, s2, _⟩ := rb6.three
        exact bodyPost_ret (v := .tuple #[.agg #[.bool ub, .int .i64 um, .slice uA uk uc], .int .i64 q]) (by simp [results, Try.results28, go_sem, s0, s1, s2]) rfl RF

end Go.Proofs.Ytoankdaddgjnlaa
