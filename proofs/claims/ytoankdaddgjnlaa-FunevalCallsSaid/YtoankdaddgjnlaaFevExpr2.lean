/-
  The contract of the evaluator's expr: endings; no fuel, numbers and variables.
-/
import Derived.Test.YtoankdaddgjnlaaFevExpr
namespace Go.Proofs.Ytoankdaddgjnlaa
open Go.ChangeShapes Go.WideShapes Go.ChangeAt Go.RowKit Go.Sort Go.Maps

theorem trC_append (tr : Bool) (c c' : List Tr) : trC tr (c ++ c') = trC tr c ++ trC tr c' := by cases tr <;> simp [trC]
/-- The value of an operand is handed on as the result. -/
theorem ES.tail {W0 : World} {A : Option Addr} {cap : Nat} {lib : List Fn1} {bv bc : Nat} {tr : Bool} {act n bm : Nat} {env : ByteArray → Option Vl} {S : Nat → Prop} {v0 : Value} {w : World} {u0 u1 u2 u3 : Value} {wc : World} {G : Int} {vc : Value} {ts c0 : List Tr} (h : ES W0 A cap lib bv bc tr act n bm env (fun k => S k ∨ k = w.heap.size + 1) v0 w u0 u1 u2 u3 wc G vc (ts ++ trC tr c0)) {o2 : Out} {e : Ending} {w4 : World} (hr : RetE o2 A cap lib bv bc tr act (fun k => S k ∨ k = w.heap.size + 1) vc (ts ++ trC tr c0) wc e w4) :
    ∃ (b : Bool) (m : Int) (A' : Option Addr) (k c : Nat) (q : Int), e = .returned (.tuple #[.agg #[.bool b, .int .i64 m, .slice A' k c], .int .i64 q]) ∧ Bx w4 (w.heap.size + 1) #[.bool false, .int .i64 0, .slice none 0 0] ∧
      RetE (o2.pre c0) A cap lib bv bc tr act S v0 ts w e (((w4.setCell ⟨w.heap.size + 1, 0, none⟩ (.bool b)).setCell ⟨w.heap.size + 1, 1, none⟩ (.int .i64 m)).setCell ⟨w.heap.size + 1, 2, none⟩ (.slice A' k c)) := by
  obtain ⟨hf, hr⟩ := hr
  obtain ⟨⟨m1, m2⟩, m3⟩ := h.mx
  have hlt := h.lt
  have hb := h.bvl
  have rb4 := h.rb.fr hf m2
  have hne : bv ≠ w.heap.size + 1 := by omega
  rcases hr with ⟨q, rfl, hq0, ⟨b, m, A', k, c, rfl⟩, F', ev4⟩ | ⟨y, f1, c, rfl, A', c', v', rfl, hyl, hi, ev4, cs4, hat⟩
  · refine ⟨b, m, A', k, c, q, rfl, rb4, ?_, .inl ⟨q, rfl, hq0, ⟨b, m, A', k, c, rfl⟩, F', ?_⟩⟩
    · exact (h.fr.trans hf m3).trans (Fr.set3 w4 _ _ _ _) fun k hk e => by omega
    · exact ev4.fr (Fr.set3 w4 _ _ _ _) hne
  · refine ⟨y.list, y.n, A', y.l.length, c', 0, rfl, rb4, ?_, .inr ⟨y, f1, c0 ++ c, rfl, A', c', v', rfl, hyl, ?_, ?_, ?_, ?_⟩⟩
    · exact (h.fr.trans hf m3).trans (Fr.set3 w4 _ _ _ _) fun k hk e => by omega
    · exact hi.le (Le.of_fr (Fr.set3 w4 _ _ _ _) (fun k _ e => .inl (.inr e)) fun k _ e => e.elim (fun e => .inl (.inl e)) .inr)
    · exact ev4.fr (Fr.set3 w4 _ _ _ _) hne
    · rw [trC_append, ← List.append_assoc]
      refine cs4.fr (Fr.set3 w4 _ _ _ _) (fun e => by have : bc = w.heap.size + 1 := e; omega) (fun g hg e => ?_) (fun k _ e => .inl (.inr e)) (fun k _ e => e.elim (fun e => .inl (.inl e)) .inr)
      have hg1 : g = w.heap.size + 1 := e
      rcases hat with e | ⟨g', e, h'⟩
      · exact m2 (.inr (.inr (by rw [← e, hg, hg1])))
      · rw [e] at hg; have := Option.some.inj hg; omega
    · rcases hat with e | ⟨g, e, h'⟩
      · rw [e]
        rcases h.at_ with e' | ⟨g, e', h'⟩
        · exact .inl e'
        · exact .inr ⟨g, e', by omega⟩
      · exact .inr ⟨g, e, by omega⟩
/-- An operand has an error. -/
theorem ES.fail {W0 : World} {A : Option Addr} {cap : Nat} {lib : List Fn1} {bv bc : Nat} {tr : Bool} {act n bm : Nat} {env : ByteArray → Option Vl} {S : Nat → Prop} {v0 : Value} {w : World} {u0 u1 u2 u3 : Value} {wc : World} {G : Int} {vc : Value} {ts ts' : List Tr} (h : ES W0 A cap lib bv bc tr act n bm env (fun k => S k ∨ k = w.heap.size + 1) v0 w u0 u1 u2 u3 wc G vc ts') {w4 : World} (hf : Fr wc w4 (Mx bv bc vc)) {F' : Int} (hev : EvAt w4 bv A cap lib F' act tr) {q : Int} (hq : q ≠ 0) {o : Out} (ho : o = .err q) (b : Bool) (m : Int) (A' : Option Addr) (k c : Nat) :
    RetE o A cap lib bv bc tr act S v0 ts w (.returned (.tuple #[.agg #[.bool b, .int .i64 m, .slice A' k c], .int .i64 q])) (((w4.setCell ⟨w.heap.size + 1, 0, none⟩ (.bool b)).setCell ⟨w.heap.size + 1, 1, none⟩ (.int .i64 m)).setCell ⟨w.heap.size + 1, 2, none⟩ (.slice A' k c)) := by
  obtain ⟨⟨m1, m2⟩, m3⟩ := h.mx
  have hb := h.bvl
  have hne : bv ≠ w.heap.size + 1 := by omega
  exact ⟨(h.fr.trans hf m3).trans (Fr.set3 w4 _ _ _ _) fun k hk e => by omega, .inl ⟨q, ho, hq, ⟨b, m, A', k, c, rfl⟩, F', hev.fr (Fr.set3 w4 _ _ _ _) hne⟩⟩
/-- A value is returned. -/
theorem ES.done {W0 : World} {A : Option Addr} {cap : Nat} {lib : List Fn1} {bv bc : Nat} {tr : Bool} {act n bm : Nat} {env : ByteArray → Option Vl} {S : Nat → Prop} {v0 : Value} {w : World} {u0 u1 u2 u3 : Value} {wc : World} {G : Int} {vc : Value} {ts c0 : List Tr} (h : ES W0 A cap lib bv bc tr act n bm env (fun k => S k ∨ k = w.heap.size + 1) v0 w u0 u1 u2 u3 wc G vc (ts ++ trC tr c0)) {y : Vl} {A' : Option Addr} {c' : Nat} (hi : IntsC wc (Hd (fun k => S k ∨ k = w.heap.size + 1) vc) A' c' y.l) (hy : y.l.length ≤ 1000000) {f1 : Nat} (hG : G = f1) {o : Out} (ho : o = .ok y f1 c0) :
    RetE o A cap lib bv bc tr act S v0 ts w (.returned (.tuple #[.agg #[.bool y.list, .int .i64 y.n, .slice A' y.l.length c'], .int .i64 0])) (((wc.setCell ⟨w.heap.size + 1, 0, none⟩ (.bool y.list)).setCell ⟨w.heap.size + 1, 1, none⟩ (.int .i64 y.n)).setCell ⟨w.heap.size + 1, 2, none⟩ (.slice A' y.l.length c')) := by
  subst hG
  obtain ⟨b, m, A2, k, c, q, he, _, hr⟩ := h.tail (o2 := .ok y f1 []) (e := .returned (.tuple #[.agg #[.bool y.list, .int .i64 y.n, .slice A' y.l.length c'], .int .i64 0])) ⟨Fr.refl _ _, .inr ⟨y, f1, [], rfl, A', c', vc, rfl, hy, hi, h.ev, by simpa [trC] using h.cs, .inl rfl⟩⟩
  injection he with he
  injection he with he
  simp at he
  obtain ⟨⟨rfl, rfl, rfl, rfl, rfl⟩, rfl⟩ := he
  rw [ho]
  simpa [Out.pre] using hr
/-- The contract at an operand. -/
theorem es_kidC {W0 : World} {A : Option Addr} {cap : Nat} {lib : List Fn1} {bv bc : Nat} {tr : Bool} {act n bm : Nat} {env : ByteArray → Option Vl} {S : Nat → Prop} {v0 : Value} {w : World} {u0 u1 u2 u3 : Value} {wc : World} {G : Int} {vc : Value} {ts : List Tr} {d : Nat} (hE : ExprC W0 A cap lib bv tr d) (h : ES W0 A cap lib bv bc tr act n bm env S v0 w u0 u1 u2 u3 wc G vc ts) {y : Nd} {Ay : Option Addr} {cy : Nat} (h1 : NdsAt W0 Ay y.kids) (h2 : NdFit y) (h3 : formT y = true) (h4 : arT lib y = true) (h5 : sizeT y ≤ 500000) {n' bm' : Nat} {env' : ByteArray → Option Vl} (henv : EnvX wc (Hd S vc) bm' n' env') (hd : G.toNat ≤ d) (hn : n' + G.toNat ≤ 1000000) (ht : ts.length + G.toNat ≤ 900000) (ha : act ≤ 30) :
    Calls Try.prog 28 #[.pointer (some ⟨bv, 0, none⟩), .agg #[.int .u8 y.kind, .int .i64 y.num, .string y.name, .slice Ay y.kids.length cy], .map (some bm'), .pointer (some ⟨bc, 0, none⟩)] wc
      (RetE (ev apR lib d act env' y G.toNat) A cap lib bv bc tr act S vc ts wc) :=
  hE y Ay cy G act n' bm' bc env' S vc ts wc h1 h2 h3 h4 h5 h.hb h.bvl.1 h.bvl.2.1 h.ev h.cs henv h.Sv h.Sc h.Sl hd hn ht ha

set_option maxRecDepth 100000 in
set_option maxHeartbeats 1000000 in
theorem expr_zero {W0 : World} {A : Option Addr} {cap : Nat} {lib : List Fn1} {bv : Nat} {tr : Bool} {d : Nat} {x : Nd} {Ak : Option Addr} {F : Int} {act n bm bc : Nat} {env : ByteArray → Option Vl} {S : Nat → Prop} {v : Value} {ts : List Tr} {w : World} (h : EPre W0 A cap lib bv tr d x Ak F act n bm bc env S v ts w) (ck : Nat) (hF : F ≤ 0) :
    Calls Try.prog 28 #[.pointer (some ⟨bv, 0, none⟩), .agg #[.int .u8 x.kind, .int .i64 x.num, .string x.name, .slice Ak x.kids.length ck], .map (some bm), .pointer (some ⟨bc, 0, none⟩)] w
      (RetE (.err 18) A cap lib bv bc tr act S v ts w) := by
  have b2 := two_box w (Obj.cells #[.int .u8 x.kind, .int .i64 x.num, .string x.name, .slice Ak x.kids.length ck] 41) (Obj.cells #[.bool false, .int .i64 0, .slice none 0 0] 28)
  obtain ⟨v0, v1, v2, v3, z0, z1, z2, z3⟩ := h.ev.four
  have hlv : bv < w.heap.size := h.ev.lt
  have HF := Lib.hid (show RetE (.err 18) A cap lib bv bc tr act S v ts w (.returned (.tuple #[.agg #[.bool false, .int .i64 0, .slice none 0 0], .int .i64 18])) ((w.alloc (Obj.cells #[.int .u8 x.kind, .int .i64 x.num, .string x.name, .slice Ak x.kids.length ck] 41)).alloc (Obj.cells #[.bool false, .int .i64 0, .slice none 0 0] 28)) from ⟨Fr.of_below b2 _, .inl ⟨18, rfl, by decide, ⟨false, 0, none, 0, 0, rfl⟩, F, h.ev.below b2⟩⟩)
  clear h b2
  go_enter Try.func28, Try.ntmps28
  go_wp2_with fail
  exact bodyPost_ret (v := .tuple #[.agg #[.bool false, .int .i64 0, .slice none 0 0], .int .i64 18]) (by simp [results, Try.results28, go_sem]) rfl HF.out

end Go.Proofs.Ytoankdaddgjnlaa
