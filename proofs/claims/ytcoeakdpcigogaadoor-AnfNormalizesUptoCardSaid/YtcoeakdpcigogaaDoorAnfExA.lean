/-
  The visitor's choice: boxes that the normalizer doesn't know.
  The visitor's choice: its boxes.
-/
import Derived.Test.YtcoeakdpcigogaaDoorAnfEx9
namespace Go.Proofs.YtcoeakdpcigogaaDoor
open Go.ChangeShapes Go.WideShapes Go.ChangeAt Go.RowKit Go.Sort Go.Maps

variable {s : Nc} {pb po : Nat} {X0 : Nat → Prop} {b0 z n n' : Nat} {env env' : ByteArray → Option Pm} {ts ts' : List Pm} {ut ut' : Value} {bs l : List Bd} {ub ub' ui : Value} {w w' w3 : World}
def Bf (s : Nc) (pb : Nat) (ut ub : Value) (w : World) (b : Nat) (cs : Array Value) : Prop := Bx w b cs ∧ Far s pb ut ub b
theorem Far.ng {b : Nat} (h : Far s pb ut ub b) : ¬ Ng s pb ut ub b := fun e => by
  rcases e with e | e | e | e | e
  · exact h.2.2.1 e
  · exact h.1 e
  · exact h.2.2.2.2.1 e.symm
  · exact h.2.2.2.1 e
  · exact h.2.2.2.2.2.1 e.symm
theorem Far.nwb2 {b : Nat} (h : Far s pb ut ub b) (hn : Nwb w ut ut') (hn2 : Nwb w ub ub') (hb : b < w.heap.size) : Far s pb ut' ub' b := ⟨h.1, h.2.1, h.2.2.1, h.2.2.2.1, fun e => by
  rcases hn b e with q | q
  · exact h.2.2.2.2.1 q
  · omega, fun e => by
  rcases hn2 b e with q | q
  · exact h.2.2.2.2.2.1 q
  · omega, h.2.2.2.2.2.2⟩
theorem Bf.step {b : Nat} {cs : Array Value} {m : Nat → Prop} (h : Bf s pb ut ub w b cs) (hf : Fr w w' m) (hm : m b → Ng s pb ut ub b) (hn : Nwb w ut ut') (hn2 : Nwb w ub ub') : Bf s pb ut' ub' w' b cs := ⟨h.1.fr hf fun e => h.2.ng (hm e), h.2.nwb2 hn hn2 h.1.lt⟩
theorem Bf.below {b : Nat} {cs : Array Value} (h : Bf s pb ut ub w b cs) (hb : Below w.heap.size w w') : Bf s pb ut ub w' b cs := ⟨h.1.below hb, h.2⟩
theorem Bf.oth {b : Nat} {cs : Array Value} {m : Nat → Prop} (h : Bf s pb ut ub w b cs) (hf : Fr w w' m) (hm : ¬ m b) : Bf s pb ut ub w' b cs := ⟨h.1.fr hf hm, h.2⟩
theorem far_new (q : s.O < w.heap.size ∧ s.V < w.heap.size ∧ s.M < w.heap.size ∧ pb < w.heap.size ∧ (∀ g, ut.ownBlock = some g → g < w.heap.size) ∧ (∀ g, ub.ownBlock = some g → g < w.heap.size) ∧ s.W0.heap.size ≤ w.heap.size) {b : Nat} (hb : w.heap.size ≤ b) : Far s pb ut ub b :=
  ⟨by omega, by omega, by omega, by omega, fun e => by have := q.2.2.2.2.1 b e; omega, fun e => by have := q.2.2.2.2.2.1 b e; omega, by omega⟩
theorem three_boxC (w : World) (c1 c4 c2 : Array Value) : Below w.heap.size w (((w.alloc (Obj.cells c1 132)).alloc (Obj.cells c4 53)).alloc (Obj.cells c2 65)) ∧ Bx (((w.alloc (Obj.cells c1 132)).alloc (Obj.cells c4 53)).alloc (Obj.cells c2 65)) w.heap.size c1 ∧ Bx (((w.alloc (Obj.cells c1 132)).alloc (Obj.cells c4 53)).alloc (Obj.cells c2 65)) (w.heap.size + 1) c4 ∧ Bx (((w.alloc (Obj.cells c1 132)).alloc (Obj.cells c4 53)).alloc (Obj.cells c2 65)) (w.heap.size + 2) c2 ∧ (((w.alloc (Obj.cells c1 132)).alloc (Obj.cells c4 53)).alloc (Obj.cells c2 65)).heap.size = w.heap.size + 3 := by
  have b1 := below_box w (Obj.cells c1 132)
  have b2 := below_box (w.alloc (Obj.cells c1 132)) (Obj.cells c4 53)
  have b3 := below_box ((w.alloc (Obj.cells c1 132)).alloc (Obj.cells c4 53)) (Obj.cells c2 65)
  have h2 := bx_new (w.alloc (Obj.cells c1 132)) c4 53
  rw [show (w.alloc (Obj.cells c1 132)).heap.size = w.heap.size + 1 by simp] at h2
  have h3 := bx_new ((w.alloc (Obj.cells c1 132)).alloc (Obj.cells c4 53)) c2 65
  rw [show ((w.alloc (Obj.cells c1 132)).alloc (Obj.cells c4 53)).heap.size = w.heap.size + 2 by simp] at h3
  exact ⟨below_step (below_step b1 b1.size b2) (below_step b1 b1.size b2).size b3, ((bx_new w c1 _).below b2).below b3, h2.below b3, h3, by simp⟩
theorem form_len3 {y : Nd} (h : formT y = true) (hk : y.kind = 83) : y.kids.length = 3 := by
  rw [formT_eq, Bool.and_eq_true_iff] at h
  have := h.1
  unfold formB at this
  simp [hk] at this
  have h2 := this.2
  omega
theorem three_kids {x : Nd} (h : formT x = true) (hk : x.kind = 83) : ∃ a b c, x.kids = [a, b, c] := by
  have hlen := form_len3 h hk
  match hy : x.kids, hlen with
  | [a, b, c], _ => exact ⟨a, b, c, rfl⟩
theorem nE_if {lib : List Fn1} {x c a b : Nd} (h83 : x.kind = 83) (hab : x.kids = [c, a, b]) {rc ra rb : Nr} (hc : nE lib c env ts = rc) (ha : nE lib a env (rc.ts ++ [⟨tmpN rc.ts.length, false⟩]) = ra) (hb : nE lib b env (setL ra.ts rc.ts.length ra.p.list) = rb) : nE lib x env ts = ⟨rc.bs ++ [.mk (tmpN rc.ts.length) rb.p.list 83 0 eS [rc.p.name] (ra.bs ++ [.mk (tmpN rc.ts.length) ra.p.list 81 0 eS [ra.p.name] [] []]) (rb.bs ++ [.mk (tmpN rc.ts.length) rb.p.list 81 0 eS [rb.p.name] [] []])], ⟨tmpN rc.ts.length, rb.p.list⟩, setL rb.ts rc.ts.length rb.p.list⟩ := by
  rw [nE_83 h83, hab, nIf]
  subst hc
  subst ha
  subst hb
  rfl
theorem ch_fin {X' : Nat → Prop} {n1 b : Nat} {ts1 : List Pm} {u1 ub1 : Value} {bs1 : List Bd} {w5 : World} (hx0 : ∀ k, X0 k → X' k) (hxb : X' b) (hm : Ns s pb po X' n1 env ts1 u1 bs1 ub1 w5) (hfar : Far s pb u1 ub1 b) (hf : Fr w w5 (Ng s pb ut ub)) (hb : w.heap.size ≤ b) (v0 v1 : Value) : Ns s pb po X0 n1 env ts1 u1 bs1 ub1 ((w5.setCell ⟨b, 0, none⟩ v0).setCell ⟨b, 1, none⟩ v1) ∧ Fr w ((w5.setCell ⟨b, 0, none⟩ v0).setCell ⟨b, 1, none⟩ v1) (Ng s pb ut ub) :=
  ⟨hm.close (Fr.set2 w5 b v0 v1) (fun k e => by have e' : k = b := e; rw [e']; exact hxb) (fun k e => by have e' : k = b := e; rw [e']; exact hfar) hx0, hf.trans (Fr.set2 w5 b v0 v1) (fun k hk e => by omega)⟩

/-- After the condition. -/
structure Ch1 (s : Nc) (pb po : Nat) (X0 : Nat → Prop) (n : Nat) (env : ByteArray → Option Pm) (ut : Value) (bs : List Bd) (ub : Value) (r : Nr) (sz : Nat) (w W wc : World) (b9 n1 : Nat) (u1 b1 : Value) (As : Option Addr) : Prop where
  ns : Ns s pb po (fun k => X0 k ∨ (w.heap.size ≤ k ∧ k < W.heap.size) ∨ k = b9) n1 env r.ts u1 (bs ++ r.bs) b1 wc
  bx : Bf s pb u1 b1 wc b9 #[.string ⟨#[]⟩, .bool false, .int .u8 83, .int .i64 0, .string ⟨#[]⟩, .slice As 1 1, .slice none 0 0, .slice none 0 0]
  sx : StrsX wc (Xs (fun k => X0 k ∨ (w.heap.size ≤ k ∧ k < W.heap.size) ∨ k = b9) s.O s.M pb u1 b1) As [r.p.name]
  lo : W.heap.size ≤ b9
  fr : Fr W wc (Ng s pb ut ub)
  nu : Nwb W ut u1
  nb : Nwb W ub b1
  nn : n1 ≤ n + sz
theorem Bx.set8 {w : World} {b : Nat} {u0 u1 u2 u3 u4 u5 u6 u7 : Value} (h : Bx w b #[u0, u1, u2, u3, u4, u5, u6, u7]) (v0 v1 v2 v3 v4 v5 v6 v7 : Value) : Bx ((((((((w.setCell ⟨b, 0, none⟩ v0).setCell ⟨b, 1, none⟩ v1).setCell ⟨b, 2, none⟩ v2).setCell ⟨b, 3, none⟩ v3).setCell ⟨b, 4, none⟩ v4).setCell ⟨b, 5, none⟩ v5).setCell ⟨b, 6, none⟩ v6).setCell ⟨b, 7, none⟩ v7) b #[v0, v1, v2, v3, v4, v5, v6, v7] := by
  have h0 : Bx _ b #[v0, u1, u2, u3, u4, u5, u6, u7] := h.set 0 v0
  have h1 : Bx _ b #[v0, v1, u2, u3, u4, u5, u6, u7] := h0.set 1 v1
  have h2 : Bx _ b #[v0, v1, v2, u3, u4, u5, u6, u7] := h1.set 2 v2
  have h3 : Bx _ b #[v0, v1, v2, v3, u4, u5, u6, u7] := h2.set 3 v3
  have h4 : Bx _ b #[v0, v1, v2, v3, v4, u5, u6, u7] := h3.set 4 v4
  have h5 : Bx _ b #[v0, v1, v2, v3, v4, v5, u6, u7] := h4.set 5 v5
  have h6 : Bx _ b #[v0, v1, v2, v3, v4, v5, v6, u7] := h5.set 6 v6
  have h7 : Bx _ b #[v0, v1, v2, v3, v4, v5, v6, v7] := h6.set 7 v7
  exact h7
theorem Fr.set80 (w : World) (g : Nat) (v0 v1 v2 v3 v4 v5 v6 v7 : Value) : Fr w ((((((((w.setCell ⟨g, 0, none⟩ v0).setCell ⟨g, 1, none⟩ v1).setCell ⟨g, 2, none⟩ v2).setCell ⟨g, 3, none⟩ v3).setCell ⟨g, 4, none⟩ v4).setCell ⟨g, 5, none⟩ v5).setCell ⟨g, 6, none⟩ v6).setCell ⟨g, 7, none⟩ v7) (fun k => k = g) :=
  (((((((Fr.of_set w ⟨g, 0, none⟩ v0).trans (Fr.of_set _ ⟨g, 1, none⟩ v1) fun _ _ e => e).trans (Fr.of_set _ ⟨g, 2, none⟩ v2) fun _ _ e => e).trans (Fr.of_set _ ⟨g, 3, none⟩ v3) fun _ _ e => e).trans (Fr.of_set _ ⟨g, 4, none⟩ v4) fun _ _ e => e).trans (Fr.of_set _ ⟨g, 5, none⟩ v5) fun _ _ e => e).trans (Fr.of_set _ ⟨g, 6, none⟩ v6) fun _ _ e => e).trans (Fr.of_set _ ⟨g, 7, none⟩ v7) fun _ _ e => e
variable {r : Nr} {sz n1 b9 : Nat} {W w5 : World} {u1 b1 : Value}
theorem ch1_end {As : Option Addr} {u0 u2 u3 u4 u5 u6 u7 u8 : Value} (h : Ns s pb po (fun k => X0 k ∨ (w.heap.size ≤ k ∧ k < W.heap.size) ∨ k = b9) n1 env r.ts u1 (bs ++ r.bs) b1 w5) (hb : Bf s pb u1 b1 w5 b9 #[u0, u2, u3, u4, u5, u6, u7, u8]) (hs : StrsX w5 (Xs (fun k => X0 k ∨ (w.heap.size ≤ k ∧ k < W.heap.size) ∨ k = b9) s.O s.M pb u1 b1) As [r.p.name]) (hlo : W.heap.size ≤ b9) (hf : Fr W w5 (Ng s pb ut ub)) (hnu : Nwb W ut u1) (hnb : Nwb W ub b1) (hnn : n1 ≤ n + sz) :
    Ch1 s pb po X0 n env ut bs ub r sz w W ((((((((w5.setCell ⟨b9, 0, none⟩ (.string ⟨#[]⟩)).setCell ⟨b9, 1, none⟩ (.bool false)).setCell ⟨b9, 2, none⟩ (.int .u8 83)).setCell ⟨b9, 3, none⟩ (.int .i64 0)).setCell ⟨b9, 4, none⟩ (.string ⟨#[]⟩)).setCell ⟨b9, 5, none⟩ (.slice As 1 1)).setCell ⟨b9, 6, none⟩ (.slice none 0 0)).setCell ⟨b9, 7, none⟩ (.slice none 0 0)) b9 n1 u1 b1 As := by
  have hf8 := Fr.set80 w5 b9 (.string ⟨#[]⟩) (.bool false) (.int .u8 83) (.int .i64 0) (.string ⟨#[]⟩) (.slice As 1 1) (.slice none 0 0) (.slice none 0 0)
  exact ⟨h.close hf8 (fun k e => .inr (.inr e)) (fun k e => by have e' : k = b9 := e; rw [e']; exact hb.2) (fun k e => e), ⟨Bx.set8 hb.1 _ _ _ _ _ _ _ _, hb.2⟩, hs.le (le_open_set hf8 fun k e => .inl (.inr (.inr e))), hlo, hf.trans hf8 (fun k hk e => by have e' : k = b9 := e; omega), hnu, hnb, hnn⟩
theorem xs_lt {X : Nat → Prop} (h : Ns s pb po X n env ts ut bs ub w) {k : Nat} (e : Xs X s.O s.M pb ut ub k) : k < w.heap.size := by
  have q := h.olds
  rcases e with e | e | e | e | e | e
  · exact h.x0 k e
  · omega
  · omega
  · omega
  · exact q.2.2.2.2.1 k e
  · exact q.2.2.2.2.2.1 k e
/-- The bind's box made first. -/
theorem ch1_a {W' : World} {u0 u2 u3 u4 u5 u6 u7 u8 : Value} (q : s.O < w.heap.size ∧ s.V < w.heap.size ∧ s.M < w.heap.size ∧ pb < w.heap.size ∧ (∀ g, ut.ownBlock = some g → g < w.heap.size) ∧ (∀ g, ub.ownBlock = some g → g < w.heap.size) ∧ s.W0.heap.size ≤ w.heap.size) (hww : w.heap.size ≤ W.heap.size) (hb : Below W.heap.size W W') (hz : W'.heap.size = W.heap.size + 1) (hx : Bx W' W.heap.size #[u0, u2, u3, u4, u5, u6, u7, u8]) (h : Ns s pb po (fun k => X0 k ∨ (w.heap.size ≤ k ∧ k < W'.heap.size)) n1 env r.ts u1 (bs ++ r.bs) b1 w5) (hf : Fr W' w5 (Ng s pb ut ub)) (hnu : Nwb W' ut u1) (hnb : Nwb W' ub b1) (hnn : n1 ≤ n + sz) :
    Ch1 s pb po X0 n env ut bs ub r sz w W (((((((((w5.setCell ⟨W.heap.size, 0, none⟩ (.string ⟨#[]⟩)).setCell ⟨W.heap.size, 1, none⟩ (.bool false)).setCell ⟨W.heap.size, 2, none⟩ (.int .u8 83)).setCell ⟨W.heap.size, 3, none⟩ (.int .i64 0)).setCell ⟨W.heap.size, 4, none⟩ (.string ⟨#[]⟩)).setCell ⟨W.heap.size, 5, none⟩ (.slice (some ⟨w5.heap.size, 0, none⟩) 1 1)).setCell ⟨W.heap.size, 6, none⟩ (.slice none 0 0)).setCell ⟨W.heap.size, 7, none⟩ (.slice none 0 0)).alloc (Obj.cells #[.string r.p.name] 9)) W.heap.size n1 u1 b1 (some ⟨w5.heap.size, 0, none⟩) := by
  have hfar : Far s pb ut ub W.heap.size := far_new q hww
  have hs : Ns s pb po (fun k => X0 k ∨ (w.heap.size ≤ k ∧ k < W.heap.size) ∨ k = W.heap.size) n1 env r.ts u1 (bs ++ r.bs) b1 w5 := h.swap (m := fun _ => False) (Fr.refl _ _) (fun _ _ e => e.elim) (fun _ _ e => e.elim) (fun k _ e => e.elim .inl (fun e => .inr (by rcases e with e | e <;> omega))) (fun k e => by
    rcases e with e | e
    · exact h.x0 k (.inl e)
    · exact h.x0 k (.inr (by rcases e with e | e <;> omega)))
  have hfn : Far s pb u1 b1 W.heap.size := hfar.nwb2 hnu hnb (by omega)
  have hf8 := Fr.set80 w5 W.heap.size (.string ⟨#[]⟩) (.bool false) (.int .u8 83) (.int .i64 0) (.string ⟨#[]⟩) (.slice (some ⟨w5.heap.size, 0, none⟩) 1 1) (.slice none 0 0) (.slice none 0 0)
  have hx8 := Bx.set8 (hx.fr hf hfar.ng) (.string ⟨#[]⟩) (.bool false) (.int .u8 83) (.int .i64 0) (.string ⟨#[]⟩) (.slice (some ⟨w5.heap.size, 0, none⟩) 1 1) (.slice none 0 0) (.slice none 0 0)
  have hz8 : ((((((((w5.setCell ⟨W.heap.size, 0, none⟩ (.string ⟨#[]⟩)).setCell ⟨W.heap.size, 1, none⟩ (.bool false)).setCell ⟨W.heap.size, 2, none⟩ (.int .u8 83)).setCell ⟨W.heap.size, 3, none⟩ (.int .i64 0)).setCell ⟨W.heap.size, 4, none⟩ (.string ⟨#[]⟩)).setCell ⟨W.heap.size, 5, none⟩ (.slice (some ⟨w5.heap.size, 0, none⟩) 1 1)).setCell ⟨W.heap.size, 6, none⟩ (.slice none 0 0)).setCell ⟨W.heap.size, 7, none⟩ (.slice none 0 0)).heap.size = w5.heap.size := by simp
  have hs8 := hs.close (X0 := fun k => X0 k ∨ (w.heap.size ≤ k ∧ k < W.heap.size) ∨ k = W.heap.size) hf8 (fun k e => .inr (.inr e)) (fun k e => by have e' : k = W.heap.size := e; rw [e']; exact hfn) (fun k e => e)
  have hst : ∀ w8 : World, w8.heap.size = w5.heap.size → Ns s pb po (fun k => X0 k ∨ (w.heap.size ≤ k ∧ k < W.heap.size) ∨ k = W.heap.size) n1 env r.ts u1 (bs ++ r.bs) b1 w8 → Bx w8 W.heap.size #[.string ⟨#[]⟩, .bool false, .int .u8 83, .int .i64 0, .string ⟨#[]⟩, .slice (some ⟨w5.heap.size, 0, none⟩) 1 1, .slice none 0 0, .slice none 0 0] → Fr w5 w8 (fun k => k = W.heap.size) → Ch1 s pb po X0 n env ut bs ub r sz w W (w8.alloc (Obj.cells #[.string r.p.name] 9)) W.heap.size n1 u1 b1 (some ⟨w5.heap.size, 0, none⟩) := fun w8 hz hs8 hx8 hf8 => by
    have hb6 := below_box w8 (Obj.cells #[.string r.p.name] 9)
    have hsx := strsX_lit w8 (Xs (fun k => X0 k ∨ (w.heap.size ≤ k ∧ k < W.heap.size) ∨ k = W.heap.size) s.O s.M pb u1 b1) r.p.name 9 (fun e => absurd (xs_lt hs8 e) (Nat.lt_irrefl _))
    rw [hz] at hsx
    exact ⟨hs8.below hb6, ⟨hx8.below hb6, hfn⟩, hsx, Nat.le_refl _, ((((Fr.of_below hb _).trans hf (fun _ _ e => e)).trans hf8 (fun k hk e => by have e' : k = W.heap.size := e; omega)).trans (Fr.of_below hb6 (Ng s pb ut ub)) (fun _ _ e => e)), hnu.mono hb.size, hnb.mono hb.size, hnn⟩
  exact hst _ hz8 hs8 hx8 hf8
/-- The bind's box made after the call, ahead of the arguments. -/
theorem ch1_b {W' : World} (hb : Below W.heap.size W W') (hz : W'.heap.size = W.heap.size) (h : Ns s pb po (fun k => X0 k ∨ (w.heap.size ≤ k ∧ k < W'.heap.size)) n1 env r.ts u1 (bs ++ r.bs) b1 w5) (hf : Fr W' w5 (Ng s pb ut ub)) (hnu : Nwb W' ut u1) (hnb : Nwb W' ub b1) (hnn : n1 ≤ n + sz) :
    Ch1 s pb po X0 n env ut bs ub r sz w W ((w5.alloc (Obj.cells #[.string ⟨#[]⟩, .bool false, .int .u8 83, .int .i64 0, .string ⟨#[]⟩, .slice (some ⟨w5.heap.size + 1, 0, none⟩) 1 1, .slice none 0 0, .slice none 0 0] 67)).alloc (Obj.cells #[.string r.p.name] 9)) w5.heap.size n1 u1 b1 (some ⟨w5.heap.size + 1, 0, none⟩) := by
  have hb5 := below_box w5 (Obj.cells #[.string ⟨#[]⟩, .bool false, .int .u8 83, .int .i64 0, .string ⟨#[]⟩, .slice (some ⟨w5.heap.size + 1, 0, none⟩) 1 1, .slice none 0 0, .slice none 0 0] 67)
  have hb6 := below_box (w5.alloc (Obj.cells #[.string ⟨#[]⟩, .bool false, .int .u8 83, .int .i64 0, .string ⟨#[]⟩, .slice (some ⟨w5.heap.size + 1, 0, none⟩) 1 1, .slice none 0 0, .slice none 0 0] 67)) (Obj.cells #[.string r.p.name] 9)
  have hz5 : (w5.alloc (Obj.cells #[.string ⟨#[]⟩, .bool false, .int .u8 83, .int .i64 0, .string ⟨#[]⟩, .slice (some ⟨w5.heap.size + 1, 0, none⟩) 1 1, .slice none 0 0, .slice none 0 0] 67)).heap.size = w5.heap.size + 1 := by simp
  have h5 := h.open hb5
  have hsz5 := hf.size
  have hs : Ns s pb po (fun k => X0 k ∨ (w.heap.size ≤ k ∧ k < W.heap.size) ∨ k = w5.heap.size) n1 env r.ts u1 (bs ++ r.bs) b1 (w5.alloc (Obj.cells #[.string ⟨#[]⟩, .bool false, .int .u8 83, .int .i64 0, .string ⟨#[]⟩, .slice (some ⟨w5.heap.size + 1, 0, none⟩) 1 1, .slice none 0 0, .slice none 0 0] 67)) := h5.swap (m := fun _ => False) (Fr.refl _ _) (fun _ _ e => e.elim) (fun _ _ e => e.elim) (fun k _ e => by
    rcases e with e | e | e
    · exact .inl (.inl e)
    · exact .inl (.inr (by omega))
    · exact .inr (by omega)) (fun k e => by
    rcases e with e | e | e
    · exact h5.x0 k (.inl (.inl e))
    · omega
    · omega)
  have hst := strsX_lit (w5.alloc (Obj.cells #[.string ⟨#[]⟩, .bool false, .int .u8 83, .int .i64 0, .string ⟨#[]⟩, .slice (some ⟨w5.heap.size + 1, 0, none⟩) 1 1, .slice none 0 0, .slice none 0 0] 67)) _ r.p.name 9 (fun e => absurd (xs_lt hs e) (Nat.lt_irrefl _))
  rw [hz5] at hst
  exact ⟨hs.below hb6, ⟨(bx_new w5 _ _).below hb6, far_new h.olds (Nat.le_refl _)⟩, hst, by omega, (((Fr.of_below hb _).trans hf (fun _ _ e => e)).trans (Fr.of_below hb5 (Ng s pb ut ub)) (fun _ _ e => e)).trans (Fr.of_below hb6 (Ng s pb ut ub)) (fun _ _ e => e), hnu.mono hb.size, hnb.mono hb.size, hnn⟩
/-- The bind's box made last. -/
theorem ch1_c {W' : World} (hb : Below W.heap.size W W') (hz : W'.heap.size = W.heap.size) (h : Ns s pb po (fun k => X0 k ∨ (w.heap.size ≤ k ∧ k < W'.heap.size)) n1 env r.ts u1 (bs ++ r.bs) b1 w5) (hf : Fr W' w5 (Ng s pb ut ub)) (hnu : Nwb W' ut u1) (hnb : Nwb W' ub b1) (hnn : n1 ≤ n + sz) :
    Ch1 s pb po X0 n env ut bs ub r sz w W ((w5.alloc (Obj.cells #[.string r.p.name] 9)).alloc (Obj.cells #[.string ⟨#[]⟩, .bool false, .int .u8 83, .int .i64 0, .string ⟨#[]⟩, .slice (some ⟨w5.heap.size, 0, none⟩) 1 1, .slice none 0 0, .slice none 0 0] 67)) (w5.heap.size + 1) n1 u1 b1 (some ⟨w5.heap.size, 0, none⟩) := by
  have hb5 := below_box w5 (Obj.cells #[.string r.p.name] 9)
  have hb6 := below_box (w5.alloc (Obj.cells #[.string r.p.name] 9)) (Obj.cells #[.string ⟨#[]⟩, .bool false, .int .u8 83, .int .i64 0, .string ⟨#[]⟩, .slice (some ⟨w5.heap.size, 0, none⟩) 1 1, .slice none 0 0, .slice none 0 0] 67)
  have hz5 : (w5.alloc (Obj.cells #[.string r.p.name] 9)).heap.size = w5.heap.size + 1 := by simp
  have hz6 : ((w5.alloc (Obj.cells #[.string r.p.name] 9)).alloc (Obj.cells #[.string ⟨#[]⟩, .bool false, .int .u8 83, .int .i64 0, .string ⟨#[]⟩, .slice (some ⟨w5.heap.size, 0, none⟩) 1 1, .slice none 0 0, .slice none 0 0] 67)).heap.size = w5.heap.size + 2 := by simp
  have h5 := h.below hb5
  have h6 := h5.open hb6
  have hsz5 := hf.size
  have hs : Ns s pb po (fun k => X0 k ∨ (w.heap.size ≤ k ∧ k < W.heap.size) ∨ k = w5.heap.size + 1) n1 env r.ts u1 (bs ++ r.bs) b1 ((w5.alloc (Obj.cells #[.string r.p.name] 9)).alloc (Obj.cells #[.string ⟨#[]⟩, .bool false, .int .u8 83, .int .i64 0, .string ⟨#[]⟩, .slice (some ⟨w5.heap.size, 0, none⟩) 1 1, .slice none 0 0, .slice none 0 0] 67)) := h6.swap (m := fun _ => False) (Fr.refl _ _) (fun _ _ e => e.elim) (fun _ _ e => e.elim) (fun k _ e => by
    rcases e with e | e | e
    · exact .inl (.inl e)
    · exact .inl (.inr (by omega))
    · exact .inr (by omega)) (fun k e => by
    rcases e with e | e | e
    · exact h6.x0 k (.inl (.inl e))
    · omega
    · omega)
  have hst : StrsX (w5.alloc (Obj.cells #[.string r.p.name] 9)) (Xs (fun k => X0 k ∨ (w.heap.size ≤ k ∧ k < W'.heap.size)) s.O s.M pb u1 b1) (some ⟨w5.heap.size, 0, none⟩) [r.p.name] := strsX_lit w5 _ r.p.name 9 (fun e => absurd (xs_lt h e) (Nat.lt_irrefl _))
  have hbx := bx_new (w5.alloc (Obj.cells #[.string r.p.name] 9)) #[.string ⟨#[]⟩, .bool false, .int .u8 83, .int .i64 0, .string ⟨#[]⟩, .slice (some ⟨w5.heap.size, 0, none⟩) 1 1, .slice none 0 0, .slice none 0 0] 67
  rw [hz5] at hbx
  exact ⟨hs, ⟨hbx, far_new h.olds (Nat.le_succ _)⟩, hst.le (Le.belowA hb6 fun k hk e => by
    rcases e with e | e
    · rcases e with e | e | e
      · exact .inl (.inl e)
      · exact .inl (.inr (by omega))
      · omega
    · exact .inr e), by omega, (((Fr.of_below hb _).trans hf (fun _ _ e => e)).trans (Fr.of_below hb5 (Ng s pb ut ub)) (fun _ _ e => e)).trans (Fr.of_below hb6 (Ng s pb ut ub)) (fun _ _ e => e), hnu.mono hb.size, hnb.mono hb.size, hnn⟩

end Go.Proofs.YtcoeakdpcigogaaDoor

namespace Go.Proofs.YtcoeakdpcigogaaDoor
open Go.ChangeShapes Go.WideShapes Go.ChangeAt Go.RowKit Go.Sort Go.Maps

variable {s : Nc} {pb po : Nat} {X0 X : Nat → Prop} {b0 z n n' : Nat} {env env' : ByteArray → Option Pm} {ts ts' : List Pm} {ut ut' : Value} {bs l : List Bd} {ub ub' ui : Value} {w w' w3 : World}
structure Chx (s : Nc) (pb : Nat) (X : Nat → Prop) (ut ub : Value) (w : World) (v0 b9 bi bt : Nat) (xc c9 tc : Array Value) (i : Nat) (As : Option Addr) (nm : ByteArray) : Prop where
  v : Bf s pb ut ub w v0 #[.pointer (some ⟨s.V, 0, none⟩)]
  nd : Bf s pb ut ub w (v0 + 1) xc
  r : Bf s pb ut ub w (v0 + 2) #[.string ⟨#[]⟩, .bool false]
  b : Bf s pb ut ub w b9 c9
  i : Bf s pb ut ub w bi #[.int .i64 i]
  t : Bf s pb ut ub w bt tc
  sx : StrsX w (Xs X s.O s.M pb ut ub) As [nm]
  x9 : X b9
  xt : X bt
  xr : X (v0 + 2)
  ds : v0 + 2 < b9 ∧ b9 < bi ∧ bt = bi + 1
variable {v0 b9 bi bt i : Nat} {xc c9 tc tc' : Array Value} {As : Option Addr} {nm : ByteArray}
theorem le_branch (hx : X bt) (hf : Fr w w' (fun k => k = s.M ∨ k = s.O ∨ some k = ut.ownBlock ∨ k = bt)) (hn : Nwb w ut ut') : Le w (Xs X s.O s.M pb ut ub) w' (Xs X s.O s.M pb ut' ub) := Le.of_fr hf (fun k _ e => by
    rcases e with e | e | e | e
    · exact .inr (.inr (.inl e))
    · exact .inr (.inl e)
    · exact .inr (.inr (.inr (.inr (.inl e.symm))))
    · exact .inl (e ▸ hx)) (fun k hk e => by
    rcases e with e | e | e | e | e | e
    · exact .inl e
    · exact .inr (.inl e)
    · exact .inr (.inr (.inl e))
    · exact .inr (.inr (.inr (.inl e)))
    · rcases hn k e with q | q
      · exact .inr (.inr (.inr (.inr (.inl q))))
      · omega
    · exact .inr (.inr (.inr (.inr (.inr e)))))
theorem Bf.br {b : Nat} {cs : Array Value} (h : Bf s pb ut ub w b cs) (hb : b ≠ bt) (hf : Fr w w' (fun k => k = s.M ∨ k = s.O ∨ some k = ut.ownBlock ∨ k = bt)) (hn : Nwb w ut ut') : Bf s pb ut' ub w' b cs := h.step hf (fun e => by
  rcases e with e | e | e | e
  · exact .inl e
  · exact .inr (.inl e)
  · exact .inr (.inr (.inl e))
  · exact absurd e hb) hn (Nwb.refl _ _)
theorem Chx.branch (h : Chx s pb X ut ub w v0 b9 bi bt xc c9 tc i As nm) (hf : Fr w w' (fun k => k = s.M ∨ k = s.O ∨ some k = ut.ownBlock ∨ k = bt)) (hn : Nwb w ut ut') (ht : Bx w' bt tc') : Chx s pb X ut' ub w' v0 b9 bi bt xc c9 tc' i As nm := by
  have d := h.ds
  exact ⟨h.v.br (by omega) hf hn, h.nd.br (by omega) hf hn, h.r.br (by omega) hf hn, h.b.br (by omega) hf hn, h.i.br (by omega) hf hn, ⟨ht, h.t.2.nwb hn h.t.1.lt⟩, h.sx.le (le_branch h.xt hf hn), h.x9, h.xt, h.xr, h.ds⟩
theorem Chx.put (h : Chx s pb X ut ub w v0 b9 bi bt xc c9 tc i As nm) (j : Nat) (u : Value) : Chx s pb X ut ub (w.setCell ⟨b9, j, none⟩ u) v0 b9 bi bt xc (c9.setIfInBounds j u) tc i As nm := by
  have d := h.ds
  have hf := Fr.of_set w ⟨b9, j, none⟩ u
  exact ⟨h.v.oth hf (by show ¬ v0 = b9; omega), h.nd.oth hf (by show ¬ v0 + 1 = b9; omega), h.r.oth hf (by show ¬ v0 + 2 = b9; omega), ⟨h.b.1.set j u, h.b.2⟩, h.i.oth hf (by show ¬ bi = b9; omega), h.t.oth hf (by show ¬ bt = b9; omega), h.sx.le (le_open_set hf fun k e => .inl (by have e' : k = b9 := e; rw [e']; exact h.x9)), h.x9, h.xt, h.xr, h.ds⟩
theorem Ns.put (hs : Ns s pb po X n env ts ut bs ub w) (h : Chx s pb X ut ub w v0 b9 bi bt xc c9 tc i As nm) (j : Nat) (u : Value) : Ns s pb po X n env ts ut bs ub (w.setCell ⟨b9, j, none⟩ u) := hs.close (Fr.of_set w ⟨b9, j, none⟩ u) (fun k e => by have e' : k = b9 := e; rw [e']; exact h.x9) (fun k e => by have e' : k = b9 := e; rw [e']; exact h.b.2) (fun _ e => e)
theorem le_put (h : Chx s pb X ut ub w v0 b9 bi bt xc c9 tc i As nm) (j : Nat) (u : Value) : Le w (Xs X s.O s.M pb ut ub) (w.setCell ⟨b9, j, none⟩ u) (Xs X s.O s.M pb ut ub) := le_open_set (Fr.of_set w ⟨b9, j, none⟩ u) fun k e => .inl (by have e' : k = b9 := e; rw [e']; exact h.x9)
variable {r : Nr} {sz n1 : Nat} {W w7 : World} {u1 b1 u2 : Value}
/-- After the temporary, its index and the variable t have been made. -/
theorem chx_start (q : Ch1 s pb po X0 n env ut bs ub r sz w W w3 b9 n1 u1 b1 As) (hz : W.heap.size = w.heap.size + 3) (h3 : Bf s pb ut ub W w.heap.size #[.pointer (some ⟨s.V, 0, none⟩)]) (h4 : Bf s pb ut ub W (w.heap.size + 1) xc) (h6 : Bf s pb ut ub W (w.heap.size + 2) #[.string ⟨#[]⟩, .bool false])
    (hs : Ns s pb po (fun k => X0 k ∨ (w.heap.size ≤ k ∧ k < W.heap.size) ∨ k = b9) n1 env ts' u2 (bs ++ r.bs) b1 w7) (hf : Fr w3 w7 (fun k => k = s.O ∨ some k = u1.ownBlock)) (hn : Nwb w3 u1 u2) (i : Nat) :
    Ns s pb po (fun k => (X0 k ∨ (w.heap.size ≤ k ∧ k < W.heap.size) ∨ k = b9) ∨ (w7.heap.size ≤ k ∧ k < w7.heap.size + 2)) n1 env ts' u2 (bs ++ r.bs) b1 ((w7.alloc (Obj.cells #[.int .i64 i] 3)).alloc (Obj.cells #[.string ⟨#[]⟩, .bool false] 65)) ∧ Chx s pb (fun k => (X0 k ∨ (w.heap.size ≤ k ∧ k < W.heap.size) ∨ k = b9) ∨ (w7.heap.size ≤ k ∧ k < w7.heap.size + 2)) u2 b1 ((w7.alloc (Obj.cells #[.int .i64 i] 3)).alloc (Obj.cells #[.string ⟨#[]⟩, .bool false] 65)) w.heap.size b9 w7.heap.size (w7.heap.size + 1) xc #[.string ⟨#[]⟩, .bool false, .int .u8 83, .int .i64 0, .string ⟨#[]⟩, .slice As 1 1, .slice none 0 0, .slice none 0 0] #[.string ⟨#[]⟩, .bool false] i As r.p.name ∧ Fr W ((w7.alloc (Obj.cells #[.int .i64 i] 3)).alloc (Obj.cells #[.string ⟨#[]⟩, .bool false] 65)) (Ng s pb ut ub) ∧ Nwb W ut u2 ∧ Nwb W ub b1 := by
  have hb1 := below_box w7 (Obj.cells #[.int .i64 i] 3)
  have hb2 := below_box (w7.alloc (Obj.cells #[.int .i64 i] 3)) (Obj.cells #[.string ⟨#[]⟩, .bool false] 65)
  have hb := below_step hb1 hb1.size hb2
  have hz2 : ((w7.alloc (Obj.cells #[.int .i64 i] 3)).alloc (Obj.cells #[.string ⟨#[]⟩, .bool false] 65)).heap.size = w7.heap.size + 2 := by simp
  have hx8 := (bx_new w7 #[.int .i64 i] 3).below hb2
  have hx9 := bx_new (w7.alloc (Obj.cells #[.int .i64 i] 3)) #[.string ⟨#[]⟩, .bool false] 65
  rw [show (w7.alloc (Obj.cells #[.int .i64 i] 3)).heap.size = w7.heap.size + 1 by simp] at hx9
  have hns := hs.open hb
  rw [hz2] at hns
  have hW3 := q.fr.size
  have h37 := hf.size
  have hl9 := q.bx.1.lt
  have hlo := q.lo
  have st : ∀ {b : Nat} {cs : Array Value}, Bf s pb ut ub W b cs → Bf s pb u2 b1 ((w7.alloc (Obj.cells #[.int .i64 i] 3)).alloc (Obj.cells #[.string ⟨#[]⟩, .bool false] 65)) b cs := fun hbf => ((hbf.step q.fr id q.nu q.nb).step hf (fun e => e.elim (fun e => .inr (.inl e)) (fun e => .inr (.inr (.inl e)))) hn (Nwb.refl _ _)).below hb
  have hle : Le w7 (Xs (fun k => X0 k ∨ (w.heap.size ≤ k ∧ k < W.heap.size) ∨ k = b9) s.O s.M pb u2 b1) ((w7.alloc (Obj.cells #[.int .i64 i] 3)).alloc (Obj.cells #[.string ⟨#[]⟩, .bool false] 65)) (Xs (fun k => (X0 k ∨ (w.heap.size ≤ k ∧ k < W.heap.size) ∨ k = b9) ∨ (w7.heap.size ≤ k ∧ k < w7.heap.size + 2)) s.O s.M pb u2 b1) := by
    have h := le_open (pb := pb) (ut := u2) (ub := b1) (O := s.O) (M := s.M) (fun k => X0 k ∨ (w.heap.size ≤ k ∧ k < W.heap.size) ∨ k = b9) hb
    rw [hz2] at h
    exact h
  refine ⟨hns, ⟨st h3, st h4, st h6, ((q.bx.step hf (fun e => e.elim (fun e => .inr (.inl e)) (fun e => .inr (.inr (.inl e)))) hn (Nwb.refl _ _)).below hb), ⟨hx8, far_new hs.olds (Nat.le_refl _)⟩, ⟨hx9, far_new hs.olds (Nat.le_succ _)⟩, (q.sx.le (le_tmp hf hn)).le hle, .inl (.inr (.inr rfl)), .inr ⟨by omega, by omega⟩, .inl (.inr (.inl ⟨by omega, by omega⟩)), ⟨by omega, by omega, rfl⟩⟩, ?_, q.nu.trans hn hW3, q.nb⟩
  refine (q.fr.trans hf (fun k hk e => ?_)).trans (Fr.of_below hb (Ng s pb ut ub)) (fun _ _ e => e)
  rcases e with e | e
  · exact .inr (.inl e)
  · rcases q.nu k e.symm with p | p
    · exact .inr (.inr (.inl p.symm))
    · omega
theorem Chx.put6 {u0 u1 u2 u3 u4 u5 u6 u7 : Value} (h : Chx s pb X ut ub w v0 b9 bi bt xc #[u0, u1, u2, u3, u4, u5, u6, u7] tc i As nm) (v : Value) : Chx s pb X ut ub (w.setCell ⟨b9, 6, none⟩ v) v0 b9 bi bt xc #[u0, u1, u2, u3, u4, u5, v, u7] tc i As nm := h.put 6 v
theorem Chx.put7 {u0 u1 u2 u3 u4 u5 u6 u7 : Value} (h : Chx s pb X ut ub w v0 b9 bi bt xc #[u0, u1, u2, u3, u4, u5, u6, u7] tc i As nm) (v : Value) : Chx s pb X ut ub (w.setCell ⟨b9, 7, none⟩ v) v0 b9 bi bt xc #[u0, u1, u2, u3, u4, u5, u6, v] tc i As nm := h.put 7 v
theorem Chx.put01 {u0 u1 u2 u3 u4 u5 u6 u7 : Value} (h : Chx s pb X ut ub w v0 b9 bi bt xc #[u0, u1, u2, u3, u4, u5, u6, u7] tc i As nm) (v v' : Value) : Chx s pb X ut ub ((w.setCell ⟨b9, 0, none⟩ v).setCell ⟨b9, 1, none⟩ v') v0 b9 bi bt xc #[v, v', u2, u3, u4, u5, u6, u7] tc i As nm :=
  (show Chx s pb X ut ub (w.setCell ⟨b9, 0, none⟩ v) v0 b9 bi bt xc #[v, u1, u2, u3, u4, u5, u6, u7] tc i As nm from h.put 0 v).put 1 v'
/-- A branch comes to an end: its slice is stored. -/
theorem br_put {W0' : World} {u : Value} (hz : W.heap.size = v0 + 3) (h : Chx s pb X ut ub w v0 b9 bi bt xc c9 tc i As nm) (hf0 : Fr W w (Ng s pb u ui)) (hn0 : Nwb W u ut) (hs : Ns s pb po X n env ts ut' bs ub W0') (hf : Fr w W0' (fun k => k = s.M ∨ k = s.O ∨ some k = ut.ownBlock ∨ k = bt)) (hn : Nwb w ut ut') (ht : Bx W0' bt tc') (j : Nat) (v : Value) : Ns s pb po X n env ts ut' bs ub (W0'.setCell ⟨b9, j, none⟩ v) ∧ Fr W (W0'.setCell ⟨b9, j, none⟩ v) (Ng s pb u ui) ∧ Nwb W u ut' ∧ Le w (Xs X s.O s.M pb ut ub) (W0'.setCell ⟨b9, j, none⟩ v) (Xs X s.O s.M pb ut' ub) ∧ Le W0' (Xs X s.O s.M pb ut' ub) (W0'.setCell ⟨b9, j, none⟩ v) (Xs X s.O s.M pb ut' ub) := by
  have d := h.ds
  have hc := h.branch hf hn ht
  refine ⟨hs.put hc j v, (hf0.trans hf (fun k hk e => ?_)).trans (Fr.of_set W0' ⟨b9, j, none⟩ v) (fun k hk e => ?_), hn0.trans hn hf0.size, (le_branch h.xt hf hn).trans (le_put hc j v), le_put hc j v⟩
  · rcases e with e | e | e | e
    · exact .inl e
    · exact .inr (.inl e)
    · rcases hn0 k e.symm with p | p
      · exact .inr (.inr (.inl p.symm))
      · omega
    · omega
  · have e' : k = b9 := e
    omega
/-- The type and the name of the temporary are stored. -/
theorem br_two {u : Value} (hz : W.heap.size = v0 + 3) (h : Chx s pb X ut ub w v0 b9 bi bt xc c9 tc i As nm) (hf0 : Fr W w (Ng s pb u ui)) (hs : Ns s pb po X n env ts ut bs ub w) (v v' : Value) : Ns s pb po X n env ts ut bs ub ((w.setCell ⟨b9, 0, none⟩ v).setCell ⟨b9, 1, none⟩ v') ∧ Fr W ((w.setCell ⟨b9, 0, none⟩ v).setCell ⟨b9, 1, none⟩ v') (Ng s pb u ui) ∧ Le w (Xs X s.O s.M pb ut ub) ((w.setCell ⟨b9, 0, none⟩ v).setCell ⟨b9, 1, none⟩ v') (Xs X s.O s.M pb ut ub) := by
  have d := h.ds
  have hf := Fr.set2 w b9 v v'
  exact ⟨hs.close hf (fun k e => by have e' : k = b9 := e; rw [e']; exact h.x9) (fun k e => by have e' : k = b9 := e; rw [e']; exact h.b.2) (fun _ e => e), hf0.trans hf (fun k hk e => by have e' : k = b9 := e; omega), le_open_set hf fun k e => .inl (by have e' : k = b9 := e; rw [e']; exact h.x9)⟩
/-- The choice comes to an end. -/
theorem ch_end {w5 W5 : World} {u ub5 v v' : Value} {bs5 : List Bd} (hz : W.heap.size = v0 + 3) (hv : v0 = w.heap.size) (hx0 : ∀ k, X0 k → X k) (hcx : Chx s pb X ut ub w5 v0 b9 bi bt xc c9 #[v, v'] i As nm) (hf0 : Fr W w5 (Ng s pb u ui)) (hbw : Below w.heap.size w W) (hn : Nwb W u ut) (hnb : Nwb W ui ub) (hs : Ns s pb po X n env ts ut bs5 ub5 W5) (hf : Fr w5 W5 (fun k => k = pb ∨ some k = ub.ownBlock)) (hn5 : Nwb w5 ub ub5) :
    Bf s pb ut ub5 W5 (v0 + 2) #[.string ⟨#[]⟩, .bool false] ∧ Bf s pb ut ub5 W5 bt #[v, v'] ∧ (Ns s pb po X0 n env ts ut bs5 ub5 ((W5.setCell ⟨v0 + 2, 0, none⟩ v).setCell ⟨v0 + 2, 1, none⟩ v') ∧ Fr w ((W5.setCell ⟨v0 + 2, 0, none⟩ v).setCell ⟨v0 + 2, 1, none⟩ v') (Ng s pb u ui)) ∧ Nwb w u ut ∧ Nwb w ui ub5 := by
  have st : ∀ {b : Nat} {cs : Array Value}, Bf s pb ut ub w5 b cs → Bf s pb ut ub5 W5 b cs := fun h => h.step hf (fun e => e.elim (fun e => .inr (.inr (.inr (.inl e)))) (fun e => .inr (.inr (.inr (.inr e))))) (Nwb.refl _ _) hn5
  have hr := st hcx.r
  have hww := hbw.size
  refine ⟨hr, st hcx.t, ch_fin hx0 hcx.xr hs hr.2 ((Fr.of_below hbw (Ng s pb u ui)).trans (hf0.trans hf (fun k hk e => ?_)) (fun _ _ e => e)) (by omega) v v', hn.mono hww, (hnb.trans hn5 hf0.size).mono hww⟩
  rcases e with e | e
  · exact .inr (.inr (.inr (.inl e)))
  · rcases hnb k e.symm with p | p
    · exact .inr (.inr (.inr (.inr p.symm)))
    · omega
theorem setCell_off (w : World) (b : Nat) {i j : Nat} (u v : Value) (h : i ≠ j) : (w.setCell ⟨b, i, none⟩ u).setCell ⟨b, j, none⟩ v = (w.setCell ⟨b, j, none⟩ v).setCell ⟨b, i, none⟩ u := by
  unfold World.setCell
  congr 1
  apply Array.ext_getElem?
  intro k
  simp only [Array.getElem?_modify]
  by_cases hk : b = k
  · simp only [hk, if_true]
    cases w.heap[k]? with
    | none => rfl
    | some o =>
      cases o with
      | cells c e f =>
        simp only [Option.map_some, Option.isSome_none, Bool.false_eq_true, if_false]
        congr 2
        exact Array.setIfInBounds_comm u v h
      | _ => rfl
  · simp only [hk, if_false]
theorem Chx.below (h : Chx s pb X ut ub w v0 b9 bi bt xc c9 tc i As nm) (hb : Below w.heap.size w w') : Chx s pb X ut ub w' v0 b9 bi bt xc c9 tc i As nm := ⟨h.v.below hb, h.nd.below hb, h.r.below hb, h.b.below hb, h.i.below hb, h.t.below hb, h.sx.le (Le.belowA hb fun _ _ e => e), h.x9, h.xt, h.xr, h.ds⟩
theorem drew_fr (w : World) (m : Nat → Prop) : Fr w w.drew m := Fr.of_below (belowDrawnP (Below.refl _ w)) m
theorem drew_le (w : World) (X : Nat → Prop) : Le w X w.drew X := Le.belowA (belowDrawnP (Below.refl _ w)) fun _ _ e => e

end Go.Proofs.YtcoeakdpcigogaaDoor
