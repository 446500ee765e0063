/-
  The visitor's expr: a call's node.
  The visitor's choice: into a branch and back.
  A branch: where it stands after its expression.
-/
import Derived.Test.YtcoeakdpcigogaaDoorAnfEx5
import Derived.Test.YtcoeakdpcigogaaDoorAnfEx2
namespace Go.Proofs.YtcoeakdpcigogaaDoor
open Go.ChangeShapes Go.WideShapes Go.ChangeAt Go.RowKit Go.Sort Go.Maps

variable {s : Nc}
set_option maxRecDepth 100000 in
set_option maxHeartbeats 1000000 in
theorem nex_85 {x : Nd} (h85 : x.kind = 85) (ih : ∀ y, SizeOf.sizeOf y < SizeOf.sizeOf x → NexC s y) : NexC s x := by
  intro pb po X0 n env ts ut bs ub w Ak ck h hp
  obtain ⟨hbx, hx4, hx6, hsz⟩ := two_boxN w #[.int .u8 x.kind, .int .i64 x.num, .string x.name, .slice Ak x.kids.length ck] #[.string ⟨#[]⟩, .bool false]
  have HX4 := Lib.hid hx4
  have HX6 := Lib.hid hx6
  have HB := Lib.hid hbx
  have HSZ := Lib.hid hsz
  have HL0 := Lib.hid h.olds
  have HCA := Lib.hid (call_any h85 ih ck (h.open hbx) hp)
  clear h hp hbx hx4 hx6 hsz
  rw [h85] at HX4 HCA HB HSZ HX6 ⊢
  clear h85
  go_enter Tryd.func45, Tryd.ntmps45
  go_upto_region 1 with fail
  generalize (w.alloc _).alloc _ = W at HX4 HX6 HCA HB HSZ ⊢
  obtain ⟨a0, a1, a2, a3, _⟩ := HX4.out.four
  have hlt4 := HX4.out.lt
  obtain ⟨r, hr⟩ : ∃ r, nE s.lib x env ts = r := ⟨_, rfl⟩
  rw [hr] at HCA
  have HR := Lib.hid hr
  clear hr
  go_upto_region 13 with fail
  go_wp2_with fail
  refine HCA.out.mono ?_
  rintro e w5 ⟨rfl, n1, u1, b1, hn1, hs5, hf5, hnu5, hnb5⟩
  have HX65 := Lib.hid (HX6.out.fr hf5 (fun e => by have := ng_old HL0.out e; omega))
  have HD := Lib.hid (nx_fin (X0 := X0) HL0.out HB.out HSZ.out hs5 hf5 hnu5 hnb5 (.string r.p.name) (.bool r.p.list))
  have HBF := Lib.hid (HX65.out.set2 (.string r.p.name) (.bool r.p.list))
  clear hs5 hf5 hnu5 hnb5 a0 a1 a2 a3 hlt4
  obtain ⟨x0, x1, f0, f1⟩ := HX65.out.two
  have hlt6 := HX65.out.lt
  go_wp2_with fail
  generalize World.setCell _ _ _ = WF at HD HBF ⊢
  obtain ⟨g0, g1, _⟩ := HBF.out.two
  exact bodyPost_ret (v := .agg #[.string r.p.name, .bool r.p.list]) (by simp [results, Tryd.results45, go_sem, g0, g1]) rfl (by rw [HR.out]; exact ⟨rfl, n1, u1, b1, hn1, HD.out⟩)

end Go.Proofs.YtcoeakdpcigogaaDoor

namespace Go.Proofs.YtcoeakdpcigogaaDoor
open Go.ChangeShapes Go.WideShapes Go.ChangeAt Go.RowKit Go.Sort Go.Maps

variable {s : Nc} {pb po : Nat} {X0 : Nat → Prop} {n n' : Nat} {env env' : ByteArray → Option Pm} {ts ts' : List Pm} {ut ut' : Value} {bs bs' : List Bd} {ub ub' : Value} {w w' w3 : World}
theorem Ns.enter {W : World} (h : Ns s pb po X0 n env ts ut bs ub w) (hb : Below w.heap.size w W) {l : Nat} (hl1 : w.heap.size ≤ l) (hl : W.heap[l]? = some (.cells #[.slice none 0 0] 37 (0, 0))) : ∃ u4, Ns { s with c4 := u4 } l 0 (fun k => X0 k ∨ k = pb ∨ ub.ownBlock = some k ∨ (w.heap.size ≤ k ∧ k < W.heap.size ∧ k ≠ l)) n env ts ut [] (.slice none 0 0) W ∧ C4 s pb ub u4 := by
  obtain ⟨u4, ht, h4⟩ := h.t
  have q := h.olds
  have hsz := hb.size
  refine ⟨u4, ⟨⟨u4, ht.below hb, fun e => absurd e (by show l ≠ s.O; omega), fun _ => rfl⟩, h.v.below hb, h.vo, h.vb, h.vl, h.m.below hb, h.mo, h.mv, h.mb, h.ml, fun e => absurd e (by show l ≠ s.O; omega), by show l ≠ s.V; omega, by show l ≠ s.M; omega, by show s.W0.heap.size ≤ l; omega, fun _ => ⟨rfl, hl⟩, ⟨[], ⟨rfl, .inl ⟨rfl, rfl⟩⟩, RowG.nil⟩, fun k e => ?_⟩, h4⟩
  rcases e with e | e | e | e
  · have := h.x0 k e; omega
  · omega
  · have := q.2.2.2.2.2.1 k e; omega
  · exact e.2.1
theorem Ns.leave {W w5 : World} {X' : Nat → Prop} {u4 : Value} {l : Nat} (h : Ns s pb po X0 n env ts ut bs ub w) (hc : C4 s pb ub u4) (hb : Below w.heap.size w W) (hl1 : w.heap.size ≤ l) (hi : Ns { s with c4 := u4 } l 0 X' n' env ts' ut' bs' ub' w5) (hf : Fr W w5 (Ng { s with c4 := u4 } l ut (.slice none 0 0))) (hnu : Nwb W ut ut') : Ns s pb po (fun k => X0 k ∨ (w.heap.size ≤ k ∧ k < w5.heap.size)) n' env ts' ut' bs ub w5 ∧ Fr w w5 (fun k => k = s.M ∨ k = s.O ∨ some k = ut.ownBlock) := by
  obtain ⟨u5, ht5, h5⟩ := hi.t
  have q := h.olds
  have hsz := hb.size
  have e5 : u5 = u4 := h5.2 (by show l ≠ s.O; omega)
  subst e5
  obtain ⟨u6, ht6, _⟩ := h.t
  obtain ⟨cs, ho, hr⟩ := h.own
  have hfw : Fr w w5 (fun k => k = s.M ∨ k = s.O ∨ some k = ut.ownBlock) := (Fr.of_below hb _).trans hf (fun k hk e => by
    rcases e with e | e | e | e | e
    · exact .inl e
    · exact .inr (.inl e)
    · exact .inr (.inr e)
    · omega
    · cases e)
  have hpl := block_lt_of_cell h.c
  have hob := ht6.ob
  have hmb := h.mb
  have hgu := fun g e => (own_ty ho g e).1
  refine ⟨⟨⟨u5, ht5, hc⟩, hi.v, h.vo, h.vb, h.vl, hi.m, h.mo, h.mv, h.mb, h.ml, h.p4, h.pv, h.pm, h.pl, fun hp => ?_, ⟨cs, hfw.own ho fun g e e2 => ?_, hr.map (BdC.le (Le.of_fr hfw (fun k _ e => ?_) (fun k hk e => ?_)))⟩, fun k e => e.elim (fun e => by have := h.x0 k e; have := hfw.size; omega) (fun e => e.2)⟩, hfw⟩
  · rw [hfw.block _ hpl (fun e => by
      rcases e with e | e | e
      · exact h.pm e
      · exact hp e
      · exact h.pt e.symm)]
    exact h.ty hp
  · have := hgu g e
    rcases e2 with e2 | e2 | e2
    · omega
    · omega
    · exact h.tu g e2.symm e
  · rcases e with e | e | e
    · exact .inr (.inr (.inl e))
    · exact .inr (.inl e)
    · exact .inr (.inr (.inr (.inr (.inl e.symm))))
  · rcases e with e | e | e | e | e | e
    · rcases e with e | e
      · exact .inl e
      · omega
    · exact .inr (.inl e)
    · exact .inr (.inr (.inl e))
    · exact .inr (.inr (.inr (.inl e)))
    · rcases hnu k e with p | p
      · exact .inr (.inr (.inr (.inr (.inl p))))
      · omega
    · exact .inr (.inr (.inr (.inr (.inr e))))

end Go.Proofs.YtcoeakdpcigogaaDoor

namespace Go.Proofs.YtcoeakdpcigogaaDoor
open Go.ChangeShapes Go.WideShapes Go.ChangeAt Go.RowKit Go.Sort Go.Maps

variable {s : Nc} {pb po : Nat} {X0 : Nat → Prop} {b0 z n n' : Nat} {env env' : ByteArray → Option Pm} {ts ts' : List Pm} {ut ut' : Value} {bs l : List Bd} {ub ub' ui : Value} {w w' w3 : World}
structure Br (s : Nc) (pb po : Nat) (X0 : Nat → Prop) (b0 z n : Nat) (env : ByteArray → Option Pm) (ts : List Pm) (ut : Value) (bs : List Bd) (ub : Value) (l : List Bd) (ui : Value) (w : World) : Prop where
  ns : Ns s pb po (fun k => X0 k ∨ (b0 ≤ k ∧ k < z)) n env ts ut bs ub w
  own : ∃ cs, w.ownsRow s.B 67 8 ui l.length cs ∧ RowG (BdC w (fun k => Xs X0 s.O s.M pb ut ub k ∨ ui.ownBlock = some k)) cs l
  sep : ∀ g, ui.ownBlock = some g → b0 ≤ g ∧ g < z ∧ ut.ownBlock ≠ some g
  x0 : ∀ k, X0 k → k < b0
  old : s.O < b0 ∧ s.V < b0 ∧ s.M < b0 ∧ pb < b0 ∧ (∀ g, ub.ownBlock = some g → g < b0) ∧ s.W0.heap.size ≤ b0
theorem Br.below (h : Br s pb po X0 b0 z n env ts ut bs ub l ui w) (hb : Below w.heap.size w w') : Br s pb po X0 b0 z n env ts ut bs ub l ui w' := by
  obtain ⟨cs, ho, hr⟩ := h.own
  exact ⟨h.ns.below hb, ⟨cs, own_below ho hb, hr.map (BdC.le (Le.belowA hb fun _ _ e => e))⟩, h.sep, h.x0, h.old⟩
theorem Br.tmp {u4 : Value} (h : Br s pb po X0 b0 z n env ts ut bs ub l ui w) (ht : Tmp s.W0 w s.B s.O s.c0 s.c1 s.c2 ut u4 s.c5 ts) (ht' : Tmp s.W0 w' s.B s.O s.c0 s.c1 s.c2 ut u4 s.c5 ts') (h4 : C4 s pb ub u4) (hf : Fr w w' (fun k => some k = ut.ownBlock)) : Br s pb po X0 b0 z n env ts' ut bs ub l ui w' := by
  obtain ⟨cs, ho, hr⟩ := h.own
  exact ⟨h.ns.tmp ht ht' h4 (hf.mono fun k _ e => .inr e) (Nwb.refl _ _), ⟨cs, hf.own ho (fun g e e2 => (h.sep g e).2.2 e2.symm), hr.map (BdC.le (le_open_set hf fun k e => .inl (.inr (.inr (.inr (.inr (.inl e.symm)))))))⟩, h.sep, h.x0, h.old⟩
theorem Br.wrote (h : Br s pb po X0 b0 z n env ts ut bs ub l ui w) {b : Nat} (hb : X0 b) (hd : b ≠ s.O ∧ b ≠ s.V ∧ b ≠ s.M ∧ b ≠ pb ∧ ut.ownBlock ≠ some b ∧ ub.ownBlock ≠ some b ∧ s.W0.heap.size ≤ b) (hf : Fr w w' (fun k => k = b)) : Br s pb po X0 b0 z n env ts ut bs ub l ui w' := by
  obtain ⟨cs, ho, hr⟩ := h.own
  refine ⟨h.ns.close hf (fun k e => .inl (e ▸ hb)) (fun k e => by have e' : k = b := e; subst e'; exact hd) (fun k e => e), ⟨cs, hf.own ho (fun g e e2 => ?_), hr.map (BdC.le (le_open_set hf fun k e => .inl (.inl (e ▸ hb))))⟩, h.sep, h.x0, h.old⟩
  have e' : g = b := e2
  have := h.x0 b hb
  have := (h.sep g e).1
  omega
theorem Br.push {cs c8 : List Value} {t : Bd} {v' : Value} (h : Br s pb po X0 b0 z n env ts ut bs ub l ui w) (hr : RowG (BdC w (fun k => Xs X0 s.O s.M pb ut ub k ∨ ui.ownBlock = some k)) cs l) (hc : BdC w (fun k => Xs X0 s.O s.M pb ut ub k ∨ ui.ownBlock = some k) c8 t)
    (hown : w'.ownsRow s.B 67 8 v' (l.length + 1) (cs ++ c8)) (hf : Fr w w' (fun k => some k = ui.ownBlock)) (hn : Nwb w ui v') : Ns s pb po X0 n env ts ut bs ub w' ∧ ∃ A c, v' = .slice A (l.length + 1) c ∧ BdsX w' (Xs X0 s.O s.M pb ut ub) A (l ++ [t]) := by
  have q := h.old
  have q2 := h.ns.olds
  refine ⟨h.ns.close hf (fun k e => .inr ⟨(h.sep k e.symm).1, (h.sep k e.symm).2.1⟩) (fun k e => ?_) (fun k e => .inl e), ?_⟩
  · have h1 := h.sep k e.symm
    exact ⟨by omega, by omega, by omega, by omega, h1.2.2, fun e2 => by have := q.2.2.2.2.1 k e2; omega, by omega⟩
  · have hle : Le w (fun k => Xs X0 s.O s.M pb ut ub k ∨ ui.ownBlock = some k) w' (Xs X0 s.O s.M pb ut ub) := Le.of_fr hf (fun k _ e => .inr e.symm) (fun k _ e => .inl e)
    obtain ⟨A, c, e, hbd⟩ := bdsX_of_own (l := l ++ [t]) (by rw [List.length_append]; exact hown) ((hr.map (BdC.le hle)).snoc (BdC.le hle _ _ hc)) (X := Xs X0 s.O s.M pb ut ub) (fun g e e2 => by
      rcases hn g e with p | p
      · have h1 := h.sep g p
        rcases e2 with e2 | e2 | e2 | e2 | e2 | e2
        · have := h.x0 g e2; omega
        · omega
        · omega
        · omega
        · exact h1.2.2 e2
        · have := q.2.2.2.2.1 g e2; omega
      · rcases e2 with e2 | e2 | e2 | e2 | e2 | e2
        · have := h.ns.x0 g (.inl e2); omega
        · omega
        · omega
        · omega
        · have := q2.2.2.2.2.1 g e2; omega
        · have := q2.2.2.2.2.2.1 g e2; omega)
    rw [List.length_append] at e
    exact ⟨A, c, e, hbd⟩
theorem br_start {W w5 : World} {u4 : Value} {lb : Nat} {r : List Bd} (h : Ns s pb po X0 n env ts ut bs ub w) (hc : C4 s pb ub u4) (hb : Below w.heap.size w W) (hl1 : w.heap.size ≤ lb) (hl2 : lb < W.heap.size) (hi : Ns { s with c4 := u4 } lb 0 (fun k => X0 k ∨ k = pb ∨ ub.ownBlock = some k ∨ (w.heap.size ≤ k ∧ k < W.heap.size ∧ k ≠ lb)) n' env ts' ut' ([] ++ r) ub' w5) (hf : Fr W w5 (Ng { s with c4 := u4 } lb ut (.slice none 0 0))) (hnu : Nwb W ut ut') (hnb : Nwb W (.slice none 0 0) ub') : Br s pb po X0 w.heap.size w5.heap.size n' env ts' ut' bs ub r ub' w5 ∧ Fr w w5 (fun k => k = s.M ∨ k = s.O ∨ some k = ut.ownBlock) := by
  obtain ⟨hns, hfr⟩ := h.leave hc hb hl1 hi hf hnu
  obtain ⟨cs, ho, hr⟩ := hi.own
  obtain ⟨u5, ht, _⟩ := hi.t
  have q := h.olds
  refine ⟨⟨hns, ⟨cs, ho, hr.map (BdC.le (Le.less (fun k _ e => ?_)))⟩, fun g e => ?_, h.x0, ⟨q.1, q.2.1, q.2.2.1, q.2.2.2.1, q.2.2.2.2.2.1, q.2.2.2.2.2.2⟩⟩, hfr⟩
  · rcases e with e | e
    · rcases e with e | e | e | e | e | e
      · exact .inl (.inl e)
      · exact .inr (.inl e)
      · exact .inr (.inr (.inl e))
      · exact .inl (.inr (.inl e))
      · exact .inr (.inr (.inr (.inr (.inl e))))
      · exact .inl (.inr (.inr (.inl e)))
    · exact .inr (.inr (.inr (.inr (.inr e))))
  · have h1 := (ho.lt g e).2
    have := hb.size
    rcases hnb g e with p | p
    · cases p
    · exact ⟨by omega, h1, fun e2 => own_new ht.own ho (by decide) g e2 e⟩

end Go.Proofs.YtcoeakdpcigogaaDoor
