/-
  The closures of anf.normalize.
  Where the normalizer stands: its visitor, its map, its temporaries, its binds.
  A temporary; a bind.
  A bind is appended.
-/
import Derived.Test.YtcoeakdpcigogaaDoorAnfMap
import Derived.Test.YtcoeakdpcigogaaDoorFunRChk
import Derived.Test.YtcoeakdpcigogaaDoorFunReach
import Derived.Deep.RegionLaw
import Derived.Lib.ItoaLen
import Derived.Laws.OwnMore
namespace Go.Proofs.YtcoeakdpcigogaaDoor
open Go.ChangeShapes Go.WideShapes Go.ChangeAt Go.RowKit Go.Sort Go.Maps

theorem Bx.two {w : World} {b : Nat} {u0 u1 : Value} (h : Bx w b #[u0, u1]) : w.cell? ⟨b, 0, none⟩ = some u0 ∧ w.cell? ⟨b, 1, none⟩ = some u1 ∧ w.frozen? ⟨b, 0, none⟩ = false ∧ w.frozen? ⟨b, 1, none⟩ = false := ⟨h.cell rfl, h.cell rfl, h.free 0, h.free 1⟩
theorem Bx.six' {w : World} {b : Nat} {u0 u1 u2 u3 u4 u5 : Value} (h : Bx w b #[u0, u1, u2, u3, u4, u5]) : (w.cell? ⟨b, 0, none⟩ = some u0 ∧ w.cell? ⟨b, 1, none⟩ = some u1 ∧ w.cell? ⟨b, 2, none⟩ = some u2 ∧ w.cell? ⟨b, 3, none⟩ = some u3 ∧ w.cell? ⟨b, 4, none⟩ = some u4 ∧ w.cell? ⟨b, 5, none⟩ = some u5) ∧ w.frozen? ⟨b, 0, none⟩ = false ∧ w.frozen? ⟨b, 1, none⟩ = false ∧ w.frozen? ⟨b, 2, none⟩ = false ∧ w.frozen? ⟨b, 3, none⟩ = false ∧ w.frozen? ⟨b, 4, none⟩ = false ∧ w.frozen? ⟨b, 5, none⟩ = false := ⟨⟨h.cell rfl, h.cell rfl, h.cell rfl, h.cell rfl, h.cell rfl, h.cell rfl⟩, h.free 0, h.free 1, h.free 2, h.free 3, h.free 4, h.free 5⟩
theorem cells_litC (w : World) (cs : List Value) (T : TypeId) : CellsAt (w.alloc (Obj.cells cs.toArray T)) (some ⟨w.heap.size, 0, none⟩) cs := fun j u hu => ⟨w.heap.size, 0, rfl, by
  rw [Nat.zero_add]
  exact (show Bx (w.alloc (Obj.cells cs.toArray T)) w.heap.size cs.toArray from bx_new w _ T).cell (by simpa using hu)⟩
theorem info_pm : (Tryd.prog.info? 65).map (fun i => (i.zero, i.size, i.bytes)) = some (some (.agg #[.string ⟨#[]⟩, .bool false]), 2, 24) := by kernel_rfl

/-- The function that is being made, its temporaries. -/
structure Tmp (W0 w : World) (B O : Nat) (c0 c1 c2 ut u4 c5 : Value) (ts : List Pm) : Prop where
  bw : Below W0.heap.size W0 w
  lo : W0.heap.size ≤ O
  o : Bx w O #[c0, c1, c2, ut, u4, c5]
  own : w.ownsRow B 65 2 ut ts.length (pCells ts)
  ob : O < B
  bs : B ≤ w.heap.size
theorem Tmp.below {W0 w w' : World} {B O : Nat} {c0 c1 c2 ut u4 c5 : Value} {ts : List Pm} (h : Tmp W0 w B O c0 c1 c2 ut u4 c5 ts) (hb : Below w.heap.size w w') : Tmp W0 w' B O c0 c1 c2 ut u4 c5 ts :=
  ⟨below_step h.bw h.bw.size hb, h.lo, h.o.below hb, own_below h.own hb, h.ob, by have := h.bs; have := hb.size; omega⟩
/-- A slice's block: as before, or new. -/
def Nwb (w : World) (u u' : Value) : Prop := ∀ g, u'.ownBlock = some g → u.ownBlock = some g ∨ w.heap.size ≤ g

/-- A temporary is appended. -/
theorem Tmp.push {W0 w1 w2 : World} {o : Obj} {B O : Nat} {c0 c1 c2 ut v' u4 c5 : Value} {ts : List Pm} {p : Pm} (h : Tmp W0 w1 B O c0 c1 c2 ut u4 c5 ts) (hown : w2.ownsRow B 65 2 v' (ts.length + 1) (pCells ts ++ [.string p.name, .bool p.list])) (hg : (w1.alloc o).grownBy w2 ut.ownBlock) : Bx w2 O #[c0, c1, c2, ut, u4, c5] ∧ w2.ownsRow B 65 2 v' (ts ++ [p]).length (pCells (ts ++ [p])) ∧ Fr w1 w2 (fun k => some k = ut.ownBlock) := by
  have hge := fun g hg => own_block_geB h.own g hg
  have hob := h.ob
  exact ⟨(h.o.below (below_box w1 o)).fr (Fr.of_grown hg) (fun e => by have := hge _ e.symm; omega), by rw [pCells_snoc, List.length_append]; exact hown, (Fr.of_below (below_box w1 o) _).trans (Fr.of_grown hg) fun _ _ e => e⟩
theorem Tmp.made {W0 w w1 w2 : World} {o : Obj} {B O : Nat} {c0 c1 c2 ut v' u4 c5 : Value} {ts : List Pm} {p : Pm} (h : Tmp W0 w1 B O c0 c1 c2 ut u4 c5 ts) (hb : Below w.heap.size w w1) (hp : Bx w2 O #[c0, c1, c2, ut, u4, c5] ∧ w2.ownsRow B 65 2 v' (ts ++ [p]).length (pCells (ts ++ [p])) ∧ Fr w1 w2 (fun k => some k = ut.ownBlock)) (hat : v'.ownBlock = ut.ownBlock ∨ v'.ownBlock = some (w1.alloc o).heap.size) : Tmp W0 (w2.setCell ⟨O, 3, none⟩ v') B O c0 c1 c2 v' u4 c5 (ts ++ [p]) ∧ Fr w (w2.setCell ⟨O, 3, none⟩ v') (fun k => k = O ∨ some k = ut.ownBlock) ∧ Nwb w ut v' := by
  have hge := fun g hg => own_block_geB h.own g hg
  have hge2 := fun g hg => own_block_geB hp.2.1 g hg
  have hob := h.ob
  have hlo := h.lo
  have hfr := ((hp.2.2.mono (m' := fun k => k = O ∨ some k = ut.ownBlock) fun k _ e => .inr e).trans (Fr.of_set w2 ⟨O, 3, none⟩ v') fun k _ e => .inl e)
  refine ⟨⟨hfr.toBelow h.bw h.bw.size (fun k e => ?_), hlo, hp.1.set 3 v', (Fr.of_set w2 ⟨O, 3, none⟩ v').own hp.2.1 (fun g e q => by have := hge2 g e; have : g = O := q; omega), hob, by have := hfr.size; have := h.bs; omega⟩, (Fr.of_below hb _).trans hfr fun k _ e => e, fun g e => ?_⟩
  · rcases e with e | e
    · omega
    · have := hge k e.symm; omega
  · rcases hat with q | q
    · exact .inl (q ▸ e)
    · rw [q] at e; cases e
      right; have := hb.size; simp; omega

set_option maxRecDepth 100000 in
set_option maxHeartbeats 1000000 in
theorem fresh_any {W0 : World} (hW : Wld W0) {B O : Nat} {c0 c1 c2 ut u4 c5 : Value} {ts : List Pm} {w : World} (h : Tmp W0 w B O c0 c1 c2 ut u4 c5 ts) (hlen : ts.length < 100000) :
    Calls Tryd.prog 42 #[.pointer (some ⟨O, 0, none⟩)] w fun e w' => e = .returned (.int .i64 ts.length) ∧ ∃ ut', Tmp W0 w' B O c0 c1 c2 ut' u4 c5 (ts ++ [⟨tmpN ts.length, false⟩]) ∧ Fr w w' (fun k => k = O ∨ some k = ut.ownBlock) ∧ Nwb w ut ut' := by
  obtain ⟨At, ct, rfl, hct, hqq⟩ := own_formB h.own
  clear hqq
  obtain ⟨i0, hi0, hz0, hz1, hz2⟩ := info_parts info_pm
  have HI := Lib.hid (itoa_any ts.length w.drew ((hW.below h.bw).below (belowDrawnP (Below.refl _ w))) (by omega))
  have HT := Lib.hid h
  have hlt := h.o.lt
  have hbs := h.bs
  obtain ⟨⟨y0, y1, y2, y3, y4, y5⟩, f0, f1, f2, f3, f4, f5⟩ := h.o.six'
  have hge := Lib.hid (fun g hg => own_block_geB h.own g hg)
  clear h
  go_enter Tryd.func42, Tryd.ntmps42
  go_upto_region 1 with fail
  have hcat := tmpN_cat ts.length
  have hil : ¬ 9223372036854775807 < 1 + (Lib.itoa (ts.length : Int)).length := by have := Lib.itoa_length_le (ts.length : Int) (by omega) (by omega); omega
  have hnl : ¬ ((ts.length : Int) < 0) := by omega
  have hrem : ((ts.length : Int) + 1 - 1) = ts.length := by omega
  go_region_law (first
    | (refine step_app _ (by rfl) (.tmp 3) (.tmp 10) 36 (by rfl) B 65 i0 (.agg #[.string ⟨#[]⟩, .bool false]) 2 24 Tryd.underlying36 hi0 hz0 hz1 hz2 rfl (by decide) (.slice At ts.length ct) ts.length (pCells ts) (by simp [Act.eval]) (HTN.out.own.alloc _) (some ⟨w1.heap.size, 0, none⟩) 1 1 [.string (tmpN ts.length), .bool false] (by simp [Act.eval]) rfl (cells_litC w1 _ _) (fun u hu => by simp at hu; rcases hu with rfl | rfl <;> rfl) (by unfold maxLen; omega) (by omega) (by simp; have := HTN.out.bs; omega) ?_; intro v' w2 hown' hgrow hat; obtain ⟨A2, d2, rfl, hd2, hqq⟩ := own_formB hown'; clear hqq; have HTA := Lib.hid (HTN.out.push (p := ⟨tmpN ts.length, false⟩) hown' hgrow); have HAT := Lib.hid hat; have HGR := Lib.hid hgrow; clear hown' hgrow hat; obtain ⟨⟨y0, y1, y2, y3, y4, y5⟩, f0, f1, f2, f3, f4, f5⟩ := HTA.out.1.six')
    | (go_simp; go_at_call 43; refine HI.out.mono ?_; rintro e w1 ⟨rfl, hb1⟩; have HTN := Lib.hid (HT.out.below (below_step (belowDrawnP (Below.refl _ w)) (Nat.le_refl _) hb1)); have HB1 := Lib.hid (below_step (belowDrawnP (Below.refl _ w)) (Nat.le_refl _) hb1); clear hb1; obtain ⟨⟨y0, y1, y2, y3, y4, y5⟩, f0, f1, f2, f3, f4, f5⟩ := HTN.out.o.six'; have hlt1 := HTN.out.o.lt; dsimp only)
    | fail)
  all_goals
    have HF := Lib.hid (Tmp.made (w := w) HTN.out HB1.out HTA.out HAT.out)
    generalize World.setCell _ _ _ = WF at HF ⊢
    obtain ⟨⟨g0, g1, g2, g3, g4, g5⟩, _⟩ := HF.out.1.o.six'
    have hwr : IntKind.i64.wrap ((ts.length : Int) + 1 - 1) = ts.length := by rw [IntKind.wrap_i64] <;> omega
    go_wp2_with fail
    go_ret
    exact ⟨by simp, _, HF.out⟩

theorem pCells_set {ts : List Pm} {i : Nat} (hi : i < ts.length) (l : Bool) : pCells (ts.set i ⟨ts[i].name, l⟩) = (pCells ts).set (i * 2 + 1) (.bool l) := by
  induction ts generalizing i with
  | nil => simp at hi
  | cons p r ih =>
    cases i with
    | zero => simp [pCells]
    | succ i =>
      have h := ih (i := i) (by simpa using hi)
      have e1 : ∀ (q : Pm) (x : List Pm), pCells (q :: x) = .string q.name :: .bool q.list :: pCells x := fun q x => by unfold pCells; rw [List.flatMap_cons]; rfl
      rw [List.set_cons_succ, e1, e1, show (i + 1) * 2 + 1 = (i * 2 + 1) + 1 + 1 by omega, List.set_cons_succ, List.set_cons_succ]
      simp only [List.getElem_cons_succ]
      rw [h]
theorem setL_eq {ts : List Pm} {i : Nat} (hi : i < ts.length) (hn : ts[i].name = tmpN i) (l : Bool) : setL ts i l = ts.set i ⟨ts[i].name, l⟩ := by unfold setL; rw [hn]
theorem setL_len (ts : List Pm) (i : Nat) (l : Bool) : (setL ts i l).length = ts.length := by unfold setL; simp
set_option maxRecDepth 100000 in
set_option maxHeartbeats 1000000 in
theorem typed_any {W0 : World} {B O : Nat} {c0 c1 c2 ut u4 c5 : Value} {ts : List Pm} {w : World} (h : Tmp W0 w B O c0 c1 c2 ut u4 c5 ts) {i : Nat} (hi : i < ts.length) (hn : ts[i].name = tmpN i) (l : Bool) :
    Calls Tryd.prog 44 #[.int .i64 i, .bool l, .pointer (some ⟨O, 0, none⟩)] w fun e w' => e = .returned (.agg #[.string (tmpN i), .bool l]) ∧ Tmp W0 w' B O c0 c1 c2 ut u4 c5 (setL ts i l) ∧ Fr w w' (fun k => some k = ut.ownBlock) := by
  obtain ⟨g, ct, rfl, hg, hgl⟩ := h.own.form (by omega)
  have hbx := below_box w (Obj.cells #[.string ⟨#[]⟩, .bool false] 65)
  have HX0 := Lib.hid (bx_new w #[.string ⟨#[]⟩, .bool false] 65)
  have HT1 := Lib.hid (h.below hbx)
  have HB := Lib.hid hbx
  have HS1 := Lib.hid (show w.heap.size < (w.alloc (Obj.cells #[.string ⟨#[]⟩, .bool false] 65)).heap.size by simp)
  have hob := h.ob
  have HL := Lib.hid h.o.lt
  clear h hbx
  go_enter Tryd.func44, Tryd.ntmps44
  go_upto_region 1 with fail
  generalize w.alloc _ = W at HX0 HT1 HB HS1 ⊢
  obtain ⟨⟨y0, y1, y2, y3, y4, y5⟩, f0, f1, f2, f3, f4, f5⟩ := HT1.out.o.six'
  obtain ⟨x0, x1, k0, k1⟩ := HX0.out.two
  have hol := HT1.out.o.lt
  have p1 : W.cell? ⟨g, i * 2 + 1, none⟩ = some (.bool ts[i].list) := by
    rw [HT1.out.own.cellAt _ (by omega)]; exact (pCells_get ts i ts[i] (List.getElem?_eq_getElem hi)).2
  have q1 := HT1.out.own.frozenAt (i * 2 + 1)
  have r1 : (0 : Int) ≤ i := by omega
  have r2 : (i : Int) < ts.length := by omega
  have hgw : g < W.heap.size := by have := HS1.out; omega
  go_upto_region 2 with fail
  have HST := Lib.hid (HT1.out.own.stored (i * 2 + 1) (.bool l))
  have HFX := Lib.hid (Fr.of_set W ⟨g, i * 2 + 1, none⟩ (.bool l))
  generalize World.setCell _ _ _ = V at HST HFX ⊢
  have HTV := Lib.hid (show Tmp W0 V B O c0 c1 c2 (.slice (some ⟨g, 0, none⟩) ts.length ct) u4 c5 (setL ts i l) from ⟨HFX.out.toBelow HT1.out.bw HT1.out.bw.size (fun k e => by have := HT1.out.lo; have e' : k = g := e; omega), HT1.out.lo, HT1.out.o.fr HFX.out (fun e => by have e' : O = g := e; omega), by rw [setL_len, setL_eq hi hn, pCells_set hi]; exact HST.out.1, hob, by have := HT1.out.bs; have := HFX.out.size; omega⟩)
  have HXV := Lib.hid (HX0.out.fr HFX.out (fun e => by have e' : w.heap.size = g := e; omega))
  have HFV := Lib.hid ((Fr.of_below HB.out (fun k => some k = (Value.slice (some ⟨g, 0, none⟩) ts.length ct).ownBlock)).trans HFX.out (fun k hk e => by have e' : k = g := e; rw [e']; rfl))
  have hlt := HXV.out.lt
  clear y0 y1 y2 y3 y4 y5 f0 f1 f2 f3 f4 f5 x0 x1 k0 k1 p1 q1 HT1 HX0 HB HS1 HFX
  obtain ⟨⟨y0, y1, y2, y3, y4, y5⟩, f0, f1, f2, f3, f4, f5⟩ := HTV.out.o.six'
  obtain ⟨x0, x1, k0, k1⟩ := HXV.out.two
  have p0 : V.cell? ⟨g, i * 2, none⟩ = some (.string (tmpN i)) := by
    rw [HST.out.1.cellAt _ (by omega), List.getElem?_set_ne (by omega), (pCells_get ts i ts[i] (List.getElem?_eq_getElem hi)).1, hn]
  have p1 : V.cell? ⟨g, i * 2 + 1, none⟩ = some (.bool l) := by
    rw [HST.out.1.cellAt _ (by omega)]
    exact List.getElem?_set_self (by rw [pCells_len]; omega)
  have hgv := block_lt_of_cell p0
  go_wp2_with fail
  have HF := Lib.hid (show Bx ((V.setCell ⟨w.heap.size, 0, none⟩ (.string (tmpN i))).setCell ⟨w.heap.size, 1, none⟩ (.bool l)) w.heap.size #[.string (tmpN i), .bool l] from (HXV.out.set 0 _).set 1 _)
  have HFF := Lib.hid (show Fr V ((V.setCell ⟨w.heap.size, 0, none⟩ (.string (tmpN i))).setCell ⟨w.heap.size, 1, none⟩ (.bool l)) (fun k => k = w.heap.size) from ((Fr.of_set V ⟨w.heap.size, 0, none⟩ (.string (tmpN i))).trans (Fr.of_set _ ⟨w.heap.size, 1, none⟩ (.bool l)) (fun _ _ e => e)))
  generalize World.setCell _ _ _ = WF at HF HFF ⊢
  obtain ⟨g0, g1, _⟩ := HF.out.two
  have hws := HL.out
  exact bodyPost_ret (v := .agg #[.string (tmpN i), .bool l]) (by simp [results, Tryd.results44, go_sem, g0, g1]) rfl ⟨rfl, ⟨HFF.out.toBelow HTV.out.bw HTV.out.bw.size (fun k e => by have e' : k = w.heap.size := e; have := HTV.out.lo; omega), HTV.out.lo, HTV.out.o.fr HFF.out (fun e => by have e' : O = w.heap.size := e; omega), HFF.out.own HTV.out.own (fun q e1 e => by have e' : q = w.heap.size := e; have e2 : g = q := Option.some.inj e1; omega), hob, by have := HTV.out.bs; have := HFF.out.size; omega⟩, (HFV.out.trans HFF.out (fun k hk e => by have e' : k = w.heap.size := e; omega))⟩

end Go.Proofs.YtcoeakdpcigogaaDoor

namespace Go.Proofs.YtcoeakdpcigogaaDoor
open Go.ChangeShapes Go.WideShapes Go.ChangeAt Go.RowKit Go.Sort Go.Maps

theorem Le.belowA {w w' : World} {X X' : Nat → Prop} (hb : Below w.heap.size w w') (hX : ∀ k, k < w.heap.size → X' k → X k) : Le w X w' X' := Le.of_fr (Fr.of_below hb fun _ => False) (fun _ _ e => e.elim) hX
theorem own_ty {w : World} {base : Nat} {e : TypeId} {size n : Nat} {v : Value} {xs : List Value} (h : w.ownsRow base e size v n xs) : ∀ g, v.ownBlock = some g → base ≤ g ∧ ∃ cur, w.heap[g]? = some (.cells cur e (0, 0)) := fun g hg => by
  rcases h.2 with ⟨rfl, _⟩ | ⟨g', cap, cur, rfl, hb, hh, _⟩
  · cases hg
  · obtain rfl := Option.some.inj hg
    exact ⟨hb, cur, hh⟩
def visB (A : Option Addr) (cap : Nat) (lib : List Fn1) (O M : Nat) : Array Value := #[.slice A lib.length cap, .map (some M), .func (.func 42) #[] #[.pointer (some ⟨O, 0, none⟩)], .func (.func 44) #[] #[.pointer (some ⟨O, 0, none⟩)]]
/-- The blocks that will be written still. -/
def Xs (X0 : Nat → Prop) (O M pb : Nat) (ut ub : Value) (k : Nat) : Prop := X0 k ∨ k = O ∨ k = M ∨ k = pb ∨ ut.ownBlock = some k ∨ ub.ownBlock = some k
/-- What stays while an expression is normalized. -/
structure Nc where
  W0 : World
  B : Nat
  V : Nat
  O : Nat
  M : Nat
  A : Option Addr
  cap : Nat
  lib : List Fn1
  c0 : Value
  c1 : Value
  c2 : Value
  c5 : Value
  c4 : Value
/-- The binds' field of the function that is being made. -/
def C4 (s : Nc) (pb : Nat) (ub u4 : Value) : Prop := (pb = s.O → u4 = ub) ∧ (pb ≠ s.O → u4 = s.c4)
structure Ns (s : Nc) (pb po : Nat) (X0 : Nat → Prop) (n : Nat) (env : ByteArray → Option Pm) (ts : List Pm) (ut : Value) (bs : List Bd) (ub : Value) (w : World) : Prop where
  t : ∃ u4, Tmp s.W0 w s.B s.O s.c0 s.c1 s.c2 ut u4 s.c5 ts ∧ C4 s pb ub u4
  v : Bx w s.V (visB s.A s.cap s.lib s.O s.M)
  vo : s.V ≠ s.O
  vb : s.V < s.B
  vl : s.W0.heap.size ≤ s.V
  m : MapP w s.M n env
  mo : s.M ≠ s.O
  mv : s.M ≠ s.V
  mb : s.M < s.B
  ml : s.W0.heap.size ≤ s.M
  p4 : pb = s.O → po = 4
  pv : pb ≠ s.V
  pm : pb ≠ s.M
  pl : s.W0.heap.size ≤ pb
  ty : pb ≠ s.O → po = 0 ∧ w.heap[pb]? = some (.cells #[ub] 37 (0, 0))
  own : ∃ cs, w.ownsRow s.B 67 8 ub bs.length cs ∧ RowG (BdC w (Xs X0 s.O s.M pb ut ub)) cs bs
  x0 : ∀ k, X0 k → k < w.heap.size
theorem frozen_of_block {w w' : World} {a : Addr} (h : w'.heap[a.block]? = w.heap[a.block]?) (hf : w.frozen? a = false) : w'.frozen? a = false := by
  unfold World.frozen? at *; rw [h]; exact hf
variable {s : Nc} {pb po : Nat} {X0 : Nat → Prop} {n : Nat} {env : ByteArray → Option Pm} {ts ts' : List Pm} {ut ut' : Value} {bs : List Bd} {ub : Value} {w w' : World}
theorem Ns.c (h : Ns s pb po X0 n env ts ut bs ub w) : w.cell? ⟨pb, po, none⟩ = some ub := by
  by_cases hp : pb = s.O
  · obtain ⟨u4, ht, h4⟩ := h.t
    rw [hp, h.p4 hp, ← h4.1 hp]; exact ht.o.cell rfl
  · obtain ⟨h0, h1⟩ := h.ty hp
    rw [h0]; exact Bx.cell (cs := #[ub]) ⟨_, h1⟩ rfl
theorem Ns.f (h : Ns s pb po X0 n env ts ut bs ub w) : w.frozen? ⟨pb, po, none⟩ = false := by
  by_cases hp : pb = s.O
  · obtain ⟨u4, ht, h4⟩ := h.t
    rw [hp]; exact ht.o.free _
  · exact Bx.free (cs := #[ub]) ⟨_, (h.ty hp).2⟩ _
/-- The pointer's block is no row's. -/
theorem Ns.pt (h : Ns s pb po X0 n env ts ut bs ub w) : ut.ownBlock ≠ some pb := fun e => by
  obtain ⟨u4, ht, _⟩ := h.t
  obtain ⟨h1, cur, h2⟩ := own_ty ht.own _ e
  by_cases hp : pb = s.O
  · have := ht.ob; omega
  · have h3 := (h.ty hp).2
    rw [h2] at h3; cases h3
theorem Ns.pu (h : Ns s pb po X0 n env ts ut bs ub w) : ub.ownBlock ≠ some pb := fun e => by
  obtain ⟨u4, ht, _⟩ := h.t
  obtain ⟨cs, ho, _⟩ := h.own
  obtain ⟨h1, cur, h2⟩ := own_ty ho _ e
  by_cases hp : pb = s.O
  · have := ht.ob; omega
  · have h3 := (h.ty hp).2
    rw [h2] at h3; cases h3
theorem Ns.tu (h : Ns s pb po X0 n env ts ut bs ub w) : ∀ g, ut.ownBlock = some g → ub.ownBlock ≠ some g := fun g e1 e2 => by
  obtain ⟨u4, ht, _⟩ := h.t
  obtain ⟨cs, ho, _⟩ := h.own
  obtain ⟨_, cur, h2⟩ := own_ty ho _ e2
  obtain ⟨_, cur', h3⟩ := own_ty ht.own _ e1
  rw [h2] at h3; cases h3
theorem Ns.below (h : Ns s pb po X0 n env ts ut bs ub w) (hb : Below w.heap.size w w') : Ns s pb po X0 n env ts ut bs ub w' := by
  obtain ⟨u4, ht, h4⟩ := h.t
  obtain ⟨cs, ho, hr⟩ := h.own
  have hpl := block_lt_of_cell h.c
  exact ⟨⟨u4, ht.below hb, h4⟩, h.v.below hb, h.vo, h.vb, h.vl, h.m.below hb, h.mo, h.mv, h.mb, h.ml, h.p4, h.pv, h.pm, h.pl, fun hp => by rw [hb.block _ hpl]; exact h.ty hp, ⟨cs, own_below ho hb, hr.map (BdC.le (Le.belowA hb fun _ _ e => e))⟩, fun k hk => by have := h.x0 k hk; have := hb.size; omega⟩
/-- After the temporaries have turned. -/
theorem Ns.tmp (h : Ns s pb po X0 n env ts ut bs ub w) {u4 : Value} (ht : Tmp s.W0 w s.B s.O s.c0 s.c1 s.c2 ut u4 s.c5 ts) (ht' : Tmp s.W0 w' s.B s.O s.c0 s.c1 s.c2 ut' u4 s.c5 ts') (h4 : C4 s pb ub u4) (hf : Fr w w' (fun k => k = s.O ∨ some k = ut.ownBlock)) (hn : Nwb w ut ut') : Ns s pb po X0 n env ts' ut' bs ub w' := by
  obtain ⟨cs, ho, hr⟩ := h.own
  have hpl := block_lt_of_cell h.c
  have hge := fun g e => (own_ty ht.own g e).1
  have hgu := fun g e => (own_ty ho g e).1
  have hob := ht.ob
  have hnp : pb ≠ s.O → ¬ (pb = s.O ∨ some pb = ut.ownBlock) := fun hp e => e.elim hp (fun e => h.pt e.symm)
  refine ⟨⟨u4, ht', h4⟩, h.v.fr hf ?_, h.vo, h.vb, h.vl, h.m.fr hf ?_, h.mo, h.mv, h.mb, h.ml, h.p4, h.pv, h.pm, h.pl, fun hp => ?_, ⟨cs, hf.own ho ?_, hr.map (BdC.le (Le.of_fr hf ?_ ?_))⟩, fun k hk => by have := h.x0 k hk; have := hf.size; omega⟩
  · rintro (e | e)
    · exact h.vo e
    · have := hge _ e.symm; have := h.vb; omega
  · rintro (e | e)
    · exact h.mo e
    · have := hge _ e.symm; have := h.mb; omega
  · rw [hf.block _ hpl (hnp hp)]; exact h.ty hp
  · rintro g e (e2 | e2)
    · have := hgu g e; omega
    · exact h.tu g e2.symm e
  · rintro k _ (e | e)
    · exact .inr (.inl e)
    · exact .inr (.inr (.inr (.inr (.inl e.symm))))
  · rintro k hk (e | e | e | e | e | e)
    · exact .inl e
    · exact .inr (.inl e)
    · exact .inr (.inr (.inl e))
    · exact .inr (.inr (.inr (.inl e)))
    · rcases hn k e with q | q
      · exact .inr (.inr (.inr (.inr (.inl q))))
      · omega
    · exact .inr (.inr (.inr (.inr (.inr e))))

/-- What has been made since is open. -/
theorem Ns.open (h : Ns s pb po X0 n env ts ut bs ub w) (hb : Below w.heap.size w w') : Ns s pb po (fun k => X0 k ∨ (w.heap.size ≤ k ∧ k < w'.heap.size)) n env ts ut bs ub w' := by
  obtain ⟨u4, ht, h4⟩ := h.t
  obtain ⟨cs, ho, hr⟩ := h.own
  have hpl := block_lt_of_cell h.c
  refine ⟨⟨u4, ht.below hb, h4⟩, h.v.below hb, h.vo, h.vb, h.vl, h.m.below hb, h.mo, h.mv, h.mb, h.ml, h.p4, h.pv, h.pm, h.pl, fun hp => by rw [hb.block _ hpl]; exact h.ty hp, ⟨cs, own_below ho hb, hr.map (BdC.le (Le.belowA hb fun k hk e => ?_))⟩, fun k hk => ?_⟩
  · rcases e with e | e
    · rcases e with e | e
      · exact .inl e
      · omega
    · exact .inr e
  · rcases hk with hk | hk
    · have := h.x0 k hk; have := hb.size; omega
    · exact hk.2
/-- Writing to what is open, and to nothing of the normalizer. -/
theorem Ns.close {X1 m : Nat → Prop} (h : Ns s pb po X1 n env ts ut bs ub w) (hf : Fr w w' m) (hm : ∀ k, m k → X1 k) (hd : ∀ k, m k → k ≠ s.O ∧ k ≠ s.V ∧ k ≠ s.M ∧ k ≠ pb ∧ ut.ownBlock ≠ some k ∧ ub.ownBlock ≠ some k ∧ s.W0.heap.size ≤ k) (hx : ∀ k, X0 k → X1 k) : Ns s pb po X0 n env ts ut bs ub w' := by
  obtain ⟨u4, ht, h4⟩ := h.t
  obtain ⟨cs, ho, hr⟩ := h.own
  have hpl := block_lt_of_cell h.c
  have hp : ¬ m pb := fun e => (hd _ e).2.2.2.1 rfl
  exact ⟨⟨u4, ⟨hf.toBelow ht.bw ht.bw.size fun k e => (hd k e).2.2.2.2.2.2, ht.lo, ht.o.fr hf fun e => (hd _ e).1 rfl, hf.own ht.own fun g e e2 => (hd g e2).2.2.2.2.1 e, ht.ob, by have := ht.bs; have := hf.size; omega⟩, h4⟩, h.v.fr hf fun e => (hd _ e).2.1 rfl, h.vo, h.vb, h.vl, h.m.fr hf fun e => (hd _ e).2.2.1 rfl, h.mo, h.mv, h.mb, h.ml, h.p4, h.pv, h.pm, h.pl, fun q => by rw [hf.block _ hpl hp]; exact h.ty q, ⟨cs, hf.own ho fun g e e2 => (hd g e2).2.2.2.2.2.1 e, hr.map (BdC.le (Le.of_fr hf (fun k _ e => .inl (hm k e)) (fun k _ e => e.elim (fun e => .inl (hx k e)) .inr)))⟩, fun k hk => by have := h.x0 k (hx k hk); have := hf.size; omega⟩
/-- The blocks that the normalizer holds are old. -/
theorem Ns.olds (h : Ns s pb po X0 n env ts ut bs ub w) : s.O < w.heap.size ∧ s.V < w.heap.size ∧ s.M < w.heap.size ∧ pb < w.heap.size ∧ (∀ g, ut.ownBlock = some g → g < w.heap.size) ∧ (∀ g, ub.ownBlock = some g → g < w.heap.size) ∧ s.W0.heap.size ≤ w.heap.size := by
  obtain ⟨u4, ht, _⟩ := h.t
  obtain ⟨cs, ho, _⟩ := h.own
  exact ⟨ht.o.lt, h.v.lt, h.m.lt, block_lt_of_cell h.c, fun g e => (ht.own.lt g e).2, fun g e => (ho.lt g e).2, ht.bw.size⟩

end Go.Proofs.YtcoeakdpcigogaaDoor

namespace Go.Proofs.YtcoeakdpcigogaaDoor
open Go.ChangeShapes Go.WideShapes Go.ChangeAt Go.RowKit Go.Sort Go.Maps

variable {s : Nc} {pb po : Nat} {X0 : Nat → Prop} {n : Nat} {env : ByteArray → Option Pm} {ts ts' : List Pm} {ut ut' : Value} {bs : List Bd} {ub : Value} {w w' : World}
theorem Ns.drew (h : Ns s pb po X0 n env ts ut bs ub w) : Ns s pb po X0 n env ts ut bs ub w.drew := h.below (belowDrawnP (Below.refl _ w))
theorem setL_last (ts : List Pm) (b l : Bool) : setL (ts ++ [⟨tmpN ts.length, b⟩]) ts.length l = ts ++ [⟨tmpN ts.length, l⟩] := by
  unfold setL; simp
theorem Bx.set2 {w : World} {b : Nat} {u0 u1 : Value} (h : Bx w b #[u0, u1]) (v0 v1 : Value) : Bx ((w.setCell ⟨b, 0, none⟩ v0).setCell ⟨b, 1, none⟩ v1) b #[v0, v1] := (h.set 0 v0).set 1 v1
theorem Fr.set2 (w : World) (b : Nat) (v0 v1 : Value) : Fr w ((w.setCell ⟨b, 0, none⟩ v0).setCell ⟨b, 1, none⟩ v1) (fun k => k = b) := (Fr.of_set w ⟨b, 0, none⟩ v0).trans (Fr.of_set _ ⟨b, 1, none⟩ v1) fun _ _ e => e

theorem temp_fin {W w1 w2 : World} {u1 u4 : Value} {l : Bool} (hb : Below w.heap.size w W) (hol : s.O < w.heap.size ∧ s.V < w.heap.size ∧ s.M < w.heap.size ∧ pb < w.heap.size ∧ (∀ g, ut.ownBlock = some g → g < w.heap.size) ∧ (∀ g, ub.ownBlock = some g → g < w.heap.size) ∧ s.W0.heap.size ≤ w.heap.size) (hsz : W.heap.size = w.heap.size + 1)
    (hf1 : Fr W.drew w1 (fun k => k = s.O ∨ some k = ut.ownBlock)) (hn1 : Nwb W.drew ut u1) (hm1 : Ns s pb po (fun k => X0 k ∨ (w.heap.size ≤ k ∧ k < W.heap.size)) n env (ts ++ [⟨tmpN ts.length, false⟩]) u1 bs ub w1)
    (ht1 : Tmp s.W0 w1 s.B s.O s.c0 s.c1 s.c2 u1 u4 s.c5 (ts ++ [⟨tmpN ts.length, false⟩])) (h4 : C4 s pb ub u4) (ht2 : Tmp s.W0 w2 s.B s.O s.c0 s.c1 s.c2 u1 u4 s.c5 (ts ++ [⟨tmpN ts.length, l⟩])) (hf2 : Fr w1 w2 (fun k => some k = u1.ownBlock)) (v0 v1 : Value) :
    Ns s pb po X0 n env (ts ++ [⟨tmpN ts.length, l⟩]) u1 bs ub ((w2.setCell ⟨w.heap.size, 0, none⟩ v0).setCell ⟨w.heap.size, 1, none⟩ v1) ∧ Fr w ((w2.setCell ⟨w.heap.size, 0, none⟩ v0).setCell ⟨w.heap.size, 1, none⟩ v1) (fun k => k = s.O ∨ some k = ut.ownBlock) ∧ Nwb w ut u1 := by
  have hds : W.drew.heap.size = W.heap.size := rfl
  have hu1 : ∀ g, u1.ownBlock = some g → ut.ownBlock = some g ∨ W.heap.size ≤ g := hn1
  refine ⟨(hm1.tmp ht1 ht2 h4 (hf2.mono fun k _ e => .inr e) (fun g e => .inl e)).close (Fr.set2 w2 w.heap.size v0 v1) (fun k e => .inr ⟨by omega, by omega⟩) (fun k e => ?_) (fun k e => .inl e), ?_, fun g e => ?_⟩
  · subst e
    refine ⟨by omega, by omega, by omega, by omega, fun e => ?_, fun e => ?_, hol.2.2.2.2.2.2⟩
    · rcases hu1 _ e with e | e
      · have := hol.2.2.2.2.1 _ e; omega
      · omega
    · have := hol.2.2.2.2.2.1 _ e; omega
  · have h1 : Fr w w1 (fun k => k = s.O ∨ some k = ut.ownBlock) := (Fr.of_below hb _).trans ((Fr.of_below (belowDrawnP (Below.refl _ W)) _).trans hf1 fun _ _ e => e) (fun _ _ e => e)
    refine (h1.trans hf2 (fun k hk e => ?_)).trans (Fr.set2 w2 w.heap.size v0 v1) (fun k hk e => by omega)
    rcases hu1 _ e.symm with q | q
    · exact .inr q.symm
    · omega
  · rcases hu1 _ e with q | q
    · exact .inl q
    · right; omega

set_option maxRecDepth 100000 in
set_option maxHeartbeats 1000000 in
theorem temp_any (hW : Wld s.W0) (h : Ns s pb po X0 n env ts ut bs ub w) (hlen : ts.length < 100000) (l : Bool) :
    Calls Tryd.prog 80 #[.pointer (some ⟨s.V, 0, none⟩), .bool l] w fun e w' => e = .returned (.agg #[.string (tmpN ts.length), .bool l]) ∧ ∃ ut', Ns s pb po X0 n env (ts ++ [⟨tmpN ts.length, l⟩]) ut' bs ub w' ∧ Fr w w' (fun k => k = s.O ∨ some k = ut.ownBlock) ∧ Nwb w ut ut' := by
  have hbx := below_box w (Obj.cells #[.string ⟨#[]⟩, .bool false] 65)
  have HX0 := Lib.hid ((bx_new w #[.string ⟨#[]⟩, .bool false] 65))
  have HN := Lib.hid (h.open hbx)
  have HB := Lib.hid hbx
  have hvl := h.v.lt
  have HL0 := Lib.hid h.olds
  have HSZ := Lib.hid (show (w.alloc (Obj.cells #[.string ⟨#[]⟩, .bool false] 65)).heap.size = w.heap.size + 1 by simp)
  clear h hbx
  go_enter Tryd.func80, Tryd.ntmps80
  go_upto_region 1 with fail
  generalize w.alloc _ = W at HX0 HN HB HSZ ⊢
  obtain ⟨u4, ht, h4⟩ := HN.out.drew.t
  have HT := Lib.hid ht
  have HFR := Lib.hid (fresh_any hW ht hlen)
  have H4 := Lib.hid h4
  obtain ⟨x0, x1, x2, x3, _⟩ := Bx.four HN.out.v
  have hlt := HN.out.v.lt
  clear ht h4
  go_region_law (first
    | (go_simp; go_at_call 42; refine HFR.out.mono ?_; rintro e w1 ⟨rfl, u1, ht1, hf1, hn1⟩; have HT1 := Lib.hid ht1; have HF1 := Lib.hid hf1; have HN1 := Lib.hid hn1; have HM1 := Lib.hid (HN.out.drew.tmp HT.out ht1 H4.out hf1 hn1); clear ht1 hf1 hn1; obtain ⟨x0, x1, x2, x3, _⟩ := Bx.four HM1.out.v; have hlt1 := HM1.out.v.lt; dsimp only)
    | (go_simp; go_at_call 44; refine (typed_any HT1.out (i := ts.length) (by simp) (by simp) l).mono ?_; rintro e w2 ⟨rfl, ht2, hf2⟩; rw [setL_last] at ht2; have HT2 := Lib.hid ht2; have HF2 := Lib.hid hf2; have HX2 := Lib.hid ((HX0.out.fr ((Fr.of_below (belowDrawnP (Below.refl _ W)) _).trans HF1.out fun _ _ e => e) (fun e => by have q := HL0.out; rcases e with e | e; omega; exact absurd (q.2.2.2.2.1 _ e.symm) (by omega))).fr hf2 (fun e => by have q := HL0.out; have z := HSZ.out; rcases HN1.out _ e.symm with e2 | e2; exact absurd (q.2.2.2.2.1 _ e2) (by omega); exact absurd (show W.heap.size ≤ w.heap.size from e2) (by omega))); clear ht2 hf2; obtain ⟨y0, y1, f0, f1⟩ := HX2.out.two; dsimp only)
    | fail)
  all_goals
    have HF := Lib.hid (temp_fin HB.out HL0.out HSZ.out HF1.out HN1.out HM1.out HT1.out H4.out HT2.out HF2.out (.string (tmpN ts.length)) (.bool l))
    have HBF := Lib.hid (HX2.out.set2 (.string (tmpN ts.length)) (.bool l))
    generalize World.setCell _ _ _ = WF at HF HBF ⊢
    obtain ⟨g0, g1, _⟩ := HBF.out.two
    go_wp2_with fail
    exact bodyPost_ret (v := .agg #[.string (tmpN ts.length), .bool l]) (by simp [results, Tryd.results80, go_sem, g0, g1]) rfl ⟨rfl, _, HF.out⟩

end Go.Proofs.YtcoeakdpcigogaaDoor

namespace Go.Proofs.YtcoeakdpcigogaaDoor
open Go.ChangeShapes Go.WideShapes Go.ChangeAt Go.RowKit Go.Sort Go.Maps

variable {s : Nc} {pb po : Nat} {X0 : Nat → Prop} {n : Nat} {env : ByteArray → Option Pm} {ts ts' : List Pm} {ut ut' : Value} {bs : List Bd} {ub ub' : Value} {w w' w3 : World}
theorem Ns.bound {cs c8 : List Value} {t : Bd} (h : Ns s pb po X0 n env ts ut bs ub w) (ho : w.ownsRow s.B 67 8 ub bs.length cs) (hr : RowG (BdC w (Xs X0 s.O s.M pb ut ub)) cs bs) (hc : BdC w (Xs X0 s.O s.M pb ut ub) c8 t) (hf : Fr w w3 (fun k => some k = ub.ownBlock)) (ho3 : w3.ownsRow s.B 67 8 ub' (bs.length + 1) (cs ++ c8)) (hn : Nwb w ub ub') :
    Ns s pb po X0 n env ts ut (bs ++ [t]) ub' (w3.setCell ⟨pb, po, none⟩ ub') ∧ Fr w (w3.setCell ⟨pb, po, none⟩ ub') (fun k => k = pb ∨ some k = ub.ownBlock) := by
  obtain ⟨u4, ht, h4⟩ := h.t
  have hol := h.olds
  have hpl := block_lt_of_cell h.c
  have hge := fun g e => (own_ty ht.own g e).1
  have hgu := fun g e => (own_ty ho g e).1
  have hgu3 := fun g e => (own_ty ho3 g e).1
  have hob := ht.ob
  have hpu : some pb ≠ ub.ownBlock := fun e => h.pu e.symm
  have hfs : Fr w3 (w3.setCell ⟨pb, po, none⟩ ub') (fun k => k = pb) := Fr.of_set w3 ⟨pb, po, none⟩ ub'
  have hft : Fr w (w3.setCell ⟨pb, po, none⟩ ub') (fun k => k = pb ∨ some k = ub.ownBlock) := (hf.mono fun k _ e => .inr e).trans hfs fun k _ e => .inl e
  have hpn : ub'.ownBlock ≠ some pb := fun e => by
    rcases hn _ e with q | q
    · exact hpu q.symm
    · omega
  have hle : Le w (Xs X0 s.O s.M pb ut ub) (w3.setCell ⟨pb, po, none⟩ ub') (Xs X0 s.O s.M pb ut ub') := Le.of_fr hft (fun k _ e => by
    rcases e with e | e
    · exact .inr (.inr (.inr (.inl e)))
    · exact .inr (.inr (.inr (.inr (.inr e.symm))))) (fun k hk e => by
    rcases e with e | e | e | e | e | e
    · exact .inl e
    · exact .inr (.inl e)
    · exact .inr (.inr (.inl e))
    · exact .inr (.inr (.inr (.inl e)))
    · exact .inr (.inr (.inr (.inr (.inl e))))
    · rcases hn k e with q | q
      · exact .inr (.inr (.inr (.inr (.inr q))))
      · omega)
  have hbx3 : Bx w3 s.O #[s.c0, s.c1, s.c2, ut, u4, s.c5] := ht.o.fr hf fun e => by have := hgu _ e.symm; omega
  have hbw : Below s.W0.heap.size s.W0 (w3.setCell ⟨pb, po, none⟩ ub') := hft.toBelow ht.bw ht.bw.size fun k e => by
    rcases e with e | e
    · rw [e]; exact h.pl
    · have := hgu _ e.symm; have := ht.lo; omega
  refine ⟨⟨?_, h.v.fr hft ?_, h.vo, h.vb, h.vl, h.m.fr hft ?_, h.mo, h.mv, h.mb, h.ml, h.p4, h.pv, h.pm, h.pl, fun hp => ?_, ⟨cs ++ c8, ?_, (hr.map (BdC.le hle)).snoc (BdC.le hle _ _ hc)⟩, fun k hk => by have := h.x0 k hk; have := hft.size; omega⟩, hft⟩
  · by_cases hp : pb = s.O
    · refine ⟨ub', ⟨hbw, ht.lo, ?_, hft.own ht.own ?_, ht.ob, by have := ht.bs; have := hft.size; omega⟩, ⟨fun _ => rfl, fun e => absurd hp e⟩⟩
      · rw [hp, h.p4 hp]; exact hbx3.set 4 ub'
      · rintro g e (e2 | e2)
        · exact h.pt (e2 ▸ e)
        · exact h.tu g e e2.symm
    · refine ⟨u4, ⟨hbw, ht.lo, hbx3.fr hfs fun e => hp e.symm, hft.own ht.own ?_, ht.ob, by have := ht.bs; have := hft.size; omega⟩, ⟨fun e => absurd e hp, fun _ => h4.2 hp⟩⟩
      rintro g e (e2 | e2)
      · exact h.pt (e2 ▸ e)
      · exact h.tu g e e2.symm
  · rintro (e | e)
    · exact h.pv e.symm
    · have := hgu _ e.symm; have := h.vb; omega
  · rintro (e | e)
    · exact h.pm e.symm
    · have := hgu _ e.symm; have := h.mb; omega
  · obtain ⟨h0, hx⟩ := h.ty hp
    rw [← hf.block _ hpl hpu] at hx
    exact ⟨h0, by rw [h0]; exact heap_setCell_same w3 pb 0 _ _ ub' hx⟩
  · rw [List.length_append]
    exact hfs.own ho3 fun g e e2 => hpn (e2 ▸ e)

/-! ### What is finished stays -/
theorem le_open {O M : Nat} (X0 : Nat → Prop) (hb : Below w.heap.size w w') : Le w (Xs X0 O M pb ut ub) w' (Xs (fun k => X0 k ∨ (w.heap.size ≤ k ∧ k < w'.heap.size)) O M pb ut ub) := Le.belowA hb fun k hk e => by
  rcases e with e | e
  · rcases e with e | e
    · exact .inl e
    · omega
  · exact .inr e
theorem le_tmp {O M : Nat} (hf : Fr w w' (fun k => k = O ∨ some k = ut.ownBlock)) (hn : Nwb w ut ut') : Le w (Xs X0 O M pb ut ub) w' (Xs X0 O M pb ut' ub) := Le.of_fr hf (fun k _ e => by
    rcases e with e | e
    · exact .inr (.inl e)
    · exact .inr (.inr (.inr (.inr (.inl e.symm))))) (fun k hk e => by
    rcases e with e | e | e | e | e | e
    · exact .inl e
    · exact .inr (.inl e)
    · exact .inr (.inr (.inl e))
    · exact .inr (.inr (.inr (.inl e)))
    · rcases hn k e with q | q
      · exact .inr (.inr (.inr (.inr (.inl q))))
      · omega
    · exact .inr (.inr (.inr (.inr (.inr e)))))
theorem le_open_set {X m : Nat → Prop} (hf : Fr w w' m) (hm : ∀ k, m k → X k) : Le w X w' X := Le.of_fr hf (fun k _ e => hm k e) fun _ _ e => e
theorem Nwb.refl (w : World) (u : Value) : Nwb w u u := fun _ e => .inl e
theorem Nwb.mono {u : Value} (h : Nwb w' u ut') (hb : w.heap.size ≤ w'.heap.size) : Nwb w u ut' := fun g e => (h g e).imp id (fun q => by omega)
theorem own_put8 {B g m cap : Nat} {T : TypeId} {cs : List Value} {z0 z1 z2 z3 z4 z5 z6 z7 : Value} (h : w.ownsRow B T 8 (.slice (some ⟨g, 0, none⟩) (m + 1) cap) (m + 1) (cs ++ [z0, z1, z2, z3, z4, z5, z6, z7])) (hl : cs.length = m * 8) (v0 v1 v2 v3 v4 v5 v6 v7 : Value) :
    ((((((((w.setCell ⟨g, m * 8, none⟩ v0).setCell ⟨g, m * 8 + 1, none⟩ v1).setCell ⟨g, m * 8 + 2, none⟩ v2).setCell ⟨g, m * 8 + 3, none⟩ v3).setCell ⟨g, m * 8 + 4, none⟩ v4).setCell ⟨g, m * 8 + 5, none⟩ v5).setCell ⟨g, m * 8 + 6, none⟩ v6).setCell ⟨g, m * 8 + 7, none⟩ v7).ownsRow B T 8 (.slice (some ⟨g, 0, none⟩) (m + 1) cap) (m + 1) (cs ++ [v0, v1, v2, v3, v4, v5, v6, v7]) := by
  have h1 := (((((((((h.stored (m * 8) v0).1.stored (m * 8 + 1) v1).1.stored (m * 8 + 2) v2).1.stored (m * 8 + 3) v3).1.stored (m * 8 + 4) v4).1.stored (m * 8 + 5) v5).1.stored (m * 8 + 6) v6).1.stored (m * 8 + 7) v7).1)
  have e : (((((((((cs ++ [z0, z1, z2, z3, z4, z5, z6, z7]).set (m * 8) v0).set (m * 8 + 1) v1).set (m * 8 + 2) v2).set (m * 8 + 3) v3).set (m * 8 + 4) v4).set (m * 8 + 5) v5).set (m * 8 + 6) v6).set (m * 8 + 7) v7) = cs ++ [v0, v1, v2, v3, v4, v5, v6, v7] := by
    rw [← hl]
    simp
  rw [e] at h1
  exact h1
theorem Fr.set8 (w : World) (g o : Nat) (v0 v1 v2 v3 v4 v5 v6 v7 : Value) : Fr w ((((((((w.setCell ⟨g, o, none⟩ v0).setCell ⟨g, o + 1, none⟩ v1).setCell ⟨g, o + 2, none⟩ v2).setCell ⟨g, o + 3, none⟩ v3).setCell ⟨g, o + 4, none⟩ v4).setCell ⟨g, o + 5, none⟩ v5).setCell ⟨g, o + 6, none⟩ v6).setCell ⟨g, o + 7, none⟩ v7) (fun k => k = g) :=
  (((((((Fr.of_set w ⟨g, o, none⟩ v0).trans (Fr.of_set _ ⟨g, o + 1, none⟩ v1) fun _ _ e => e).trans (Fr.of_set _ ⟨g, o + 2, none⟩ v2) fun _ _ e => e).trans (Fr.of_set _ ⟨g, o + 3, none⟩ v3) fun _ _ e => e).trans (Fr.of_set _ ⟨g, o + 4, none⟩ v4) fun _ _ e => e).trans (Fr.of_set _ ⟨g, o + 5, none⟩ v5) fun _ _ e => e).trans (Fr.of_set _ ⟨g, o + 6, none⟩ v6) fun _ _ e => e).trans (Fr.of_set _ ⟨g, o + 7, none⟩ v7) fun _ _ e => e
theorem info_bd : (Tryd.prog.info? 67).map (fun i => (i.zero, i.size, i.bytes)) = some (some (.agg #[.string ⟨#[]⟩, .bool false, .int .u8 0, .int .i64 0, .string ⟨#[]⟩, .slice none 0 0, .slice none 0 0, .slice none 0 0]), 8, 120) := by kernel_rfl
theorem Bx.eight {w : World} {b : Nat} {u0 u1 u2 u3 u4 u5 u6 u7 : Value} (h : Bx w b #[u0, u1, u2, u3, u4, u5, u6, u7]) : (w.cell? ⟨b, 0, none⟩ = some u0 ∧ w.cell? ⟨b, 1, none⟩ = some u1 ∧ w.cell? ⟨b, 2, none⟩ = some u2 ∧ w.cell? ⟨b, 3, none⟩ = some u3 ∧ w.cell? ⟨b, 4, none⟩ = some u4 ∧ w.cell? ⟨b, 5, none⟩ = some u5 ∧ w.cell? ⟨b, 6, none⟩ = some u6 ∧ w.cell? ⟨b, 7, none⟩ = some u7) ∧ w.frozen? ⟨b, 0, none⟩ = false ∧ w.frozen? ⟨b, 1, none⟩ = false ∧ w.frozen? ⟨b, 2, none⟩ = false ∧ w.frozen? ⟨b, 3, none⟩ = false ∧ w.frozen? ⟨b, 4, none⟩ = false ∧ w.frozen? ⟨b, 5, none⟩ = false ∧ w.frozen? ⟨b, 6, none⟩ = false ∧ w.frozen? ⟨b, 7, none⟩ = false := ⟨⟨h.cell rfl, h.cell rfl, h.cell rfl, h.cell rfl, h.cell rfl, h.cell rfl, h.cell rfl, h.cell rfl⟩, h.free 0, h.free 1, h.free 2, h.free 3, h.free 4, h.free 5, h.free 6, h.free 7⟩

theorem own_last8 {B g m cap : Nat} {T : TypeId} {cs : List Value} {z0 z1 z2 z3 z4 z5 z6 z7 : Value} (h : w.ownsRow B T 8 (.slice (some ⟨g, 0, none⟩) (m + 1) cap) (m + 1) (cs ++ [z0, z1, z2, z3, z4, z5, z6, z7])) (hl : cs.length = m * 8) :
    (w.cell? ⟨g, m * 8, none⟩ = some z0 ∧ w.cell? ⟨g, m * 8 + 1, none⟩ = some z1 ∧ w.cell? ⟨g, m * 8 + 2, none⟩ = some z2 ∧ w.cell? ⟨g, m * 8 + 3, none⟩ = some z3 ∧ w.cell? ⟨g, m * 8 + 4, none⟩ = some z4 ∧ w.cell? ⟨g, m * 8 + 5, none⟩ = some z5 ∧ w.cell? ⟨g, m * 8 + 6, none⟩ = some z6 ∧ w.cell? ⟨g, m * 8 + 7, none⟩ = some z7) ∧
    w.frozen? ⟨g, m * 8, none⟩ = false ∧ w.frozen? ⟨g, m * 8 + 1, none⟩ = false ∧ w.frozen? ⟨g, m * 8 + 2, none⟩ = false ∧ w.frozen? ⟨g, m * 8 + 3, none⟩ = false ∧ w.frozen? ⟨g, m * 8 + 4, none⟩ = false ∧ w.frozen? ⟨g, m * 8 + 5, none⟩ = false ∧ w.frozen? ⟨g, m * 8 + 6, none⟩ = false ∧ w.frozen? ⟨g, m * 8 + 7, none⟩ = false := by
  have key : ∀ j u, j < 8 → [z0, z1, z2, z3, z4, z5, z6, z7][j]? = some u → w.cell? ⟨g, m * 8 + j, none⟩ = some u := fun j u hj hu => by
    rw [h.cellAt (m * 8 + j) (by omega), List.getElem?_append_right (by omega), hl, Nat.add_sub_cancel_left]; exact hu
  exact ⟨⟨key 0 z0 (by omega) rfl, key 1 z1 (by omega) rfl, key 2 z2 (by omega) rfl, key 3 z3 (by omega) rfl, key 4 z4 (by omega) rfl, key 5 z5 (by omega) rfl, key 6 z6 (by omega) rfl, key 7 z7 (by omega) rfl⟩, h.frozenAt _, h.frozenAt _, h.frozenAt _, h.frozenAt _, h.frozenAt _, h.frozenAt _, h.frozenAt _, h.frozenAt _⟩

theorem setCell_swap (w : World) (p q : Addr) (u v : Value) (h : p.block ≠ q.block) : (w.setCell p u).setCell q v = (w.setCell q v).setCell p u := by
  unfold World.setCell
  congr 1
  apply Array.ext_getElem?
  intro k
  simp only [Array.getElem?_modify]
  by_cases h1 : p.block = k
  · by_cases h2 : q.block = k
    · exact absurd (h1.trans h2.symm) h
    · simp [h1, h2]
  · simp [h1]
theorem set8_swap (w : World) (p : Addr) (u : Value) (g o : Nat) (h : p.block ≠ g) (v0 v1 v2 v3 v4 v5 v6 v7 : Value) :
    (((((((((w.setCell p u).setCell ⟨g, o, none⟩ v0).setCell ⟨g, o + 1, none⟩ v1).setCell ⟨g, o + 2, none⟩ v2).setCell ⟨g, o + 3, none⟩ v3).setCell ⟨g, o + 4, none⟩ v4).setCell ⟨g, o + 5, none⟩ v5).setCell ⟨g, o + 6, none⟩ v6).setCell ⟨g, o + 7, none⟩ v7) =
    (((((((((w.setCell ⟨g, o, none⟩ v0).setCell ⟨g, o + 1, none⟩ v1).setCell ⟨g, o + 2, none⟩ v2).setCell ⟨g, o + 3, none⟩ v3).setCell ⟨g, o + 4, none⟩ v4).setCell ⟨g, o + 5, none⟩ v5).setCell ⟨g, o + 6, none⟩ v6).setCell ⟨g, o + 7, none⟩ v7).setCell p u) := by
  rw [setCell_swap w p ⟨g, o, none⟩ u v0 h, setCell_swap _ p ⟨g, o + 1, none⟩ u v1 h, setCell_swap _ p ⟨g, o + 2, none⟩ u v2 h, setCell_swap _ p ⟨g, o + 3, none⟩ u v3 h, setCell_swap _ p ⟨g, o + 4, none⟩ u v4 h, setCell_swap _ p ⟨g, o + 5, none⟩ u v5 h, setCell_swap _ p ⟨g, o + 6, none⟩ u v6 h, setCell_swap _ p ⟨g, o + 7, none⟩ u v7 h]

end Go.Proofs.YtcoeakdpcigogaaDoor
