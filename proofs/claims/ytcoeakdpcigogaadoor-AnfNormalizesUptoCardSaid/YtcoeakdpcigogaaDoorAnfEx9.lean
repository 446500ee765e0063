/-
  A branch: the walk.
-/
import Derived.Test.YtcoeakdpcigogaaDoorAnfEx6
namespace Go.Proofs.YtcoeakdpcigogaaDoor
open Go.ChangeShapes Go.WideShapes Go.ChangeAt Go.RowKit Go.Sort Go.Maps

variable {s : Nc} {pb po : Nat} {X0 : Nat → Prop} {b0 z n n' : Nat} {env env' : ByteArray → Option Pm} {ts ts' : List Pm} {ut ut' : Value} {bs l : List Bd} {ub ub' ui : Value} {w w' w3 : World}
/-- A box that the normalizer doesn't know. -/
def Far (s : Nc) (pb : Nat) (ut ub : Value) (b : Nat) : Prop := b ≠ s.O ∧ b ≠ s.V ∧ b ≠ s.M ∧ b ≠ pb ∧ ut.ownBlock ≠ some b ∧ ub.ownBlock ≠ some b ∧ s.W0.heap.size ≤ b
theorem Far.nwb {b : Nat} (h : Far s pb ut ub b) (hn : Nwb w ut ut') (hb : b < w.heap.size) : Far s pb ut' ub b := ⟨h.1, h.2.1, h.2.2.1, h.2.2.2.1, fun e => by
  rcases hn b e with q | q
  · exact h.2.2.2.2.1 q
  · omega, h.2.2.2.2.2⟩
theorem Far.mou {b : Nat} (h : Far s pb ut ub b) : ¬ (b = s.M ∨ b = s.O ∨ some b = ut.ownBlock) := fun e => by
  rcases e with e | e | e
  · exact h.2.2.1 e
  · exact h.1 e
  · exact h.2.2.2.2.1 e.symm
theorem cells_newC (w : World) {C : Nat} (hC : w.heap.size = C) (cs : List Value) (T : TypeId) : CellsAt (w.alloc (Obj.cells cs.toArray T)) (some ⟨C, 0, none⟩) cs := by
  subst hC
  exact cells_litC w cs T
theorem Bx.uno {w : World} {b : Nat} {u0 : Value} (h : Bx w b #[u0]) : w.cell? ⟨b, 0, none⟩ = some u0 ∧ w.frozen? ⟨b, 0, none⟩ = false := ⟨h.cell rfl, h.free 0⟩
theorem two_boxB (w : World) (c4 : Array Value) : Below w.heap.size w ((w.alloc (Obj.cells c4 53)).alloc (Obj.cells #[.slice none 0 0] 37)) ∧ Bx ((w.alloc (Obj.cells c4 53)).alloc (Obj.cells #[.slice none 0 0] 37)) w.heap.size c4 ∧ ((w.alloc (Obj.cells c4 53)).alloc (Obj.cells #[.slice none 0 0] 37)).heap[w.heap.size + 1]? = some (.cells #[.slice none 0 0] 37 (0, 0)) ∧ ((w.alloc (Obj.cells c4 53)).alloc (Obj.cells #[.slice none 0 0] 37)).heap.size = w.heap.size + 2 := by
  have b1 := below_box w (Obj.cells c4 53)
  have b2 := below_box (w.alloc (Obj.cells c4 53)) (Obj.cells #[.slice none 0 0] 37)
  have h2 := heap_alloc_new (w.alloc (Obj.cells c4 53)) (Obj.cells #[.slice none 0 0] 37)
  rw [show (w.alloc (Obj.cells c4 53)).heap.size = w.heap.size + 1 by simp] at h2
  exact ⟨below_step b1 b1.size b2, (bx_new w c4 _).below b2, h2, by simp⟩
/-- What a branch comes to. -/
def RetBr (s : Nc) (pb po : Nat) (X0 : Nat → Prop) (n : Nat) (env : ByteArray → Option Pm) (ut : Value) (bs : List Bd) (ub : Value) (r : Nr) (sz i bt : Nat) (w : World) (e : Ending) (w' : World) : Prop :=
  ∃ A c n1 ut1, e = .returned (.slice A (r.bs.length + 1) c) ∧ n1 ≤ n + sz ∧ Ns s pb po X0 n1 env (setL r.ts i r.p.list) ut1 bs ub w' ∧ BdsX w' (Xs X0 s.O s.M pb ut1 ub) A (r.bs ++ [.mk (tmpN i) r.p.list 81 0 eS [r.p.name] [] []]) ∧ Bx w' bt #[.string (tmpN i), .bool r.p.list] ∧ Fr w w' (fun k => k = s.M ∨ k = s.O ∨ some k = ut.ownBlock ∨ k = bt) ∧ Nwb w ut ut1

set_option maxRecDepth 100000 in
set_option maxHeartbeats 4000000 in
theorem branch_any {y : Nd} (hy : ∀ u4, NexC { s with c4 := u4 } y) (h : Ns s pb po X0 n env ts ut bs ub w) {Ak : Option Addr} (ck : Nat) (hp : Npre s y Ak env ts [] n) {i : Nat} (hil : i < ts.length) (hin : ts[i].name = tmpN i) {bv bi bt : Nat} {p0 : ByteArray} {p1 : Bool} (hv : Bx w bv #[.pointer (some ⟨s.V, 0, none⟩)]) (hbi : Bx w bi #[.int .i64 i]) (hbt : Bx w bt #[.string p0, .bool p1]) (hx : X0 bt) (hdv : Far s pb ut ub bv) (hdi : Far s pb ut ub bi) (hdt : Far s pb ut ub bt) :
    Calls Tryd.prog 78 #[.agg #[.int .u8 y.kind, .int .i64 y.num, .string y.name, .slice Ak y.kids.length ck], .pointer (some ⟨bv, 0, none⟩), .pointer (some ⟨bi, 0, none⟩), .pointer (some ⟨bt, 0, none⟩)] w (RetBr s pb po X0 n env ut bs ub (nE s.lib y env ts) (sizeT y) i bt w) := by
  obtain ⟨hbx, hx4, hl5, hsz⟩ := two_boxB w #[.int .u8 y.kind, .int .i64 y.num, .string y.name, .slice Ak y.kids.length ck]
  obtain ⟨u4, hen, hc4⟩ := h.enter hbx (l := w.heap.size + 1) (by omega) hl5
  have HC := Lib.hid (show Calls Tryd.prog 45 #[.pointer (some ⟨s.V, 0, none⟩), .agg #[.int .u8 y.kind, .int .i64 y.num, .string y.name, .slice Ak y.kids.length ck], .pointer (some ⟨w.heap.size + 1, 0, none⟩)] _ (RetNx { s with c4 := u4 } (w.heap.size + 1) 0 _ n env ut [] (.slice none 0 0) (nE s.lib y env ts) (sizeT y) _) from hy u4 (w.heap.size + 1) 0 _ n env ts ut [] (.slice none 0 0) _ Ak ck hen ⟨hp.hW, hp.lib, hp.lfit, hp.kids, hp.fit, hp.form, hp.ar, hp.ns, hp.tl, hp.bl, hp.nl⟩)
  have hext := nE_ext s.lib y env ts
  have hin' : ((nE s.lib y env ts).ts[i]?).map Pm.name = some (tmpN i) := by
    obtain ⟨ex, e, _⟩ := hext.pre
    rw [e, List.getElem?_append_left hil, List.getElem?_eq_getElem hil, Option.map_some, hin]
  have hrb : (nE s.lib y env ts).bs.length ≤ 90000 := by have := hext.bs; have := hp.bl; simp at this; omega
  have HS0 := Lib.hid h
  have HX4 := Lib.hid hx4
  have HB := Lib.hid hbx
  have HSZ := Lib.hid hsz
  have HC4 := Lib.hid hc4
  have HVI := Lib.hid (And.intro hdv (And.intro hdi hdt))
  have HV := Lib.hid hv
  have HI := Lib.hid hbi
  have HT := Lib.hid hbt
  have HL := Lib.hid (And.intro hv.lt (And.intro hbi.lt hbt.lt))
  have HL5 := Lib.hid hl5
  have hnm := hp.fit.facts.2.2.1
  clear h hp hbx hx4 hsz hl5 hen hc4 hdv hdi hdt hv hbi hbt hy hext
  obtain ⟨r, hr⟩ : ∃ r, nE s.lib y env ts = r := ⟨_, rfl⟩
  rw [hr] at HC hin' hrb ⊢
  clear hr
  go_enter Tryd.func78, Tryd.ntmps78
  go_upto_region 2 with fail
  generalize (w.alloc _).alloc _ = W at HX4 HB HSZ HC HL5 ⊢
  obtain ⟨a0, a1, a2, a3, _⟩ := HX4.out.four
  have HVW := Lib.hid (HV.out.below HB.out)
  obtain ⟨x0, _⟩ := Bx.uno HVW.out
  have hlt4 := HX4.out.lt
  have hltv := HVW.out.lt
  go_wp2_with fail
  refine HC.out.mono ?_
  rintro e w5 ⟨rfl, n1, u1, b1, hn1, hs5, hf5, hnu5, hnb5⟩
  obtain ⟨hbr, hfw⟩ := br_start HS0.out HC4.out HB.out (by omega) (by have := HSZ.out; omega) hs5 hf5 hnu5 hnb5
  have hli := hs5.c
  have HUO := Lib.hid (show ∀ g, u1.ownBlock = some g → g < w5.heap.size ∧ g ≠ w.heap.size + 1 from fun g e => ⟨hs5.olds.2.2.2.2.1 g e, by have z := HSZ.out; have q := HS0.out.olds; rcases hnu5 g e with p | p; have := q.2.2.2.2.1 g p; omega; omega⟩)
  have hb6 := below_box w5 (Obj.cells #[.string r.p.name, .bool r.p.list] 65)
  have HBR := Lib.hid (hbr.below hb6)
  have HV6 := Lib.hid ((HV.out.fr hfw HVI.out.1.mou).below hb6)
  have HI6 := Lib.hid ((HI.out.fr hfw HVI.out.2.1.mou).below hb6)
  have HT6 := Lib.hid ((HT.out.fr hfw HVI.out.2.2.mou).below hb6)
  have HX6 := Lib.hid (bx_new w5 #[.string r.p.name, .bool r.p.list] 65)
  have HF6 := Lib.hid (hfw.trans (Fr.of_below hb6 (fun k => k = s.M ∨ k = s.O ∨ some k = ut.ownBlock)) (fun _ _ e => e))
  have HNU := Lib.hid (show Nwb w ut u1 from hnu5.mono (by have := HSZ.out; omega))
  have HLI := Lib.hid (And.intro (below_cell hb6 hli) (show w.heap.size + 2 ≤ w5.heap.size from by have := hf5.size; have := HSZ.out; omega))
  clear hs5 hf5 hnu5 hnb5 hbr hfw hb6 HX4 HB HL5 HC HVW a0 a1 a2 a3 x0 hlt4 hltv hli
  go_upto_region 3 with fail
  generalize w5.alloc _ = W6 at HBR HV6 HI6 HT6 HX6 HF6 HLI ⊢
  obtain ⟨u5, ht, h4⟩ := HBR.out.ns.drew.t
  have hil' : i < r.ts.length := by
    rcases Nat.lt_or_ge i r.ts.length with q | q
    · exact q
    · rw [List.getElem?_eq_none q] at hin'; cases hin'
  have hin2 : r.ts[i].name = tmpN i := by rw [List.getElem?_eq_getElem hil', Option.map_some] at hin'; exact Option.some.inj hin'
  have HTY := Lib.hid (typed_any ht hil' hin2 r.p.list)
  have HTT := Lib.hid (And.intro ht h4)
  clear ht h4 hin2 hin'
  obtain ⟨x0, _⟩ := Bx.uno HV6.out
  obtain ⟨x1, x2, x3, x4, _⟩ := Bx.four HBR.out.ns.v
  obtain ⟨x5, _⟩ := Bx.uno HI6.out
  obtain ⟨x6, x7, _⟩ := HX6.out.two
  have hlv := HV6.out.lt
  have hlV := HBR.out.ns.v.lt
  have hli := HI6.out.lt
  have hlt := HT6.out.lt
  have hlx := HX6.out.lt
  go_region_law (first
    | (go_simp; go_at_call 44; refine HTY.out.mono ?_; rintro e w7 ⟨rfl, ht7, hf7⟩; have HBR7 := Lib.hid ((HBR.out.below (belowDrawnP (Below.refl _ W6))).tmp HTT.out.1 ht7 HTT.out.2 hf7); have HF7 := Lib.hid ((Fr.of_below (belowDrawnP (Below.refl _ W6)) (fun k => some k = u1.ownBlock)).trans hf7 (fun _ _ e => e)); have HT7 := Lib.hid (HT6.out.fr HF7.out (fun e => (HVI.out.2.2.nwb HNU.out HL.out.2.2).2.2.2.2.1 e.symm)); clear ht7 hf7; obtain ⟨y0, y1, f0, f1⟩ := HT7.out.two; have hlt7 := HT7.out.lt; dsimp only)
    | fail)
  all_goals
    have HBR8 := Lib.hid (HBR7.out.wrote hx (HVI.out.2.2.nwb HNU.out HL.out.2.2) (Fr.set2 w7 bt (.string (tmpN i)) (.bool r.p.list)))
    have HT8 := Lib.hid (HT7.out.set2 (.string (tmpN i)) (.bool r.p.list))
    have HX8 := Lib.hid ((HX6.out.fr HF7.out (fun e => by have := HUO.out _ e.symm; omega)).fr (Fr.set2 w7 bt (.string (tmpN i)) (.bool r.p.list)) (fun e => by have := HL.out; have := HLI.out.2; omega))
    have HL8 := Lib.hid ((Fr.set2 w7 bt (.string (tmpN i)) (.bool r.p.list)).cell (HF7.out.cell HLI.out.1 (fun e => absurd rfl (HUO.out _ e.symm).2)) (fun e => by have := HL.out; have e' : w.heap.size + 1 = bt := e; omega))
    have HF8 := Lib.hid (((HF6.out.trans HF7.out (fun k hk e => by rcases HNU.out k e.symm with q | q; exact .inr (.inr q.symm); omega)).mono (m' := fun k => k = s.M ∨ k = s.O ∨ some k = ut.ownBlock ∨ k = bt) (fun k _ e => by rcases e with e | e | e; exact .inl e; exact .inr (.inl e); exact .inr (.inr (.inl e)))).trans (Fr.set2 w7 bt (.string (tmpN i)) (.bool r.p.list)) (fun k _ e => .inr (.inr (.inr e))))
    clear x0 x1 x2 x3 x4 x5 x6 x7 hlv hlV hli hlt hlx y0 y1 f0 f1 hlt7 HBR7 HT7 HF7 HBR HV6 HI6 HT6 HX6 HF6 HLI HTY HTT
    generalize World.setCell _ _ _ = w8 at HBR8 HT8 HX8 HL8 HF8 ⊢
    obtain ⟨cs, ho, hrow⟩ := HBR8.out.own
    obtain ⟨Ab, cb, rfl, hcb, hqq⟩ := own_formB ho
    clear hqq
    have HO := Lib.hid ho
    have HROW := Lib.hid hrow
    obtain ⟨y0, y1, _⟩ := HT8.out.two
    obtain ⟨x0, x1, _⟩ := HX8.out.two
    have l0 := HL8.out
    have hlt8 := HT8.out.lt
    have hlx8 := HX8.out.lt
    have hll8 := block_lt_of_cell l0
    obtain ⟨i0, hi0, hz0, hz1, hz2⟩ := info_parts info_bd
    have hbs : s.B ≤ w8.heap.size := by obtain ⟨_, ht, _⟩ := HBR8.out.ns.t; exact ht.bs
    clear ho hrow
    go_wp2_with (at_builtin; go_loud (refine wpList_app _ rfl _ _ 37 rfl s.B 67 i0 (.agg #[.string ⟨#[]⟩, .bool false, .int .u8 0, .int .i64 0, .string ⟨#[]⟩, .slice none 0 0, .slice none 0 0, .slice none 0 0]) 8 120 Tryd.underlying37 hi0 hz0 hz1 hz2 rfl (by decide) (.slice Ab r.bs.length cb) r.bs.length cs rfl (own_below HO.out (below_step (below_box w8 (Obj.cells #[.string r.p.name] 9)) (below_box w8 (Obj.cells #[.string r.p.name] 9)).size (below_box (w8.alloc (Obj.cells #[.string r.p.name] 9)) _))) (some ⟨w8.heap.size + 1, 0, none⟩) 1 1 [.string (tmpN i), .bool r.p.list, .int .u8 81, .int .i64 0, .string ⟨#[]⟩, .slice (some ⟨w8.heap.size, 0, none⟩) 1 1, .slice none 0 0, .slice none 0 0] rfl rfl (cells_newC (w8.alloc (Obj.cells #[.string r.p.name] 9)) (by simp) _ _) (fun u hu => by simp at hu; rcases hu with rfl | rfl | rfl | rfl | rfl | rfl | rfl | rfl <;> rfl) (by unfold maxLen; omega) (by omega) (by simp; omega) ?_; intro v' w9 hown' hgrow hat))
    have hb9 := below_step (below_box w8 (Obj.cells #[.string r.p.name] 9)) (below_box w8 (Obj.cells #[.string r.p.name] 9)).size (below_box (w8.alloc (Obj.cells #[.string r.p.name] 9)) (Obj.cells #[.string (tmpN i), .bool r.p.list, .int .u8 81, .int .i64 0, .string ⟨#[]⟩, .slice (some ⟨w8.heap.size, 0, none⟩) 1 1, .slice none 0 0, .slice none 0 0] 67))
    have HF9 := Lib.hid ((Fr.of_below hb9 (fun k => some k = (Value.slice Ab r.bs.length cb).ownBlock)).trans (Fr.of_grown hgrow) (fun _ _ e => e))
    have HT9 := Lib.hid (HT8.out.fr HF9.out (fun e => by have := (HBR8.out.sep _ e.symm).1; have := HL.out; omega))
    have HEND := Lib.hid (Br.push (t := .mk (tmpN i) r.p.list 81 0 eS [r.p.name] [] []) (HBR8.out.below hb9) (HROW.out.map (BdC.le (Le.belowA hb9 fun _ _ e => e))) ⟨some ⟨w8.heap.size, 0, none⟩, 1, none, 0, none, 0, rfl, (strsX_lit w8 _ r.p.name 9 (fun e => by
      have q2 := HBR8.out.ns.olds
      rcases e with e | e
      · rcases e with e | e | e | e | e | e
        · have := HBR8.out.ns.x0 _ (.inl e); omega
        · omega
        · omega
        · omega
        · have := q2.2.2.2.2.1 _ e; omega
        · have := q2.2.2.2.2.2.1 _ e; omega
      · have := (HO.out.lt _ e).2; omega)).le (Le.belowA (below_box (w8.alloc (Obj.cells #[.string r.p.name] 9)) _) fun _ _ e => e), BdsX.nil _ _ _, BdsX.nil _ _ _⟩ hown' (Fr.of_grown hgrow) (fun g e => by
      rcases hat with q | q
      · exact .inl (q ▸ e)
      · rw [q] at e; cases e
        right; exact Nat.le_refl _))
    have HFF := Lib.hid (HF8.out.trans HF9.out (fun k hk e => by have := (HBR8.out.sep _ e.symm).1; omega))
    clear hown' hgrow hat y0 y1 x0 x1 l0 hlt8 hlx8 hll8 HO HROW HT8 HX8 HL8 HF8 HF9 HBR8 hb9
    obtain ⟨hN, A2, c2, rfl, hbd⟩ := HEND.out
    go_wp2_with fail
    exact bodyPost_ret (v := .slice A2 (r.bs.length + 1) c2) (by simp [results, Tryd.results78, go_sem]) rfl ⟨A2, c2, n1, u1, rfl, hn1, hN, hbd, HT9.out, HFF.out, HNU.out⟩

end Go.Proofs.YtcoeakdpcigogaaDoor
