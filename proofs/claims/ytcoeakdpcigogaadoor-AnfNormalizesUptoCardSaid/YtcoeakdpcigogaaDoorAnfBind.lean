/-
  The visitor's bind: the walk.
-/
import Derived.Test.YtcoeakdpcigogaaDoorAnfCl
namespace Go.Proofs.YtcoeakdpcigogaaDoor
open Go.ChangeShapes Go.WideShapes Go.ChangeAt Go.RowKit Go.Sort Go.Maps

variable {s : Nc} {pb po : Nat} {X0 : Nat → Prop} {n : Nat} {env : ByteArray → Option Pm} {ts ts' : List Pm} {ut ut' : Value} {bs : List Bd} {ub ub' : Value} {w w' w3 : World}
/-- What a normalizing function writes of what it was given. -/
def Nf (s : Nc) (pb : Nat) (ut ub : Value) (k : Nat) : Prop := k = s.O ∨ some k = ut.ownBlock ∨ k = pb ∨ some k = ub.ownBlock

theorem bind_fin {W w1 W2 W3 W5 : World} {u1 ub1 : Value} {ts1 : List Pm} {bs1 : List Bd} (q : s.O < w.heap.size ∧ s.V < w.heap.size ∧ s.M < w.heap.size ∧ pb < w.heap.size ∧ (∀ g, ut.ownBlock = some g → g < w.heap.size) ∧ (∀ g, ub.ownBlock = some g → g < w.heap.size) ∧ s.W0.heap.size ≤ w.heap.size) (z2 : W.heap.size = w.heap.size + 2) (z8 : w.heap.size + 1 < W3.heap.size)
    (hm : Ns s pb po (fun k => (X0 k ∨ (w.heap.size ≤ k ∧ k < W.heap.size)) ∨ (w1.heap.size ≤ k ∧ k < W2.heap.size)) n env ts1 u1 bs1 ub1 W5) (hf5 : Fr W3 W5 (fun k => k = pb ∨ some k = ub.ownBlock)) (hf3 : Fr w W3 (fun k => k = s.O ∨ some k = ut.ownBlock)) (hn1 : Nwb W ut u1) (hn4 : Nwb W3 ub ub1) (v0 v1 : Value) :
    Ns s pb po X0 n env ts1 u1 bs1 ub1 ((W5.setCell ⟨w.heap.size + 1, 0, none⟩ v0).setCell ⟨w.heap.size + 1, 1, none⟩ v1) ∧ Fr w ((W5.setCell ⟨w.heap.size + 1, 0, none⟩ v0).setCell ⟨w.heap.size + 1, 1, none⟩ v1) (Nf s pb ut ub) ∧ Nwb w ut u1 ∧ Nwb w ub ub1 := by
  have zf := hf3.size
  refine ⟨hm.close (Fr.set2 W5 (w.heap.size + 1) v0 v1) (fun k e => .inl (.inr ⟨by omega, by omega⟩)) (fun k e => ?_) (fun k e => .inl (.inl e)), ((hf3.mono (m' := Nf s pb ut ub) (fun k _ e => e.elim .inl (fun e => .inr (.inl e)))).trans hf5 (fun k _ e => e.elim (fun e => .inr (.inr (.inl e))) (fun e => .inr (.inr (.inr e))))).trans (Fr.set2 W5 (w.heap.size + 1) v0 v1) (fun k hk e => by omega), hn1.mono (by omega), hn4.mono (by omega)⟩
  subst e
  refine ⟨by omega, by omega, by omega, by omega, fun e => ?_, fun e => ?_, by omega⟩
  · rcases hn1 _ e with e | e
    · have := q.2.2.2.2.1 _ e; omega
    · omega
  · rcases hn4 _ e with e | e
    · have := q.2.2.2.2.2.1 _ e; omega
    · omega
theorem nwb_of_hat {W : World} {u v : Value} {o : Obj} (h : v.ownBlock = u.ownBlock ∨ v.ownBlock = some (W.alloc o).drew.heap.size) : Nwb W u v := fun g e => by
  rcases h with q | q
  · exact .inl (q ▸ e)
  · rw [q] at e; cases e
    right; show W.heap.size ≤ (W.alloc o).heap.size; simp

set_option maxRecDepth 100000 in
set_option maxHeartbeats 8000000 in
theorem bind_any (hW : Wld s.W0) (h : Ns s pb po X0 n env ts ut bs ub w) (hlen : ts.length < 100000) (hbl : bs.length < 100000) (to0 : ByteArray) (l0 : Bool) (op : Nat) (num : Int) (nm : ByteArray) (Aa : Option Addr) (ca : Nat) (args : List ByteArray) (hs : StrsX w (Xs X0 s.O s.M pb ut ub) Aa args) (l : Bool) :
    Calls Tryd.prog 61 #[.pointer (some ⟨s.V, 0, none⟩), .agg #[.string to0, .bool l0, .int .u8 op, .int .i64 num, .string nm, .slice Aa args.length ca, .slice none 0 0, .slice none 0 0], .bool l, .pointer (some ⟨pb, po, none⟩)] w fun e w' => e = .returned (.agg #[.string (tmpN ts.length), .bool l]) ∧ ∃ ut' ub', Ns s pb po X0 n env (ts ++ [⟨tmpN ts.length, l⟩]) ut' (bs ++ [.mk (tmpN ts.length) l op num nm args [] []]) ub' w' ∧ Fr w w' (Nf s pb ut ub) ∧ Nwb w ut ut' ∧ Nwb w ub ub' := by
  have hb1 := below_box w (Obj.cells #[.string to0, .bool l0, .int .u8 op, .int .i64 num, .string nm, .slice Aa args.length ca, .slice none 0 0, .slice none 0 0] 67)
  have hb2 := below_box (w.alloc (Obj.cells #[.string to0, .bool l0, .int .u8 op, .int .i64 num, .string nm, .slice Aa args.length ca, .slice none 0 0, .slice none 0 0] 67)) (Obj.cells #[.string ⟨#[]⟩, .bool false] 65)
  have hbx := below_step hb1 hb1.size hb2
  have HX5 := Lib.hid ((bx_new w #[.string to0, .bool l0, .int .u8 op, .int .i64 num, .string nm, .slice Aa args.length ca, .slice none 0 0, .slice none 0 0] 67).below hb2)
  have HX8 := Lib.hid (bx_new (w.alloc (Obj.cells #[.string to0, .bool l0, .int .u8 op, .int .i64 num, .string nm, .slice Aa args.length ca, .slice none 0 0, .slice none 0 0] 67)) #[.string ⟨#[]⟩, .bool false] 65)
  rw [show (w.alloc (Obj.cells #[.string to0, .bool l0, .int .u8 op, .int .i64 num, .string nm, .slice Aa args.length ca, .slice none 0 0, .slice none 0 0] 67)).heap.size = w.heap.size + 1 by simp] at HX8
  have HN := Lib.hid (h.open hbx)
  have HSX := Lib.hid (hs.le (le_open X0 hbx))
  have HB := Lib.hid hbx
  have HL0 := Lib.hid h.olds
  have HSZ := Lib.hid (show ((w.alloc (Obj.cells #[.string to0, .bool l0, .int .u8 op, .int .i64 num, .string nm, .slice Aa args.length ca, .slice none 0 0, .slice none 0 0] 67)).alloc (Obj.cells #[.string ⟨#[]⟩, .bool false] 65)).heap.size = w.heap.size + 2 by simp)
  clear h hbx hb1 hb2 hs
  go_enter Tryd.func61, Tryd.ntmps61
  go_upto_region 1 with fail
  generalize (w.alloc _).alloc _ = W at HX5 HX8 HN HB HSZ HSX ⊢
  go_wp2_with fail
  refine (temp_any hW HN.out hlen l).mono ?_
  rintro e w1 ⟨rfl, u1, hm1, hf1, hn1⟩
  have HX51 := Lib.hid (HX5.out.fr hf1 (fun e => by have q := HL0.out; rcases e with e | e; omega; exact absurd (q.2.2.2.2.1 _ e.symm) (by omega)))
  have HX81 := Lib.hid (HX8.out.fr hf1 (fun e => by have q := HL0.out; rcases e with e | e; omega; exact absurd (q.2.2.2.2.1 _ e.symm) (by omega)))
  have HS1 := Lib.hid (HSX.out.le (le_tmp (X0 := fun k => X0 k ∨ (w.heap.size ≤ k ∧ k < W.heap.size)) (pb := pb) (ub := ub) hf1 hn1))
  have hb9 := below_box w1 (Obj.cells #[.string (tmpN ts.length), .bool l] 65)
  have HX9 := Lib.hid (bx_new w1 #[.string (tmpN ts.length), .bool l] 65)
  have HM2 := Lib.hid (hm1.open hb9)
  have HX52 := Lib.hid (HX51.out.below hb9)
  have HX82 := Lib.hid (HX81.out.below hb9)
  have HS2 := Lib.hid (HS1.out.le (le_open _ hb9))
  have HF2 := Lib.hid (((Fr.of_below HB.out (fun k => k = s.O ∨ some k = ut.ownBlock)).trans hf1 fun _ _ e => e).trans (Fr.of_below hb9 (fun k => k = s.O ∨ some k = ut.ownBlock)) fun _ _ e => e)
  have HN1 := Lib.hid hn1
  have HS9 := Lib.hid (show W.heap.size ≤ w1.heap.size from hf1.size)
  have HSA := Lib.hid (show (w1.alloc (Obj.cells #[.string (tmpN ts.length), .bool l] 65)).heap.size = w1.heap.size + 1 by simp)
  clear hm1 hf1 hn1 hb9
  go_upto_region 2 with fail
  generalize w1.alloc _ = W2 at HX9 HM2 HX52 HX82 HS2 HF2 HSA ⊢
  obtain ⟨x0, x1, _⟩ := HX9.out.two
  obtain ⟨⟨y0, y1, y2, y3, y4, y5, y6, y7⟩, f0, f1, f2, f3, f4, f5, f6, f7⟩ := HX52.out.eight
  have hlt9 := HX9.out.lt
  have hlt5 := HX52.out.lt
  go_upto_region 3 with fail
  have hk5 : ∀ k, k = w.heap.size → ((X0 k ∨ (w.heap.size ≤ k ∧ k < W.heap.size)) ∨ (w1.heap.size ≤ k ∧ k < W2.heap.size)) := fun k e => .inl (.inr ⟨by omega, by have := HSZ.out; omega⟩)
  have HM3 := Lib.hid (HM2.out.close (X0 := fun k => (X0 k ∨ (w.heap.size ≤ k ∧ k < W.heap.size)) ∨ (w1.heap.size ≤ k ∧ k < W2.heap.size)) (Fr.set2 W2 w.heap.size (.string (tmpN ts.length)) (.bool l)) hk5 (fun k e => by
    have q := HL0.out
    subst e
    refine ⟨by omega, by omega, by omega, by omega, fun e => ?_, fun e => ?_, q.2.2.2.2.2.2⟩
    · rcases HN1.out _ e with e | e
      · have := q.2.2.2.2.1 _ e; omega
      · have := HSZ.out; omega
    · have := q.2.2.2.2.2.1 _ e; omega) (fun k e => e))
  have HX53 := Lib.hid (show Bx ((W2.setCell ⟨w.heap.size, 0, none⟩ (.string (tmpN ts.length))).setCell ⟨w.heap.size, 1, none⟩ (.bool l)) w.heap.size #[.string (tmpN ts.length), .bool l, .int .u8 op, .int .i64 num, .string nm, .slice Aa args.length ca, .slice none 0 0, .slice none 0 0] from (HX52.out.set 0 _).set 1 _)
  have HX83 := Lib.hid (HX82.out.fr (Fr.set2 W2 w.heap.size (.string (tmpN ts.length)) (.bool l)) (fun e => by omega))
  have HX93 := Lib.hid (HX9.out.fr (Fr.set2 W2 w.heap.size (.string (tmpN ts.length)) (.bool l)) (fun e => by have := HS9.out; have := HSZ.out; omega))
  have HS3 := Lib.hid (HS2.out.le (le_open_set (Fr.set2 W2 w.heap.size (.string (tmpN ts.length)) (.bool l)) (fun k e => .inl (hk5 k e))))
  have HF3 := Lib.hid (HF2.out.trans (Fr.set2 W2 w.heap.size (.string (tmpN ts.length)) (.bool l)) (fun k hk e => by omega))
  clear x0 x1 y0 y1 y2 y3 y4 y5 y6 y7 f0 f1 f2 f3 f4 f5 f6 f7 hlt9 hlt5 HM2 HX52 HX82 HX9 HS2 HF2 hk5 HX51 HX81 HS1 HX5 HX8 HSX HN
  generalize World.setCell _ _ _ = W3 at HM3 HX53 HX83 HX93 HS3 HF3 ⊢
  obtain ⟨cs, ho, hr⟩ := HM3.out.own
  obtain ⟨Ab, cb, rfl, hcb, hqq⟩ := own_formB ho
  clear hqq
  have HO := Lib.hid ho
  have HR := Lib.hid hr
  have hpc := HM3.out.c
  have hpf := HM3.out.f
  have hpl : pb < W3.heap.size := block_lt_of_cell hpc
  obtain ⟨⟨y0, y1, y2, y3, y4, y5, y6, y7⟩, f0, f1, f2, f3, f4, f5, f6, f7⟩ := HX53.out.eight
  have hlt5 := HX53.out.lt
  obtain ⟨i0, hi0, hz0, hz1, hz2⟩ := info_parts info_bd
  have HPU := Lib.hid HM3.out.pu
  have HUB := Lib.hid (show (Value.slice Ab bs.length cb).ownBlock ≠ some w.heap.size from fun e => absurd (HL0.out.2.2.2.2.2.1 _ e) (Nat.lt_irrefl _))
  have rk1 : (0 : Int) ≤ bs.length := by omega
  have rk2 : (bs.length : Int) < bs.length + 1 := by omega
  clear ho hr
  go_region_law (first
    | (refine step_app _ (by rfl) (.tmp 20) (.tmp 23) 37 (by rfl) s.B 67 i0 (.agg #[.string ⟨#[]⟩, .bool false, .int .u8 0, .int .i64 0, .string ⟨#[]⟩, .slice none 0 0, .slice none 0 0, .slice none 0 0]) 8 120 Tryd.underlying37 hi0 hz0 hz1 hz2 rfl (by decide) (.slice Ab bs.length cb) bs.length cs (by first | (simp [Act.eval]; done) | (simp [Act.eval, Act.put]; done) | (simp [Act.eval, go_sem]; done)) (show (W3.alloc (Obj.cells #[.string ⟨#[]⟩, .bool false, .int .u8 0, .int .i64 0, .string ⟨#[]⟩, .slice none 0 0, .slice none 0 0, .slice none 0 0] 67)).drew.ownsRow s.B 67 8 (.slice Ab bs.length cb) bs.length cs from HO.out.alloc _) (some ⟨W3.heap.size, 0, none⟩) 1 1 [.string ⟨#[]⟩, .bool false, .int .u8 0, .int .i64 0, .string ⟨#[]⟩, .slice none 0 0, .slice none 0 0, .slice none 0 0] (by first | (simp [Act.eval]; done) | (simp [Act.eval, Act.put]; done) | (simp [Act.eval, go_sem]; done)) rfl (show CellsAt (W3.alloc (Obj.cells #[.string ⟨#[]⟩, .bool false, .int .u8 0, .int .i64 0, .string ⟨#[]⟩, .slice none 0 0, .slice none 0 0, .slice none 0 0] 67)).drew _ _ from cells_litC W3 _ _) (fun u hu => by simp at hu; rcases hu with rfl | rfl | rfl | rfl | rfl | rfl | rfl | rfl <;> rfl) (by unfold maxLen; omega) (by omega) (by simp; have := HM3.out.t; obtain ⟨_, ht, _⟩ := this; have := ht.bs; omega) ?_; intro v' w4 hown' hgrow hat; obtain ⟨g, cap, rfl, hgB, hgl⟩ := hown'.form (by omega); have HFR4 := Lib.hid ((Fr.of_below (belowDrawnP (below_box W3 _)) (fun k => some k = (Value.slice Ab bs.length cb).ownBlock)).trans (Fr.of_grown hgrow) (fun _ _ e => e)); have HX54 := Lib.hid (HX53.out.fr HFR4.out (fun e => HUB.out e.symm)); have HOW4 := Lib.hid hown'; have HNW4 := Lib.hid (nwb_of_hat hat); have hgp : g ≠ pb := (fun e => by rcases HNW4.out g rfl with q | q; exact HPU.out (e ▸ q); omega); have hpg : pb ≠ g := hgp.symm; replace hpc := HFR4.out.cell hpc (fun e => HPU.out e.symm); replace hpf := frozen_of_block (HFR4.out.block _ hpl (fun e => HPU.out e.symm)) hpf; obtain ⟨⟨z0, z1, z2, z3, z4, z5, z6, z7⟩, k0, k1, k2, k3, k4, k5, k6, k7⟩ := own_last8 hown' HO.out.1; clear hown' hgrow hat; obtain ⟨⟨y0, y1, y2, y3, y4, y5, y6, y7⟩, f0, f1, f2, f3, f4, f5, f6, f7⟩ := HX54.out.eight)
    | fail)
  all_goals
    try rw [set8_swap w4 ⟨pb, po, none⟩ _ g (bs.length * 8) hpg]
    have HPW := Lib.hid (own_put8 HOW4.out HO.out.1 (.string (tmpN ts.length)) (.bool l) (.int .u8 op) (.int .i64 num) (.string nm) (.slice Aa args.length ca) (.slice none 0 0) (.slice none 0 0))
    have HFW := Lib.hid (HFR4.out.trans (Fr.set8 w4 g (bs.length * 8) (.string (tmpN ts.length)) (.bool l) (.int .u8 op) (.int .i64 num) (.string nm) (.slice Aa args.length ca) (.slice none 0 0) (.slice none 0 0)) (fun k hk e => by rcases HNW4.out g rfl with q | q; rw [e]; exact q.symm; omega))
    clear z0 z1 z2 z3 z4 z5 z6 z7 k0 k1 k2 k3 k4 k5 k6 k7 y0 y1 y2 y3 y4 y5 y6 y7 f0 f1 f2 f3 f4 f5 f6 f7 hpc hpf HOW4 HX54 HX53
    have HBD := Lib.hid (HM3.out.bound (t := .mk (tmpN ts.length) l op num nm args [] []) HO.out HR.out ⟨Aa, ca, none, 0, none, 0, rfl, HS3.out, BdsX.nil _ _ _, BdsX.nil _ _ _⟩ HFW.out HPW.out HNW4.out)
    generalize World.setCell _ _ _ = W5 at HBD ⊢
    have HX85 := Lib.hid (HX83.out.fr HBD.out.2 (fun e => by have q := HL0.out; rcases e with e | e; omega; exact absurd (q.2.2.2.2.2.1 _ e.symm) (by omega)))
    have HX95 := Lib.hid (HX93.out.fr HBD.out.2 (fun e => by have q := HL0.out; have z := HS9.out; have z2 := HSZ.out; rcases e with e | e; omega; exact absurd (q.2.2.2.2.2.1 _ e.symm) (by omega)))
    have HEND := Lib.hid (bind_fin HL0.out HSZ.out HX83.out.lt HBD.out.1 HBD.out.2 HF3.out HN1.out HNW4.out (.string (tmpN ts.length)) (.bool l))
    obtain ⟨x0, x1, _⟩ := HX95.out.two
    obtain ⟨y0, y1, f0, f1⟩ := HX85.out.two
    have hlt8 := HX85.out.lt
    have hlt9 := HX95.out.lt
    have HBF := Lib.hid (HX85.out.set2 (.string (tmpN ts.length)) (.bool l))
    clear HX85 HX95 HBD HFW HPW HNW4 HFR4 HUB HPU HR HO HF3 HS3 HX93 HX83 HM3 HSA HS9 HN1 HSZ HB HL0
    go_wp2_with fail
    generalize World.setCell _ _ _ = WF at HEND HBF ⊢
    obtain ⟨g0, g1, _⟩ := HBF.out.two
    exact bodyPost_ret (v := .agg #[.string (tmpN ts.length), .bool l]) (by simp [results, Tryd.results61, go_sem, g0, g1]) rfl ⟨rfl, _, _, HEND.out⟩

end Go.Proofs.YtcoeakdpcigogaaDoor
