/-
  The walk of the law FunevalUnfolds.
-/
import Derived.Test.YtgokgcnalgpiiaaFevUnfP
import Derived.Test.YtgokgcnalgpiiaaFunRow
import Derived.Deep.RegionHeld3
namespace Go.Proofs.Ytgokgcnalgpiiaa
open Go.ChangeShapes Go.WideShapes Go.ChangeAt Go.RowKit Go.Sort Go.Maps

theorem info_node : (Try.prog.info? 56).map (fun i => (i.zero, i.size, i.bytes)) = some (some (.agg #[.int .u8 0, .int .i64 0, .string ⟨#[]⟩, .slice none 0 0]), 4, 56) := by kernel_rfl
/-- Four cells that are a node without kids. -/
def NvC (cs : List Value) (x : Nd) : Prop := cs = [.int .u8 x.kind, .int .i64 x.num, .string x.name, .slice none 0 0] ∧ x.kids = []
theorem NvC.len (cs : List Value) (x : Nd) (h : NvC cs x) : cs.length = 4 := by rw [h.1]; rfl
theorem NvC.one (p : Pm) : ∀ u : Value, u ∈ [Value.int .u8 81, .int .i64 0, .string p.name, .slice none 0 0] → u.oneCell' = true := by
  intro u hu
  simp at hu
  rcases hu with h | h | h | h <;> subst h <;> rfl
theorem nds_of_own {w : World} {base : Nat} {e : TypeId} {v : Value} {cs : List Value} {l : List Nd} (h : w.ownsRow base e 4 v l.length cs) (hr : RowG NvC cs l) : ∃ A c, v = .slice A l.length c ∧ NdsAt w A l := by
  obtain ⟨h1, h2⟩ := id h
  rcases h2 with ⟨rfl, h0⟩ | ⟨g, cap, cur, rfl, hg, hh, hc1, hc2, hc3, hc4⟩
  · refine ⟨none, 0, by rw [h0], fun k x hk => ?_⟩
    have : l = [] := List.length_eq_zero_iff.1 h0
    subst this; simp at hk
  · refine ⟨some ⟨g, 0, none⟩, cap, rfl, fun k f hk => ⟨g, 0, rfl, ?_⟩⟩
    obtain ⟨c7, h3, h4⟩ := hr.get NvC.len k f hk
    obtain ⟨h3, hk0⟩ := h3
    have hl := hr.len NvC.len
    have hkl : k < l.length := (List.getElem?_eq_some_iff.1 hk).1
    have cell : ∀ j, j < 4 → w.cell? ⟨g, k * 4 + j, none⟩ = c7[j]? := fun j hj => by
      have hlt : k * 4 + j < cs.length := by omega
      have := h.cells (g := g) rfl (k * 4 + j) (cs[k * 4 + j]'hlt) (List.getElem?_eq_getElem hlt)
      rw [add0] at this
      rw [← h4 j hj, List.getElem?_eq_getElem hlt]; exact this
    rw [Nat.zero_add]
    have e0 := cell 0 (by omega)
    have e1 := cell 1 (by omega)
    have e2 := cell 2 (by omega)
    have e3 := cell 3 (by omega)
    rw [h3] at e0 e1 e2 e3
    simp at e0 e1 e2 e3
    exact nd_of_cells (A := none) (cap := 0) e0 e1 e2 (by rw [hk0]; exact e3) (by rw [hk0]; exact fun k x hk => by simp at hk)

/-- The wrapper's block in the making: k of its body's operands are there. -/
structure GAt (W wr : World) (bG : Nat) (f : Fn1) (name : ByteArray) (Ap : Option Addr) (cp : Nat) (k : Nat) (v : Value) (cs : List Value) : Prop where
  hb : Below W.heap.size W wr
  hW : W.heap.size ≤ bG
  bx : Bx wr bG #[.string wrapS, .slice Ap f.params.length cp, .bool f.list, .int .u8 85, .int .i64 0, .string name, v]
  own : wr.ownsRow (bG + 1) 56 4 v k cs
  row : RowG NvC cs ((f.params.take k).map varN)
theorem GAt.push {W wr w' : World} {bG : Nat} {f : Fn1} {name : ByteArray} {Ap : Option Addr} {cp k : Nat} {v v' : Value} {cs : List Value} (h : GAt W wr bG f name Ap cp k v cs) {p : Pm} (hp : f.params[k]? = some p) {o1 o2 : Obj} (hg : ((wr.alloc o1).alloc o2).grownBy w' v.ownBlock) (ho : w'.ownsRow (bG + 1) 56 4 v' (k + 1) (cs ++ [.int .u8 81, .int .i64 0, .string p.name, .slice none 0 0])) :
    GAt W (w'.setCell ⟨bG, 6, none⟩ v') bG f name Ap cp (k + 1) v' (cs ++ [.int .u8 81, .int .i64 0, .string p.name, .slice none 0 0]) ∧ w'.frozen? ⟨bG, 6, none⟩ = false ∧ (∃ u, w'.cell? ⟨bG, 6, none⟩ = some u) ∧ bG < w'.heap.size := by
  have hlt := h.bx.lt
  have b2 := two_box wr o1 o2
  have bx1 := h.bx.below b2
  have bx2 := bx1.fr (Fr.of_grown hg) (fun e => by have := (h.own.lt bG e.symm).1; omega)
  have hb1 : Below W.heap.size W w' := (below_step h.hb h.hb.size b2).grown hg (Nat.le_trans h.hb.size b2.size) (fun j hj => by have := (h.own.lt j hj).1; have := h.hW; omega)
  refine ⟨⟨hb1.setCell (p := ⟨bG, 6, none⟩) h.hW _, h.hW, bx2.set 6 v', ?_, ?_⟩, bx2.free 6, ⟨_, bx2.cell rfl⟩, bx2.lt⟩
  · exact (Fr.of_set w' ⟨bG, 6, none⟩ v').own ho (fun g hg => by
      have := (ho.lt g hg).1
      show ¬ g = bG
      omega)
  · obtain ⟨hk, hpe⟩ := List.getElem?_eq_some_iff.1 hp
    rw [List.take_succ_eq_append_getElem hk, List.map_append, hpe]
    exact .snoc h.row ⟨rfl, rfl⟩
theorem wrap_fit {f : Fn1} {name : ByteArray} (hf : FnFit f) (hn : name.size ≤ 9223372036854775807) : FnFit (wrapF f name) := by
  refine ⟨by show wrapS.size ≤ _; decide, hf.2.1, .mk (by show 85 < 256; omega) ⟨by show _ ≤ (0 : Int); omega, by show (0 : Int) ≤ _; omega⟩ hn (by show (f.params.map varN).length ≤ _; rw [List.length_map]; exact hf.2.1.1) (fun k y hy => ?_)⟩
  have hy' : (f.params.map varN)[k]? = some y := hy
  rw [List.getElem?_map] at hy'
  obtain ⟨p, hp, rfl⟩ := Option.map_eq_some_iff.1 hy'
  exact .mk (by show 81 < 256; omega) ⟨by show _ ≤ (0 : Int); omega, by show (0 : Int) ≤ _; omega⟩ (hf.2.1.2 k p hp) (by show 0 ≤ _; omega) (fun j z hz => by
    have hz' : ([] : List Nd)[j]? = some z := hz
    simp at hz')
theorem snoc_get {α : Type} {l : List α} {z x : α} {k : Nat} (h : (l ++ [z])[k]? = some x) : l[k]? = some x ∨ x = z := by
  by_cases hk : k < l.length
  · rw [List.getElem?_append_left hk] at h; exact .inl h
  · have := (List.getElem?_eq_some_iff.1 h).1
    simp at this
    have hk : k = l.length := by omega
    subst hk
    rw [List.getElem?_append_right (Nat.le_refl _)] at h
    simp at h
    exact .inr h.symm
/-- A library of the call's own, one function longer. -/
theorem lib_snocU {w w6 : World} {base : Nat} {e : TypeId} {v' : Value} {cs c7 : List Value} {l : List Fn1} {z : Fn1} (hb : Below w.heap.size w w6) (hr : RowL w cs l) (hz : FnC w c7 z) (hown : w6.ownsRow base e 7 v' (l.length + 1) (cs ++ c7)) : ∃ A c, v' = .slice A (l.length + 1) c ∧ LibAt w6 A (l ++ [z]) := by
  have e1 : (l ++ [z]).length = l.length + 1 := by simp
  have h2 : w6.ownsRow base e 7 v' (l ++ [z]).length (cs ++ c7) := by rw [e1]; exact hown
  rw [← e1]
  exact lib_of_own h2 (.snoc (hr.mono hb) (hz.mono hb))
theorem own_emptyE {w W : World} {B C : Nat} (hB : W.heap.size = C) (hC : B ≤ C) (e : TypeId) (hw : w = (W.alloc (Obj.cells #[] e))) {size : Nat} : w.ownsRow B e size (.slice (some ⟨C, 0, none⟩) 0 0) 0 [] := by
  subst hB hw
  exact ⟨by simp, .inr ⟨W.heap.size, 0, #[], rfl, hC, heap_alloc_new W _, Nat.le_refl _, by simp [maxLen], by simp, by simp⟩⟩
theorem cells_newU (w : World) {C : Nat} (hC : w.heap.size = C) (cs : List Value) (T : TypeId) : CellsAt (w.alloc (Obj.cells cs.toArray T)) (some ⟨C, 0, none⟩) cs := fun j u hu => ⟨C, 0, rfl, by
  subst hC
  rw [Nat.zero_add]
  exact (show Bx (w.alloc (Obj.cells cs.toArray T)) w.heap.size cs.toArray from bx_new w _ T).cell (by simpa using hu)⟩
theorem cellsAt_drew {w : World} {A : Option Addr} {cs : List Value} (h : CellsAt w A cs) : CellsAt w.drew A cs := h
theorem cellsAt_grown {w w' : World} {C : Nat} {cs : List Value} {r : Option Nat} (h : CellsAt w (some ⟨C, 0, none⟩) cs) (hg : w.grownBy w' r) (hn : ∀ g, r = some g → g ≠ C) : CellsAt w' (some ⟨C, 0, none⟩) cs := fun j u hu => by
  obtain ⟨b, o, e, h1⟩ := h j u hu
  cases e
  exact ⟨C, 0, rfl, (Fr.of_grown hg).cell h1 (fun e => hn _ e.symm rfl)⟩
theorem lib_snoc2 {w w9 w10 : World} {v5 v6 : Value} {cs c7 : List Value} {l : List Fn1} {z : Fn1} {e : TypeId} (hb : Below w.heap.size w w9) (hown : w10.ownsRow w.heap.size e 7 v6 (l.length + 1) (cs ++ c7)) (hg : w9.grownBy w10 v5.ownBlock) (ho : ∀ k, v5.ownBlock = some k → w.heap.size ≤ k) (hr : RowL w cs l) (hz : FnC w c7 z) : ∃ A c, v6 = .slice A (l.length + 1) c ∧ LibAt w10 A (l ++ [z]) ∧ Below w.heap.size w w10 := by
  have hb2 := hb.grown hg hb.size ho
  obtain ⟨A, c, e, h⟩ := lib_snocU hb2 hr hz hown
  exact ⟨A, c, e, h, hb2⟩
theorem belowDrewU {B : Nat} {W w : World} (h : Below B W w) : Below B W w.drew := ⟨h.os, h.tape, h.output, h.size, h.block⟩
theorem highT_le_steps {t : Tr} : highT t ≤ stepsT t := high_steps _ t (Nat.le_refl _)
theorem startR_cost {lib : List Fn1} {name : ByteArray} {args : List Vl} {F : Int} {t : Tr} {f : Nat} (h : startR lib name args F = .ok t f) : stepsT t ≤ F.toNat + 1 := by
  have h2 := startR_ok h F
  rw [h] at h2
  have hc := enter_cost (lib := lib) (E := ev apR lib F.toNat) (fun a env x g => ev_cost apR lib _ a env x g) 0 (findF lib name 0) args F.toNat
  rw [← h2] at hc
  have : f + stepsL [t] ≤ F.toNat := hc
  simp [stepsL] at this
  omega

set_option maxRecDepth 100000 in
set_option maxHeartbeats 4000000 in
theorem funevalUnfolds_walk (lib : List Fn1) (A : Option Addr) (cap : Nat) (name : ByteArray) (args : List Vl) (Aa : Option Addr) (ca : Nat) (w : World) (hL : LibAt w A lib) (hF : LibFit lib) (hP : FewParams lib) (hN : FewNodes lib) (hV : VlsX w (fun _ => False) Aa args) (hvl : ∀ v ∈ args, v.l.length ≤ 9223372036854775807) (hal : args.length ≤ 9223372036854775807) (hns : name.size ≤ 9223372036854775807) :
    Calls Try.prog 8 #[.slice A lib.length cap, .string name, .slice Aa args.length ca] w fun e w' => e = .returned (.bool true) ∧ Below w.heap.size w w' := by
  have HL := Lib.hid hL
  have HV := Lib.hid hV
  have HVL := Lib.hid hvl
  have hll := hF.1
  clear hL hV hvl
  go_enter Try.func8, Try.ntmps8
  go_wp2_with fail
  refine (awake_any w).mono ?_
  rintro e w1 ⟨rfl, hb1⟩
  have q1 := Lib.hid hb1
  clear hb1
  go_wp2_with fail
  refine (find_any lib A cap name w1 (HL.out.mono q1.out) hll).mono ?_
  rintro e w2 ⟨rfl, hb2⟩
  have q2 := Lib.hid (below_step q1.out q1.out.size hb2)
  clear hb2 q1
  obtain ⟨fi, hfi⟩ : ∃ fi : Int, fi = findF lib name 0 := ⟨_, rfl⟩
  rw [← hfi]
  have HFI := Lib.hid hfi
  clear hfi
  go_wp2_with fail
  refine (valid_any lib A cap w2 (HL.out.mono q2.out) hF hP hN).mono ?_
  rintro e w3 ⟨rfl, hb3⟩
  have q3 := Lib.hid (below_step q2.out q2.out.size hb3)
  clear hb3 q2
  obtain ⟨v2, hv2⟩ : ∃ v2 : Int, v2 = (validR lib).2 := ⟨_, rfl⟩
  rw [← hv2]
  have HV2 := Lib.hid hv2
  clear hv2
  generalize (validR lib).1 = v1 at *
  go_wp2_with fail
  refine (Great_any lib A cap args Aa ca w3 (HL.out.mono q3.out) hF (HV.out.mono q3.out) HVL.out hal).mono ?_
  rintro e w4 ⟨g, rfl, hg, hb4⟩
  have q4 := Lib.hid (below_step q3.out q3.out.size hb4)
  have HG := Lib.hid hg
  clear hb4 hg q3
  cases g with
  | true => go_wp2_with fail; go_ret; exact ⟨rfl, q4.out⟩
  | false =>
  have HS := Lib.hid (HG.out rfl)
  clear HG
  by_cases he : v2 = 0
  rotate_left
  · have hn2 : (v2 != 0) = true := by simpa using he
    go_wp2_with fail
    go_ret
    exact ⟨rfl, q4.out⟩
  have HVD := Lib.hid (show (validR lib).2 = 0 by rw [← HV2.out]; exact he)
  subst he
  clear HV2
  by_cases hf0 : fi < 0
  · go_wp2_with fail
    go_ret
    exact ⟨rfl, q4.out⟩
  go_wp2_with fail
  refine (find_any lib A cap ⟨#[119, 114, 97, 112, 112, 101, 114]⟩ w4 (HL.out.mono q4.out) hll).mono ?_
  rintro e w5 ⟨rfl, hb5⟩
  have q5 := Lib.hid (below_step q4.out q4.out.size hb5)
  clear hb5 q4
  by_cases hwz : 0 ≤ findF lib ⟨#[119, 114, 97, 112, 112, 101, 114]⟩ 0
  · generalize findF lib ⟨#[119, 114, 97, 112, 112, 101, 114]⟩ 0 = fz at *
    go_wp2_with fail
    go_ret
    exact ⟨rfl, q5.out⟩
  have HNW := Lib.hid (show findF lib wrapS 0 < 0 from (by
    have : findF lib wrapS 0 = findF lib ⟨#[119, 114, 97, 112, 112, 101, 114]⟩ 0 := rfl
    omega))
  obtain ⟨j, f, hj, hf⟩ := findF_some (lib := lib) (s := name) (by rw [← HFI.out]; omega)
  obtain rfl : fi = j := by rw [HFI.out, hj]
  have HU := Lib.hid (fun F hF => unf_plain HVD.out HS.out.l hj hf HNW.out args F hF)
  have HFF := Lib.hid (wrap_fit (hF.2 j f hf) hns)
  have hnp := (HS.out.f j f hf).1
  obtain ⟨hjl, hjg⟩ := List.getElem?_eq_some_iff.1 hf
  have hl6 := HS.out.l
  obtain ⟨b, o, rfl, hfo⟩ := (HL.out.mono q5.out).at_ hjl
  rw [hjg] at hfo
  obtain ⟨c7, h7, hc7⟩ := hfo.cells
  obtain ⟨Ap, cp, A3, c3, rfl, hp7, hn7⟩ := id h7
  have d1 : w5.cell? ⟨b, o + j * 7 + 1, none⟩ = some (.slice Ap f.params.length cp) := hc7 1 _ rfl
  have d2 : w5.cell? ⟨b, o + j * 7 + 2, none⟩ = some (.bool f.list) := hc7 2 _ rfl
  have hlb := block_lt_of_cell d1
  have r1 : (0 : Int) ≤ j := by omega
  have r2 : (j : Int) < lib.length := by omega
  have HPM := Lib.hid hp7
  generalize findF lib ⟨#[119, 114, 97, 112, 112, 101, 114]⟩ 0 = fz at *
  clear hj hf hfo hc7 h7 hp7 hn7 HFI hjg
  go_wp2_with fail
  go_region
  have hG0 : GAt w5 (w5.alloc (Obj.cells #[.string ⟨#[119, 114, 97, 112, 112, 101, 114]⟩, .slice Ap f.params.length cp, .bool f.list, .int .u8 85, .int .i64 0, .string name, .slice none 0 0] 58)).drew w5.heap.size f name Ap cp 0 (.slice none 0 0) [] :=
    ⟨belowDrewU (below_box w5 _), Nat.le_refl _, (show Bx (w5.alloc (Obj.cells #[.string wrapS, .slice Ap f.params.length cp, .bool f.list, .int .u8 85, .int .i64 0, .string name, .slice none 0 0] 58)).drew w5.heap.size _ from bx_new w5 _ _), World.ownsRow_nil _ _ _ _, .nil⟩
  clear d1 d2 hlb
  go_wp2_with fail
  generalize World.drew _ = W6 at hG0 ⊢
  have HG0 := Lib.hid hG0
  have hbl := hG0.bx.lt
  clear hG0
  obtain ⟨i0, hi0, hz0, hz1, hz2⟩ := info_parts info_node
  have HI := Lib.hid (And.intro hi0 (And.intro hz0 (And.intro hz1 hz2)))
  clear hi0 hz0 hz1 hz2
  go_loopw [65] (fun i wr => ∃ (k : Nat) (v : Value) (cs : List Value), k ≤ f.params.length ∧ i = .int .i64 k ∧ Hid (GAt w5 wr w5.heap.size f name Ap cp k v cs)) (fun i _ => f.params.length - (intOf i).toNat)
  case atStart => exact ⟨0, _, _, by omega, rfl, HG0⟩
  case round =>
    obtain ⟨k, v, cs, hk, rfl, hg⟩ := hrel
    by_cases hin : k < f.params.length
    · have hget : f.params[k]? = some f.params[k] := List.getElem?_eq_getElem hin
      obtain ⟨bp, op, rfl, c0, c1⟩ := (HPM.out.mono hg.out.hb) k _ hget
      have HPU := Lib.hid (fun (v' : Value) (w' : World) (o1 o2 : Obj) (hgr : ((wr.alloc o1).alloc o2).grownBy w' v.ownBlock) (ho : w'.ownsRow (w5.heap.size + 1) 56 4 v' (k + 1) (cs ++ [.int .u8 81, .int .i64 0, .string f.params[k].name, .slice none 0 0])) => hg.out.push hget hgr ho)
      have x6 := hg.out.bx.cell (j := 6) rfl
      have hbw := hg.out.bx.lt
      have hlb := block_lt_of_cell c0
      have HOW := Lib.hid (fun (o1 o2 : Obj) => (hg.out.own.alloc o1).alloc o2)
      have hbs := hg.out.hb.size
      have hone := NvC.one f.params[k]
      have HON := Lib.hid hone
      obtain ⟨Av, cv, rfl, hnc, _⟩ := own_formB hg.out.own
      have r1 : (0 : Int) ≤ k := by omega
      have r2 : (k : Int) < f.params.length := by omega
      generalize f.params[k] = p at *
      clear hg hget hone
      go_wp2_with (at_builtin; go_loud (refine wpList_app _ rfl _ _ 54 rfl (w5.heap.size + 1) 56 i0 (.agg #[.int .u8 0, .int .i64 0, .string ⟨#[]⟩, .slice none 0 0]) 4 56 Try.underlying54 HI.out.1 HI.out.2.1 HI.out.2.2.1 HI.out.2.2.2 rfl (by decide) _ k cs rfl (HOW.out _ _) (some ⟨wr.heap.size + 1, 0, none⟩) 1 1 [.int .u8 81, .int .i64 0, .string p.name, .slice none 0 0] rfl rfl (fun j u hu => ⟨_, _, rfl, by rw [Nat.zero_add]; simp [go_sem, hu]⟩) HON.out (by unfold maxLen; omega) (by omega) (by simp; omega) ?_; intro v' w7 hown' hgrow _; obtain ⟨NX, z6, ⟨u6, x7⟩, hb7⟩ := HPU.out v' w7 _ _ hgrow hown'; have HNX := Lib.hid NX; obtain ⟨A7, c7, rfl, _, _⟩ := own_formB hown'; clear hown' hgrow NX))
      exact ⟨⟨k + 1, _, _, by omega, by go_num, HNX⟩, by simp [intOf]; omega⟩
    · obtain rfl : k = f.params.length := by omega
      obtain ⟨gb, gW, gx, gown, grow⟩ := hg.out
      rw [List.take_length] at grow
      have e1 : (f.params.map varN).length = f.params.length := List.length_map _
      obtain ⟨Ak, ck, rfl, hnk⟩ := nds_of_own (l := f.params.map varN) (by rw [e1]; exact gown) grow
      rw [e1] at gx
      clear gown grow hg
      have q6 := Lib.hid (below_step q5.out q5.out.size gb)
      obtain ⟨cl, hrl, hcl⟩ := (HL.out.mono q6.out).row
      have hgl : FnC wr [.string ⟨#[119, 114, 97, 112, 112, 101, 114]⟩, .slice Ap f.params.length cp, .bool f.list, .int .u8 85, .int .i64 0, .string name, .slice Ak f.params.length ck] (wrapF f name) := ⟨Ap, cp, Ak, ck, by rw [show (wrapF f name).body.kids.length = f.params.length from e1]; rfl, HPM.out.mono gb, hnk⟩
      have HGL := Lib.hid hgl
      have HRL := Lib.hid hrl
      have HLEN := Lib.hid hrl.len
      have HONE := Lib.hid hgl.one
      have hbP := Below.refl wr.heap.size wr
      have HCL := Lib.hid (fun (Y : World) (hY : Below wr.heap.size wr Y) => hcl.mono hY)
      have KS := Lib.hid (fun (Y : World) (hY : Below wr.heap.size wr Y) => show Y.cell? ⟨w5.heap.size, 0, none⟩ = some (.string ⟨#[119, 114, 97, 112, 112, 101, 114]⟩) ∧ Y.cell? ⟨w5.heap.size, 1, none⟩ = some (.slice Ap f.params.length cp) ∧ Y.cell? ⟨w5.heap.size, 2, none⟩ = some (.bool f.list) ∧ Y.cell? ⟨w5.heap.size, 3, none⟩ = some (.int .u8 85) ∧ Y.cell? ⟨w5.heap.size, 4, none⟩ = some (.int .i64 0) ∧ Y.cell? ⟨w5.heap.size, 5, none⟩ = some (.string name) ∧ Y.cell? ⟨w5.heap.size, 6, none⟩ = some (.slice Ak f.params.length ck) from ⟨(gx.below hY).cell rfl, (gx.below hY).cell rfl, (gx.below hY).cell rfl, (gx.below hY).cell rfl, (gx.below hY).cell rfl, (gx.below hY).cell rfl, (gx.below hY).cell rfl⟩)
      obtain ⟨x0, x1, x2, x3, x4, x5, x6⟩ := KS.out wr hbP
      have hgx := gx.lt
      have HGX := Lib.hid gx
      obtain ⟨f0, hf0, hy0, hy1, hy2⟩ := info_parts info_func
      have HI2 := Lib.hid (And.intro hf0 (And.intro hy0 (And.intro hy1 hy2)))
      have HE1 := Lib.hid (show (wr.alloc (Obj.cells #[] 58)).drew.ownsRow wr.heap.size 58 7 (.slice (some ⟨wr.heap.size, 0, none⟩) 0 0) 0 [] from own_emptyE rfl (Nat.le_refl _) _ rfl)
      have HE2 := Lib.hid (fun (c : Obj) => show ((wr.alloc (Obj.cells #[] 58)).alloc c).drew.ownsRow wr.heap.size 58 7 (.slice (some ⟨wr.heap.size, 0, none⟩) 0 0) 0 [] from (own_emptyE (W := wr) rfl (Nat.le_refl _) _ rfl).alloc c)
      have HE3 := Lib.hid (fun (c : Obj) => show ((wr.alloc c).alloc (Obj.cells #[] 58)).drew.ownsRow wr.heap.size 58 7 (.slice (some ⟨wr.heap.size + 1, 0, none⟩) 0 0) 0 [] from own_emptyE (W := wr.alloc c) (by simp) (Nat.le_succ _) _ rfl)
      clear hgl hrl hcl hnk gx gW hf0 hy0 hy1 hy2 HI i0 HPM HG0 hbl gb
      go_wp2_with fail
      go_cut [13] (fun v wc => ∃ A8 c8, v = .slice A8 (lib.length + 1) c8 ∧ Hid (LibAt wc A8 (lib ++ [wrapF f name]) ∧ Below wr.heap.size wr wc))
      case first =>
        go_region_held3 (fun w' => w'.cell? ⟨w5.heap.size, 0, none⟩ = some (.string ⟨#[119, 114, 97, 112, 112, 101, 114]⟩) ∧ w'.cell? ⟨w5.heap.size, 1, none⟩ = some (.slice Ap f.params.length cp) ∧ w'.cell? ⟨w5.heap.size, 2, none⟩ = some (.bool f.list) ∧ w'.cell? ⟨w5.heap.size, 3, none⟩ = some (.int .u8 85) ∧ w'.cell? ⟨w5.heap.size, 4, none⟩ = some (.int .i64 0) ∧ w'.cell? ⟨w5.heap.size, 5, none⟩ = some (.string name) ∧ w'.cell? ⟨w5.heap.size, 6, none⟩ = some (.slice Ak f.params.length ck))
          (first | (refine KS.out _ ?_; (repeat first | exact hbP | refine belowDrewU ?_ | refine Below.alloc ?_ (by first | exact Nat.le_refl _ | exact hbP.size | simp) _); done))
          (first | (refine step_app _ (by rfl) (.tmp 80) (.tmp 81) 22 (by rfl) wr.heap.size 58 f0 (.agg #[.string ⟨#[]⟩, .slice none 0 0, .bool false, .int .u8 0, .int .i64 0, .string ⟨#[]⟩, .slice none 0 0]) 7 104 Try.underlying22 HI2.out.1 HI2.out.2.1 HI2.out.2.2.1 HI2.out.2.2.2 rfl (by decide) (.slice (some ⟨wr.heap.size, 0, none⟩) 0 0) 0 [] (by simp [Act.eval]) (HE1.out) (some ⟨b, o, none⟩) lib.length cap cl (by simp [Act.eval]) HLEN.out (HCL.out _ (belowDrewU (below_box wr (Obj.cells #[] 58)))) HRL.out.one (by unfold maxLen; omega) (by omega) (((belowDrewU (below_box wr (Obj.cells #[] 58)))).size) ?_; intro v5 w9 hown5 hgrow5 hat5; have q9 := Lib.hid (Below.grown (belowDrewU (below_box wr (Obj.cells #[] 58))) hgrow5 (((belowDrewU (below_box wr (Obj.cells #[] 58)))).size) (fun j hj => ((HE1.out).lt j hj).1)); rw [Nat.zero_add, List.nil_append] at hown5; have HO5 := Lib.hid hown5; have hbP := q9.out; clear hown5 hgrow5 hat5) | (refine step_app _ (by rfl) (.tmp 80) (.tmp 81) 22 (by rfl) wr.heap.size 58 f0 (.agg #[.string ⟨#[]⟩, .slice none 0 0, .bool false, .int .u8 0, .int .i64 0, .string ⟨#[]⟩, .slice none 0 0]) 7 104 Try.underlying22 HI2.out.1 HI2.out.2.1 HI2.out.2.2.1 HI2.out.2.2.2 rfl (by decide) (.slice (some ⟨wr.heap.size, 0, none⟩) 0 0) 0 [] (by simp [Act.eval]) (HE2.out (Obj.cells #[.string ⟨#[119, 114, 97, 112, 112, 101, 114]⟩, .slice Ap f.params.length cp, .bool f.list, .int .u8 85, .int .i64 0, .string name, .slice Ak f.params.length ck] 58)) (some ⟨b, o, none⟩) lib.length cap cl (by simp [Act.eval]) HLEN.out (HCL.out _ (belowDrewU (two_box wr (Obj.cells #[] 58) (Obj.cells #[.string ⟨#[119, 114, 97, 112, 112, 101, 114]⟩, .slice Ap f.params.length cp, .bool f.list, .int .u8 85, .int .i64 0, .string name, .slice Ak f.params.length ck] 58)))) HRL.out.one (by unfold maxLen; omega) (by omega) (((belowDrewU (two_box wr (Obj.cells #[] 58) (Obj.cells #[.string ⟨#[119, 114, 97, 112, 112, 101, 114]⟩, .slice Ap f.params.length cp, .bool f.list, .int .u8 85, .int .i64 0, .string name, .slice Ak f.params.length ck] 58)))).size) ?_; intro v5 w9 hown5 hgrow5 hat5; have q9 := Lib.hid (Below.grown (belowDrewU (two_box wr (Obj.cells #[] 58) (Obj.cells #[.string ⟨#[119, 114, 97, 112, 112, 101, 114]⟩, .slice Ap f.params.length cp, .bool f.list, .int .u8 85, .int .i64 0, .string name, .slice Ak f.params.length ck] 58))) hgrow5 (((belowDrewU (two_box wr (Obj.cells #[] 58) (Obj.cells #[.string ⟨#[119, 114, 97, 112, 112, 101, 114]⟩, .slice Ap f.params.length cp, .bool f.list, .int .u8 85, .int .i64 0, .string name, .slice Ak f.params.length ck] 58)))).size) (fun j hj => ((HE2.out (Obj.cells #[.string ⟨#[119, 114, 97, 112, 112, 101, 114]⟩, .slice Ap f.params.length cp, .bool f.list, .int .u8 85, .int .i64 0, .string name, .slice Ak f.params.length ck] 58)).lt j hj).1)); rw [Nat.zero_add, List.nil_append] at hown5; have HO5 := Lib.hid hown5; have hbP := q9.out; have HS5 := Lib.hid (cellsAt_grown (C := wr.heap.size + 1) (cellsAt_drew <| cells_newU (wr.alloc (Obj.cells #[] 58)) (by simp) [.string ⟨#[119, 114, 97, 112, 112, 101, 114]⟩, .slice Ap f.params.length cp, .bool f.list, .int .u8 85, .int .i64 0, .string name, .slice Ak f.params.length ck] _) hgrow5 (fun g hg => by simp [Value.ownBlock] at hg; omega)); clear hown5 hgrow5 hat5) | (refine step_app _ (by rfl) (.tmp 80) (.tmp 81) 22 (by rfl) wr.heap.size 58 f0 (.agg #[.string ⟨#[]⟩, .slice none 0 0, .bool false, .int .u8 0, .int .i64 0, .string ⟨#[]⟩, .slice none 0 0]) 7 104 Try.underlying22 HI2.out.1 HI2.out.2.1 HI2.out.2.2.1 HI2.out.2.2.2 rfl (by decide) (.slice (some ⟨wr.heap.size + 1, 0, none⟩) 0 0) 0 [] (by simp [Act.eval]) (HE3.out (Obj.cells #[.string ⟨#[119, 114, 97, 112, 112, 101, 114]⟩, .slice Ap f.params.length cp, .bool f.list, .int .u8 85, .int .i64 0, .string name, .slice Ak f.params.length ck] 58)) (some ⟨b, o, none⟩) lib.length cap cl (by simp [Act.eval]) HLEN.out (HCL.out _ (belowDrewU (two_box wr (Obj.cells #[.string ⟨#[119, 114, 97, 112, 112, 101, 114]⟩, .slice Ap f.params.length cp, .bool f.list, .int .u8 85, .int .i64 0, .string name, .slice Ak f.params.length ck] 58) (Obj.cells #[] 58)))) HRL.out.one (by unfold maxLen; omega) (by omega) (((belowDrewU (two_box wr (Obj.cells #[.string ⟨#[119, 114, 97, 112, 112, 101, 114]⟩, .slice Ap f.params.length cp, .bool f.list, .int .u8 85, .int .i64 0, .string name, .slice Ak f.params.length ck] 58) (Obj.cells #[] 58)))).size) ?_; intro v5 w9 hown5 hgrow5 hat5; have q9 := Lib.hid (Below.grown (belowDrewU (two_box wr (Obj.cells #[.string ⟨#[119, 114, 97, 112, 112, 101, 114]⟩, .slice Ap f.params.length cp, .bool f.list, .int .u8 85, .int .i64 0, .string name, .slice Ak f.params.length ck] 58) (Obj.cells #[] 58))) hgrow5 (((belowDrewU (two_box wr (Obj.cells #[.string ⟨#[119, 114, 97, 112, 112, 101, 114]⟩, .slice Ap f.params.length cp, .bool f.list, .int .u8 85, .int .i64 0, .string name, .slice Ak f.params.length ck] 58) (Obj.cells #[] 58)))).size) (fun j hj => ((HE3.out (Obj.cells #[.string ⟨#[119, 114, 97, 112, 112, 101, 114]⟩, .slice Ap f.params.length cp, .bool f.list, .int .u8 85, .int .i64 0, .string name, .slice Ak f.params.length ck] 58)).lt j hj).1)); rw [Nat.zero_add, List.nil_append] at hown5; have HO5 := Lib.hid hown5; have hbP := q9.out; have HS5 := Lib.hid (cellsAt_grown (C := wr.heap.size) (cellsAt_drew <| (cells_newU wr rfl [.string ⟨#[119, 114, 97, 112, 112, 101, 114]⟩, .slice Ap f.params.length cp, .bool f.list, .int .u8 85, .int .i64 0, .string name, .slice Ak f.params.length ck] 58).mono (below_box _ (Obj.cells #[] 58))) hgrow5 (fun g hg => by simp [Value.ownBlock] at hg; omega)); clear hown5 hgrow5 hat5) | (refine step_app _ (by rfl) (.tmp 82) (.tmp 84) 22 (by rfl) wr.heap.size 58 f0 (.agg #[.string ⟨#[]⟩, .slice none 0 0, .bool false, .int .u8 0, .int .i64 0, .string ⟨#[]⟩, .slice none 0 0]) 7 104 Try.underlying22 HI2.out.1 HI2.out.2.1 HI2.out.2.2.1 HI2.out.2.2.2 rfl (by decide) v5 lib.length cl (by simp [Act.eval]) (HO5.out) _ 1 1 [.string ⟨#[119, 114, 97, 112, 112, 101, 114]⟩, .slice Ap f.params.length cp, .bool f.list, .int .u8 85, .int .i64 0, .string name, .slice Ak f.params.length ck] (by simp [Act.eval]) rfl (HS5.out) HONE.out (by unfold maxLen; omega) (by omega) (by have := q9.out.size; first | exact this | (simp; omega)) ?_; intro v6 w10 hown6 hgrow6 hat6; obtain ⟨A8, c8, rfl, n1, n2⟩ := lib_snoc2 (by first | exact q9.out | exact q9.out.alloc q9.out.size _) hown6 hgrow6 (fun k hk => (HO5.out.lt k hk).1) HRL.out HGL.out; have hbP := n2; have NX := Lib.hid (And.intro n1 n2); clear hown6 hgrow6 hat6 n1 n2) | (refine step_app _ (by rfl) (.tmp 82) (.tmp 84) 22 (by rfl) wr.heap.size 58 f0 (.agg #[.string ⟨#[]⟩, .slice none 0 0, .bool false, .int .u8 0, .int .i64 0, .string ⟨#[]⟩, .slice none 0 0]) 7 104 Try.underlying22 HI2.out.1 HI2.out.2.1 HI2.out.2.2.1 HI2.out.2.2.2 rfl (by decide) v5 lib.length cl (by simp [Act.eval]) (HO5.out.alloc _) (some ⟨w9.heap.size, 0, none⟩) 1 1 [.string ⟨#[119, 114, 97, 112, 112, 101, 114]⟩, .slice Ap f.params.length cp, .bool f.list, .int .u8 85, .int .i64 0, .string name, .slice Ak f.params.length ck] (by simp [Act.eval]) rfl (cells_newU w9 rfl [.string ⟨#[119, 114, 97, 112, 112, 101, 114]⟩, .slice Ap f.params.length cp, .bool f.list, .int .u8 85, .int .i64 0, .string name, .slice Ak f.params.length ck] _) HONE.out (by unfold maxLen; omega) (by omega) (by have := q9.out.size; first | exact this | (simp; omega)) ?_; intro v6 w10 hown6 hgrow6 hat6; obtain ⟨A8, c8, rfl, n1, n2⟩ := lib_snoc2 (by first | exact q9.out | exact q9.out.alloc q9.out.size _) hown6 hgrow6 (fun k hk => (HO5.out.lt k hk).1) HRL.out HGL.out; have hbP := n2; have NX := Lib.hid (And.intro n1 n2); clear hown6 hgrow6 hat6 n1 n2) | fail)
        all_goals
          go_wp2_with fail
          go_meet
          exact ⟨A8, c8, rfl, NX⟩
      obtain ⟨A8, c8, rfl, hca⟩ := hcut
      clear x0 x1 x2 x3 x4 x5 x6 HE1 HE2 HE3
      obtain ⟨W8, rfl⟩ : ∃ x, x = wc := ⟨_, rfl⟩
      obtain ⟨hl8, hb8⟩ := hca.out
      have q8 := Lib.hid (below_step q6.out q6.out.size hb8)
      have HL8 := Lib.hid hl8
      have gx8 := HGX.out.below hb8
      have hlm : (lib ++ [wrapF f name]).length = lib.length + 1 := by simp
      have hFm : LibFit (lib ++ [wrapF f name]) := ⟨by rw [hlm]; omega, fun k z hk => by
        rcases snoc_get hk with h1 | rfl
        · exact hF.2 k z h1
        · exact HFF.out⟩
      have hPm : FewParams (lib ++ [wrapF f name]) := fun k z hk => by
        rcases snoc_get hk with h1 | rfl
        · exact hP k z h1
        · show f.params.length ≤ _; omega
      have hNm : FewNodes (lib ++ [wrapF f name]) := fun k z hk => by
        rcases snoc_get hk with h1 | rfl
        · exact hN k z h1
        · rw [sizeT_eq]
          show 1 + sizeTL (f.params.map varN) ≤ _
          rw [var_size]; omega
      obtain ⟨O, hO⟩ : ∃ O : OutT, O = startR lib name args 1000 := ⟨_, rfl⟩
      obtain ⟨P, hPP⟩ : ∃ P : OutT, P = startR (lib ++ [wrapF f name]) wrapS args (1001 + (f.params.length : Int)) := ⟨_, rfl⟩
      have HU2 := Lib.hid (show UnfR O P by rw [hO, hPP]; exact HU.out _ (by omega))
      have HC := Lib.hid (fun (Y : World) (hY : Below w.heap.size w Y) => show Calls Try.prog 13 #[.slice (some ⟨b, o, none⟩) lib.length cap, .string name, .slice Aa args.length ca, .int .i64 1000] Y (RetV O Y) by rw [hO]; exact (evcall_any lib _ cap name args Aa ca 1000 Y (HL.out.mono hY) hF HS.out.fp HS.out.fn (HV.out.mono hY) HS.out.vl HS.out.al (by omega)).mono fun _ _ => RetCall.v)
      have HC2 := Lib.hid (fun (Y : World) (hY : Below W8.heap.size W8 Y) => show Calls Try.prog 13 #[.slice A8 (lib.length + 1) c8, .string ⟨#[119, 114, 97, 112, 112, 101, 114]⟩, .slice Aa args.length ca, .int .i64 (1001 + (f.params.length : Int))] Y (RetV P Y) by
        rw [hPP, ← hlm]; exact (evcall_any (lib ++ [wrapF f name]) A8 c8 wrapS args Aa ca _ Y (HL8.out.mono hY) hFm hPm hNm (HV.out.mono (below_step q8.out q8.out.size hY)) HS.out.vl HS.out.al (by omega)).mono fun _ _ => RetCall.v)
      have HT := Lib.hid (fun (Y : World) (hY : Below W8.heap.size W8 Y) => show Calls Try.prog 12 #[.slice A8 (lib.length + 1) c8, .string ⟨#[119, 114, 97, 112, 112, 101, 114]⟩, .slice Aa args.length ca, .int .i64 (1001 + (f.params.length : Int))] Y (RetS P true (fun _ => False) Y) by
        rw [hPP, ← hlm]; exact trace_any (lib ++ [wrapF f name]) A8 c8 wrapS args Aa ca _ Y (HL8.out.mono hY) hFm hPm hNm (HV.out.mono (below_step q8.out q8.out.size hY)) HS.out.vl HS.out.al (by omega))
      have HT1 := Lib.hid (fun (Y : World) (hY : Below w.heap.size w Y) => show Calls Try.prog 12 #[.slice (some ⟨b, o, none⟩) lib.length cap, .string name, .slice Aa args.length ca, .int .i64 1000] Y (RetS O true (fun _ => False) Y) by
        rw [hO]; exact trace_any lib _ cap name args Aa ca 1000 Y (HL.out.mono hY) hF HS.out.fp HS.out.fn (HV.out.mono hY) HS.out.vl HS.out.al (by omega))
      have HCO := Lib.hid (show ∀ t g, O = .ok t g → stepsT t ≤ 1001 from fun t g e => by have := startR_cost (hO.symm.trans e); simpa using this)
      have HCP := Lib.hid (show ∀ t g, P = .ok t g → stepsT t ≤ 4611686018427387904 from fun t g e => by have := startR_cost (hPP.symm.trans e); omega)
      clear hO hPP hFm hPm hNm hlm HU hca hl8 HGX HGL HRL HONE HCL KS HI2 HLEN f0 hbP
      have g8 := gx8
      obtain ⟨W9, rfl⟩ : ∃ x, x = W8 := ⟨_, rfl⟩
      go_wp2_with fail
      refine (HC.out W9 q8.out).mono ?_
      rintro e w11 ⟨hb11, hl11, _, A11, c11, hi11, rfl⟩
      have q11 := Lib.hid (below_step q8.out q8.out.size hb11)
      have p11 := Lib.hid hb11
      have I11 := Lib.hid hi11.at_
      have g11 := g8.below hb11
      have x1 : w11.cell? ⟨w5.heap.size, 1, none⟩ = some (.slice Ap f.params.length cp) := g11.cell rfl
      have hgl := g11.lt
      have bb12 := below_box w11 (Obj.cells #[.bool O.val.list, .int .i64 O.val.n, .slice A11 O.val.l.length c11] 29)
      have vb12 := bx_new w11 #[.bool O.val.list, .int .i64 O.val.n, .slice A11 O.val.l.length c11] 29
      have q12 := Lib.hid (below_step q11.out q11.out.size bb12)
      have p12 := Lib.hid (below_step p11.out p11.out.size bb12)
      have I12 := Lib.hid (I11.out.mono bb12)
      have g12 := g11.below bb12
      clear hb11 hi11 I11 q11 p11 bb12 g11 g8 gx8
      go_wp2_with fail
      generalize World.alloc _ _ = W12 at vb12 q12 p12 I12 g12 ⊢
      refine (HC2.out W12 p12.out).mono ?_
      rintro e w13 ⟨hb13, hl13, _, A13, c13, hi13, rfl⟩
      have q13 := Lib.hid (below_step q12.out q12.out.size hb13)
      have p13 := Lib.hid (below_step p12.out p12.out.size hb13)
      have I13 := Lib.hid hi13.at_
      have J13 := Lib.hid (I12.out.mono hb13)
      have g13 := g12.below hb13
      have va13 := vb12.below hb13
      have hv13 := va13.lt
      have y1 : w13.cell? ⟨w5.heap.size, 1, none⟩ = some (.slice Ap f.params.length cp) := g13.cell rfl
      have hgl2 := g13.lt
      have bb14 := below_box w13 (Obj.cells #[.bool P.val.list, .int .i64 P.val.n, .slice A13 P.val.l.length c13] 29)
      have vb14 := bx_new w13 #[.bool P.val.list, .int .i64 P.val.n, .slice A13 P.val.l.length c13] 29
      have q14 := Lib.hid (below_step q13.out q13.out.size bb14)
      have p14 := Lib.hid (below_step p13.out p13.out.size bb14)
      have I14 := Lib.hid (I13.out.mono bb14)
      have J14 := Lib.hid (J13.out.mono bb14)
      have va14 := va13.below bb14
      clear hb13 hi13 I13 J13 q13 p13 bb14 g13 g12 I12 q12 p12 va13 vb12 x1
      go_wp2_with fail
      generalize World.alloc _ _ = W14 at va14 vb14 q14 p14 I14 J14 ⊢
      refine (HT.out W14 p14.out).mono ?_
      rintro e w15 ⟨hb15, h15⟩
      have q15 := Lib.hid (below_step q14.out q14.out.size hb15)
      have va15 := va14.below hb15
      have vb15 := vb14.below hb15
      have I15 := Lib.hid (I14.out.mono hb15)
      have J15 := Lib.hid (J14.out.mono hb15)
      clear va14 vb14 I14 J14 q14 p14 y1 HC HC2 HT
      have HZ0 := Lib.hid (show ∀ e : Int, (OutT.err e).val = ⟨false, 0, []⟩ from fun _ => rfl)
      rcases h15 with ⟨n, ho, hn0, rfl⟩ | ⟨t, f1, ho, htl, cs, htc, _, rfl⟩
      · subst ho
        have bb16 := below_box w15 (Obj.cells #[.int .i64 0, .slice none 0 0, .bool false, .int .i64 0, .slice none 0 0, .slice none 0 0] 32)
        have q16 := Lib.hid (below_step q15.out q15.out.size bb16)
        have va16 := va15.below bb16
        have vb16 := vb15.below bb16
        have I16 := Lib.hid (I15.out.mono bb16)
        have J16 := Lib.hid (J15.out.mono bb16)
        rw [show (OutT.err n).code = n from rfl]
        have hnn : (n != n) = false := by simp
        have hne : (n == n) = true := by simp
        have hnz : (n != 0) = true := by simpa using hn0
        clear va15 vb15 I15 J15 q15 bb16
        by_cases hOn : O.code = n
        · have hval : (OutT.err n).val = O.val := by
            rcases HU2.out with ⟨e, e1, e2⟩ | ⟨e1, e2⟩ | ⟨t, g, t2, g2, e1, e2, _⟩
            · rw [e1]; rfl
            · cases hO2 : O with
              | err e => rfl
              | ok t g => rw [hO2] at hOn; cases e1; cases hOn
            · cases e2
          rw [hval] at vb16 I16 ⊢
          rw [hOn]
          obtain ⟨s0, s1, s2, _⟩ := va16.three
          obtain ⟨z0, z1, z2, _⟩ := vb16.three
          have hl1 := va16.lt
          have hl2 := vb16.lt
          generalize O.val = X at *
          clear hOn hval HU2 HT1 HCO HCP
          by_cases h19 : n = 19
          · subst h19
            clear hnn hne hnz
            go_wp2_with fail
            generalize World.alloc _ _ = W16 at *
            refine (equal_any X X A11 A13 c11 c13 W16 J16.out I16.out (by omega) (by omega)).mono ?_
            rintro e w17 ⟨rfl, hb17⟩
            rw [eqV_refl]
            have q17 := Lib.hid (below_step q16.out q16.out.size hb17)
            go_wp2_with fail
            go_ret
            exact ⟨rfl, q17.out⟩
          · have h19' : (n == 19) = false := by simpa using h19
            clear h19 hn0
            go_wp2_with fail
            generalize World.alloc _ _ = W16 at *
            refine (equal_any X X A11 A13 c11 c13 W16 J16.out I16.out (by omega) (by omega)).mono ?_
            rintro e w17 ⟨rfl, hb17⟩
            rw [eqV_refl]
            have q17 := Lib.hid (below_step q16.out q16.out.size hb17)
            go_wp2_with fail
            go_ret
            exact ⟨rfl, q17.out⟩
        · obtain ⟨h19, h30⟩ : n = 19 ∧ ∀ t f, O = .ok t f → highT t = 30 := by
            rcases HU2.out with ⟨e, e1, e2⟩ | ⟨e1, e2⟩ | ⟨t, g, t2, g2, e1, e2, _⟩
            · cases e2; rw [e1] at hOn; exact absurd rfl hOn
            · cases e1; exact ⟨rfl, e2⟩
            · cases e2
          subst h19
          have H30 := Lib.hid h30
          have hO1 : (O.code == 19) = false := by simpa using hOn
          have hO2 : (O.code != 19) = true := by simpa using hOn
          clear h30 hOn hnn hne hnz HU2 HCP va16 vb16 I16 J16
          go_wp2_with fail
          generalize World.alloc _ _ = W16 at *
          refine (HT1.out W16 q16.out).mono ?_
          rintro e w17 ⟨hb17, h17⟩
          have q17 := Lib.hid (below_step q16.out q16.out.size hb17)
          rcases h17 with ⟨n, ho, hn0, rfl⟩ | ⟨t, f1, ho, htl, cs, htc, _, rfl⟩
          · subst ho
            rw [show (OutT.err n).code = n from rfl] at hO1 hO2 ⊢
            have hnz : (n != 0) = true := by simpa using hn0
            have bb18 := below_box w17 (Obj.cells #[.int .i64 0, .slice none 0 0, .bool false, .int .i64 0, .slice none 0 0, .slice none 0 0] 32)
            have q18 := Lib.hid (below_step q17.out q17.out.size bb18)
            clear HT1 HCO H30 bb18 hb17
            go_wp2_with fail
            go_ret
            exact ⟨rfl, q18.out⟩
          · have h30 := H30.out t f1 ho
            have hco := HCO.out t f1 ho
            obtain ⟨Ab, cb, AL, cL, Ac, cc, rfl, _, _, hk⟩ := htc
            have ht : trT true t = t := rfl
            rw [ht] at hk ⊢
            clear ht
            rw [show O.code = 0 by rw [ho]; rfl] at hO1 hO2 ⊢
            have bb18 := below_box w17 (Obj.cells #[.int .i64 t.func, .slice Ab t.args.length cb, .bool t.res.list, .int .i64 t.res.n, .slice AL t.res.l.length cL, .slice Ac t.calls.length cc] 32)
            have q18 := Lib.hid (below_step q17.out q17.out.size bb18)
            have K18 := Lib.hid (hk.below bb18)
            clear HT1 HCO H30 bb18 hb17 ho hk hO1 hO2
            go_wp2_with fail
            generalize World.alloc _ _ = W18 at *
            refine (height_any (fun _ => False) (SizeOf.sizeOf t) t (Nat.le_refl _) (by omega) t.func Ab t.args.length cb t.res.list t.res.n AL t.res.l.length cL Ac cc W18 K18.out).mono ?_
            rintro e w19 ⟨rfl, hb19⟩
            rw [h30]
            have q19 := Lib.hid (below_step q18.out q18.out.size hb19)
            clear hb19 h30
            go_wp2_with fail
            go_ret
            exact ⟨rfl, q19.out⟩
      · obtain ⟨t0, g0, hO, hres, hcl, hhi⟩ : ∃ t0 g0, O = .ok t0 g0 ∧ t.res = t0.res ∧ t.calls.length = 1 ∧ highT t ≤ 30 := by
          rcases HU2.out with ⟨e, e1, e2⟩ | ⟨e1, e2⟩ | ⟨t3, g, t2, g2, e1, e2, e3, e4, e5⟩
          · rw [ho] at e2; cases e2
          · rw [ho] at e1; cases e1
          · rw [ho] at e2; cases e2; exact ⟨t3, g, e1, e3, e4, e5⟩
        have hco := HCP.out t f1 ho
        obtain ⟨Ab, cb, AL, cL, Ac, cc, rfl, _, _, hk⟩ := htc
        have ht : trT true t = t := rfl
        rw [ht] at hk ⊢
        clear ht
        have hPv : P.val = O.val := by rw [ho, hO]; exact hres
        rw [show O.code = 0 by rw [hO]; rfl, show P.code = 0 by rw [ho]; rfl]
        have bb16 := below_box w15 (Obj.cells #[.int .i64 t.func, .slice Ab t.args.length cb, .bool t.res.list, .int .i64 t.res.n, .slice AL t.res.l.length cL, .slice Ac t.calls.length cc] 32)
        have vt16 := bx_new w15 #[.int .i64 t.func, .slice Ab t.args.length cb, .bool t.res.list, .int .i64 t.res.n, .slice AL t.res.l.length cL, .slice Ac t.calls.length cc] 32
        have q16 := Lib.hid (below_step q15.out q15.out.size bb16)
        have K16 := Lib.hid (hk.below bb16)
        have va16 := va15.below bb16
        have vb16 := vb15.below bb16
        have I16 := Lib.hid (I15.out.mono bb16)
        have J16 := Lib.hid (J15.out.mono bb16)
        rw [hPv] at vb16 I16 ⊢
        obtain ⟨s0, s1, s2, _⟩ := va16.three
        obtain ⟨z0, z1, z2, _⟩ := vb16.three
        have hl1 := va16.lt
        have hl2 := vb16.lt
        generalize O.val = X at *
        have HCN := Lib.hid hcl
        clear va15 vb15 I15 J15 q15 bb16 HU2 HT1 HCO HCP ho hO hres hPv hk hcl
        go_wp2_with fail
        generalize World.alloc _ _ = W16 at *
        refine (equal_any X X A11 A13 c11 c13 W16 J16.out I16.out (by omega) (by omega)).mono ?_
        rintro e w17 ⟨rfl, hb17⟩
        rw [eqV_refl]
        have q17 := Lib.hid (below_step q16.out q16.out.size hb17)
        have vt17 := vt16.below hb17
        have K17 := Lib.hid (K16.out.below hb17)
        obtain ⟨⟨t0, t1, t2, t3, t4, t5⟩, _⟩ := vt17.six
        have hlt := vt17.lt
        rw [HCN.out] at t5
        clear s0 s1 s2 z0 z1 z2 hb17
        go_wp2_with fail
        have hh := height_any (fun _ => False) (SizeOf.sizeOf t) t (Nat.le_refl _) (by omega) t.func Ab t.args.length cb t.res.list t.res.n AL t.res.l.length cL Ac cc w17 K17.out
        rw [HCN.out] at hh
        refine hh.mono ?_
        rintro e w19 ⟨rfl, hb19⟩
        have q19 := Lib.hid (below_step q17.out q17.out.size hb19)
        have hd : decide (highT t ≤ 30) = true := by simpa using hhi
        have hd2 : ((highT t : Nat) : Int) ≤ 30 := by omega
        clear hb19
        go_wp2_with fail
        go_ret
        exact ⟨rfl, q19.out⟩

end Go.Proofs.Ytgokgcnalgpiiaa
