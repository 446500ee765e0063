/-
  The contract of the reference's Invert (layer 23) at valid images.
-/
import Derived.Test.YthakiaicnhkfjaaDoorImgRefInv
import Derived.Deep.AppendLies
namespace Go.Proofs.YthakiaicnhkfjaaDoor
open Go.ChangeShapes Go.WideShapes Go.ChangeAt Go.RowKit Go.Sort

theorem ResAt.lt {w : World} {b : Nat} {u0 u1 u2 : Value} (h : ResAt w b u0 u1 u2) : b < w.heap.size := block_lt_of_cell h.r0
theorem ResAt.grown {w w' : World} {b : Nat} {u0 u1 u2 : Value} (h : ResAt w b u0 u1 u2) {blk : Option Nat} (hg : w.grownBy w' blk) (hne : some b ≠ blk) : ResAt w' b u0 u1 u2 := by
  have l := h.lt
  have e : ∀ o, w'.cell? ⟨b, o, none⟩ = w.cell? ⟨b, o, none⟩ := fun o => hg.cell_far ⟨b, o, none⟩ l hne
  exact ⟨by rw [e]; exact h.r0, by rw [e]; exact h.r1, by rw [e]; exact h.r2, fun o => by rw [hg.frozen_far ⟨b, o, none⟩ l hne]; exact h.rz o⟩
theorem ResAt.setOther {w : World} {b : Nat} {u0 u1 u2 : Value} (h : ResAt w b u0 u1 u2) (b' o' : Nat) (u : Value) (hne : b ≠ b') : ResAt (w.setCell ⟨b', o', none⟩ u) b u0 u1 u2 := by
  have hb : ∀ o, (w.setCell ⟨b', o', none⟩ u).cell? ⟨b, o, none⟩ = w.cell? ⟨b, o, none⟩ := fun o => World.cell?_of_block (Below.heap_setCell w ⟨b', o', none⟩ u b hne)
  have hf : ∀ o, (w.setCell ⟨b', o', none⟩ u).frozen? ⟨b, o, none⟩ = w.frozen? ⟨b, o, none⟩ := fun o => World.frozen?_of_block (Below.heap_setCell w ⟨b', o', none⟩ u b hne)
  exact ⟨by rw [hb]; exact h.r0, by rw [hb]; exact h.r1, by rw [hb]; exact h.r2, fun o => by rw [hf]; exact h.rz o⟩
theorem ResAt.set0 {w : World} {b : Nat} {u0 u1 u2 : Value} (h : ResAt w b u0 u1 u2) (u : Value) : ResAt (w.setCell ⟨b, 0, none⟩ u) b u u1 u2 := by
  obtain ⟨r0, r1, r2, rz⟩ := h
  have := rz 0
  constructor <;> simp [go_sem, *]

theorem five_new {w : World} {B : Nat} (hB : B = w.heap.size) (y : Ins) (T : TypeId) : ∀ (j : Nat) (x : Value), y.five[j]? = some x → (w.alloc (Obj.cells #[.int .u8 y.op, .int .i64 y.a, .int .i64 y.b, .int .i64 y.c, .int .i64 y.d] T)).cell? ((⟨B, 0, none⟩ : Addr).add j) = some x := by
  subst hB
  intro j x hj
  rw [add0, ← hj]
  simp [go_sem, Ins.five]
theorem five_one (y : Ins) : ∀ u : Value, u ∈ y.five → u.oneCell' = true := by
  intro u hu; simp [Ins.five] at hu; rcases hu with rfl | rfl | rfl | rfl | rfl <;> rfl
theorem InsAt.setA {w : World} {b op : Nat} {A B C D : Int} (h : InsAt w b op A B C D) (u : Int) : InsAt (w.setCell ⟨b, 1, none⟩ (.int .i64 u)) b op u B C D := by
  obtain ⟨c0, c1, c2, c3, c4, fz⟩ := h
  constructor <;> simp [go_sem, *]
theorem InsAt.setB {w : World} {b op : Nat} {A B C D : Int} (h : InsAt w b op A B C D) (u : Int) : InsAt (w.setCell ⟨b, 2, none⟩ (.int .i64 u)) b op A u C D := by
  obtain ⟨c0, c1, c2, c3, c4, fz⟩ := h
  constructor <;> simp [go_sem, *]

/-- What holds at the head of a round: k instructions are laid. -/
structure RefI (l : List Ins) (A : Option Addr) (cap : Nat) (M S : Int) (w wr : World) (v : Value) (k : Nat) : Prop where
  hb : Below w.heap.size w wr
  bx : ResAt wr w.heap.size (.slice A l.length cap) (.int .i64 M) (.int .i64 S)
  rs : ResAt wr (w.heap.size + 1) (.slice none 0 0) (.int .i64 0) (.int .i64 0)
  out : ResAt wr (w.heap.size + 1 + 1) v (.int .i64 M) (.int .i64 S)
  own : wr.ownsRow (w.heap.size + 3) 38 5 v k (cellsL ((invL l).take k))
theorem RefI.size {l : List Ins} {A : Option Addr} {cap : Nat} {M S : Int} {w wr : World} {v : Value} {k : Nat} (h : RefI l A cap M S w wr v k) : w.heap.size + 3 ≤ wr.heap.size := by have := h.out.lt; omega
theorem RefI.below {l : List Ins} {A : Option Addr} {cap : Nat} {M S : Int} {w wr w' : World} {v : Value} {k : Nat} (h : RefI l A cap M S w wr v k) (hb : Below wr.heap.size wr w') : RefI l A cap M S w w' v k :=
  ⟨below_step h.hb h.hb.size hb, h.bx.mono hb, h.rs.mono hb, h.out.mono hb, own_below h.own hb⟩
theorem own_setFar {w : World} {base : Nat} {e : TypeId} {size n : Nat} {v : Value} {xs : List Value} (h : w.ownsRow base e size v n xs) (b o : Nat) (u : Value) (hne : b < base) : (w.setCell ⟨b, o, none⟩ u).ownsRow base e size v n xs := by
  refine ⟨h.1, ?_⟩
  rcases h.2 with h2 | ⟨g', cap', cur, hv, hg, hh, hr⟩
  · exact .inl h2
  · exact .inr ⟨g', cap', cur, hv, hg, by rw [Below.heap_setCell _ _ _ _ (by show g' ≠ b; omega)]; exact hh, hr⟩
theorem own_setNew {w : World} {base : Nat} {e : TypeId} {size n : Nat} {v : Value} {xs : List Value} (h : w.ownsRow base e size v n xs) (b o : Nat) (u : Value) (hne : ∀ g, v.ownBlock = some g → g ≠ b) : (w.setCell ⟨b, o, none⟩ u).ownsRow base e size v n xs := by
  refine ⟨h.1, ?_⟩
  rcases h.2 with h2 | ⟨g', cap', cur, hv, hg, hh, hr⟩
  · exact .inl h2
  · exact .inr ⟨g', cap', cur, hv, hg, by rw [Below.heap_setCell _ _ _ _ (hne g' (by rw [hv]; rfl))]; exact hh, hr⟩
theorem own_block_lt {w : World} {base : Nat} {e : TypeId} {size n : Nat} {v : Value} {xs : List Value} (h : w.ownsRow base e size v n xs) : ∀ g, v.ownBlock = some g → g < w.heap.size := by
  rcases h.2 with ⟨rfl, _⟩ | ⟨g, cap, cur, rfl, hg, hh, _⟩
  · intro g hg; cases hg
  · intro g' hg'; obtain rfl := Option.some.inj hg'; exact (Array.getElem?_eq_some_iff.1 hh).1
/-- A store into a block that was made in this round. -/
theorem RefI.setNew {l : List Ins} {A : Option Addr} {cap : Nat} {M S : Int} {w wr w' : World} {v : Value} {k : Nat} (h : RefI l A cap M S w wr v k) (h' : RefI l A cap M S w w' v k) (b o : Nat) (hb : wr.heap.size ≤ b) (u : Value) : RefI l A cap M S w (w'.setCell ⟨b, o, none⟩ u) v k := by
  have hs := h.size
  refine ⟨h'.hb.setCell (by show w.heap.size ≤ b; omega) u, h'.bx.setOther _ _ _ (by omega), h'.rs.setOther _ _ _ (by omega), h'.out.setOther _ _ _ (by omega), own_setNew h'.own _ _ _ fun g hg => ?_⟩
  have := own_block_lt h.own g hg; omega
theorem take_succ_inv {l : List Ins} {k jn : Nat} (hk : k < l.length) (hj : l.length - 1 - k = jn) : (invL l).take (k + 1) = (invL l).take k ++ [newX l jn] := by
  rw [List.take_succ_eq_append_getElem (by rw [invL_length]; exact hk)]
  congr 2
  simp [invL, hj]
theorem RefI.grown {l : List Ins} {A : Option Addr} {cap : Nat} {M S : Int} {w wr w1 w2 : World} {v v' : Value} {k jn : Nat} (h : RefI l A cap M S w wr v k) (hb : Below wr.heap.size wr w1) (hg : w1.grownBy w2 v.ownBlock)
    (ho : w2.ownsRow (w.heap.size + 3) 38 5 v' (k + 1) (cellsL ((invL l).take k) ++ (newX l jn).five)) (hk : k < l.length) (hj : l.length - 1 - k = jn) :
    ResAt w2 (w.heap.size + 1 + 1) v (.int .i64 M) (.int .i64 S) ∧ ∀ u, u = v' → RefI l A cap M S w (w2.setCell ⟨w.heap.size + 1 + 1, 0, none⟩ u) v' (k + 1) := by
  have h1 := h.below hb
  have hs := h1.size
  have hge := own_block_ge h1.own
  have hne : ∀ b, b < w.heap.size + 3 → some b ≠ v.ownBlock := fun b hb e => by have := hge b e.symm; omega
  have o2 := h1.out.grown hg (hne _ (by omega))
  refine ⟨o2, fun u hu => ?_⟩
  subst hu
  refine ⟨(h1.hb.grown hg h1.hb.size (fun g e => by have := hge g e; omega)).setCell (by show w.heap.size ≤ w.heap.size + 1 + 1; omega) _, (h1.bx.grown hg (hne _ (by omega))).setOther _ _ _ (by omega), (h1.rs.grown hg (hne _ (by omega))).setOther _ _ _ (by omega), o2.set0 _, ?_⟩
  rw [take_succ_inv hk hj, cellsL_append]
  have e1 : cellsL [newX l jn] = (newX l jn).five := by simp [cellsL]
  rw [e1]
  exact own_setFar ho _ _ _ (by omega)

/-- An image that the call returns. -/
def RetImg (L : List Ins) (M S : Int) (w : World) (e : Ending) (w' : World) : Prop :=
  ∃ A c, e = .returned (.agg #[.slice A L.length c, .int .i64 M, .int .i64 S]) ∧ CodeAt w' A L ∧ Below w.heap.size w w'

set_option maxRecDepth 100000 in
set_option maxHeartbeats 2000000 in
theorem rinvert_any (l : List Ins) (A : Option Addr) (cap : Nat) (M S : Int) (w : World) (hC : CodeAt w A l) (hY : Bytes l) (hl : l.length ≤ 1000000) (hS : Struct l) :
    Calls Tryd.prog 17 #[.agg #[.slice A l.length cap, .int .i64 M, .int .i64 S]] w (RetImg (invL l) M S w) := by
  obtain ⟨i0, hi, hz0, hz1, hz2⟩ := info_parts info_ins
  have HI := Lib.hid (And.intro hi (And.intro hz0 (And.intro hz1 hz2)))
  clear hi hz0 hz1 hz2
  have HC := Lib.hid hC
  have HS := Lib.hid hS
  clear hC hS
  have inv0 : Hid (RefI l A cap M S w (((w.alloc (Obj.cells #[.slice A l.length cap, .int .i64 M, .int .i64 S] 24)).alloc (Obj.cells #[.slice none 0 0, .int .i64 0, .int .i64 0] 24)).alloc (Obj.cells #[.slice none 0 0, .int .i64 M, .int .i64 S] 24)) (.slice none 0 0) 0) :=
    Lib.hid ⟨((below_box w _).alloc (by simp) _).alloc (by simp; omega) _, by constructor <;> simp [go_sem], by constructor <;> simp [go_sem], by constructor <;> simp [go_sem], ⟨rfl, .inl ⟨rfl, rfl⟩⟩⟩
  go_enter Tryd.func17, Tryd.ntmps17
  go_wp2
  generalize World.alloc _ _ = W at inv0 ⊢
  go_loopw [5] (fun i wr => ∃ (k : Nat) (v : Value), k ≤ l.length ∧ i = .int .i64 ((l.length : Int) - 1 - k) ∧ Hid (RefI l A cap M S w wr v k)) (fun i _ => (intOf i + 1).toNat)
  case atStart => exact ⟨0, _, by omega, by congr 1; omega, inv0⟩
  case round =>
    obtain ⟨k, v, hk, rfl, inv⟩ := hrel
    clear inv0
    by_cases hkj : k < l.length
    rotate_left
    · obtain rfl : k = l.length := by omega
      have hown := inv.out.own
      rw [List.take_of_length_le (by rw [invL_length]; omega)] at hown
      obtain ⟨A', c', rfl, hcode⟩ := code_of_own (l := invL l) (by rw [invL_length]; exact hown)
      have HCO := Lib.hid hcode
      have hge := own_block_ge hown
      have HGE := Lib.hid hge
      clear hown hcode hge
      obtain ⟨o0, o1, o2, oz⟩ := id inv.out.out
      obtain ⟨r0, r1, r2, rz⟩ := id inv.out.rs
      have y0 := rz 0
      have y1 := rz 1
      have y2 := rz 2
      rw [invL_length] at o0
      go_wp2
      refine bodyPost_ret (v := .agg #[.slice A' l.length c', .int .i64 M, .int .i64 S]) (by simp [results, Tryd.results17, go_sem, r0, r1, r2]) rfl ?_
      refine ⟨A', c', by rw [invL_length], ?_, ((inv.out.hb.setCell (by simp) _).setCell (by simp) _).setCell (by simp) _⟩
      have hne : ∀ b o, A' = some ⟨b, o, none⟩ → 0 < (invL l).length → b ≠ w.heap.size + 1 := fun b o e _ => by
        have := HGE.out b (by rw [e]; rfl); omega
      exact ((HCO.out.set _ _ _ hne).set _ _ _ hne).set _ _ _ hne
    have hj : (l.length : Int) - 1 - k = ((l.length - 1 - k : Nat) : Int) := by omega
    rw [hj]
    clear hj
    generalize hjn : l.length - 1 - k = jn
    have hjl : jn < l.length := by omega
    have HJN := Lib.hid hjn
    clear hjn
    have hCr := HC.out.mono inv.out.hb
    obtain ⟨b, o, rfl, hi⟩ := hCr.at_ hjl
    have HCR := Lib.hid hCr
    clear hCr
    have hx : atI l (jn : Int) = l[jn] := atI_nat hjl
    have hop := hY.at_ hjl
    have hrn := rnew_eq HS.out hjl
    have hvx := HS.out.v jn hjl
    rw [hx] at hrn hvx
    generalize hxl : l[jn] = x at *
    have HVX := Lib.hid hvx
    have HRN := Lib.hid hrn
    clear hx hxl hrn hvx
    obtain ⟨c0, c1, c2, c3, c4⟩ := id hi
    obtain ⟨b0, b1, b2, bz⟩ := id inv.out.bx
    go_wp2_with fail
    have ix := insAt_box wr 38 x.op x.a x.b x.c x.d
    have hbx := below_box wr (Obj.cells #[Value.int IntKind.u8 ↑x.op, Value.int IntKind.i64 x.a, Value.int IntKind.i64 x.b, Value.int IntKind.i64 x.c, Value.int IntKind.i64 x.d] 38)
    generalize wr.alloc _ = W5 at ix hbx ⊢
    clear c0 c1 c2 c3 c4 hi b0 b1 b2 bz
    refine (refInverse_any x.op _).mono ?_
    rintro e w6 ⟨rfl, hb6⟩
    have q6 := below_step hbx hbx.size hb6
    have inv6 := Lib.hid (inv.out.below q6)
    have ix6 := ix.mono hb6
    clear ix hb6 hbx
    obtain ⟨c0, c1, c2, c3, c4, fz⟩ := id ix6
    have hsz := inv.out.size
    have hne1 : w.heap.size ≠ wr.heap.size := by omega
    have hne2 : wr.heap.size ≠ w.heap.size := by omega
    have hne3 : w.heap.size + 1 + 1 ≠ wr.heap.size := by omega
    have hne4 : wr.heap.size ≠ w.heap.size + 1 + 1 := by omega
    by_cases hcall : invN x.op = 30 ∨ invN x.op = 31
    · have h3031 : ((invN x.op : Int) == 30) = true ∨ (((invN x.op : Int) == 30) = false ∧ ((invN x.op : Int) == 31) = true) := by
        rcases hcall with e | e <;> rw [e]
        · exact .inl rfl
        · exact .inr ⟨rfl, rfl⟩
      have hnew := Lib.hid (show (⟨invN x.op, (l.length : Int) - 1 - rptn l x.a, x.b, x.c, x.d⟩ : Ins) = newX l jn by rw [← HRN.out]; unfold rnew; rw [if_pos hcall])
      have hrp : -1 ≤ rptn l x.a ∧ rptn l x.a < l.length := by
        rw [rptn_eq]
        cases hp : ptn l x.a with
        | none => simp; omega
        | some t => have := (ptn_range hp).2; simp; omega
      clear hcall
      rcases h3031 with h30 | ⟨h30, h31⟩
      all_goals
        obtain ⟨b0, b1, b2, bz⟩ := id inv6.out.bx
        go_wp2_with fail
        have ix7 := ix6.setOp (invN x.op)
        have inv7 := Lib.hid (inv.out.setNew inv6.out wr.heap.size 0 (Nat.le_refl _) (.int .u8 (invN x.op)))
        clear ix6 inv6 c0 c1 c2 c3 c4 fz b0 b1 b2 bz
        generalize w6.setCell _ _ = W7 at ix7 inv7 ⊢
        have hCr7 := HC.out.mono inv7.out.hb
        refine (rpartner_any l _ _ _ _ hCr7 hY hl).mono ?_
        rintro e w8 ⟨rfl, hb8⟩
        have inv8 := Lib.hid (inv7.out.below hb8)
        have ix8 := ix7.mono hb8
        clear ix7 inv7 hb8 hCr7
        have inv9 := Lib.hid (inv.out.setNew inv8.out wr.heap.size 1 (Nat.le_refl _) (.int .i64 ((l.length : Int) - 1 - rptn l x.a)))
        obtain ⟨c0, c1, c2, c3, c4, fz⟩ := id ix8
        have hyv := Lib.hid (show (⟨invN x.op, (l.length : Int) - 1 - rptn l x.a, x.b, x.c, x.d⟩ : Ins) = newX l jn from hnew.out)
        obtain ⟨o0, o1, o2, oz⟩ := id inv8.out.out
        have z0 := oz 0
        have hlt8 := inv8.out.size
        clear oz
        go_wp2_with (at_builtin; go_loud (refine wpList_append_own _ rfl _ _ 22 rfl (w.heap.size + 3) 38 i0 (.agg #[.int .u8 0, .int .i64 0, .int .i64 0, .int .i64 0, .int .i64 0]) 5 40 Tryd.underlying22 HI.out.1 HI.out.2.1 HI.out.2.2.1 HI.out.2.2.2 rfl (by decide) _ k (cellsL ((invL l).take k)) rfl (inv9.out.own.alloc _) ⟨w8.heap.size, 0, none⟩ 1 1 (Ins.five ⟨invN x.op, (l.length : Int) - 1 - rptn l x.a, x.b, x.c, x.d⟩) rfl rfl (five_new (by simp) _ _) (five_one _) (by unfold maxLen; omega) (by omega) (by simp; omega) ?_; intro v' w9 hown' hgrow _; obtain ⟨A9, c9, rfl, _, _⟩ := own_form hown'; have inv10 := Lib.hid (inv9.out.grown (below_box _ _) hgrow (by rw [hyv.out] at hown'; exact hown') hkj HJN.out); obtain ⟨o0', o1', o2', oz'⟩ := id inv10.out.1; have z0' := oz' 0; clear hown' hgrow oz'))
        exact ⟨⟨k + 1, _, by omega, by have := HJN.out; congr 1; omega, Lib.hid (inv10.out.2 _ rfl)⟩, by simp [intOf]⟩
    have n30 : ((invN x.op : Int) == 30) = false := beq_eq_false_iff_ne.2 (by omega)
    have n31 : ((invN x.op : Int) == 31) = false := beq_eq_false_iff_ne.2 (by omega)
    have hrt0 : kI x = true → 0 ≤ tI x ∧ tI x < 65536 := fun hk => valid_tgt HVX.out hk
    have hrt1 : rtarget ⟨invN x.op, x.a, x.b, x.c, x.d⟩ = if kI x = true then tI x else -1 := by
      by_cases hk : kI x = true
      · rw [if_pos hk, rtarget_k (by unfold kI; rw [tgtK_invN]; exact hk)]
        unfold tI; rw [tgt_invN]
      · rw [if_neg hk]
        exact rtarget_nk (by unfold kI; rw [tgtK_invN]; have : kI x = false := by simpa using hk
                             exact this)
    go_wp2_with fail
    have ix7 := ix6.setOp (invN x.op)
    have inv7 := Lib.hid (inv.out.setNew inv6.out wr.heap.size 0 (Nat.le_refl _) (.int .u8 (invN x.op)))
    clear ix6 inv6 c0 c1 c2 c3 c4 fz n30 n31
    generalize w6.setCell _ _ = W7 at ix7 inv7 ⊢
    refine (rtarget_any ⟨invN x.op, x.a, x.b, x.c, x.d⟩ _).mono ?_
    rintro e w8 ⟨rfl, hb8⟩
    have inv8 := Lib.hid (inv7.out.below hb8)
    have ix8 := ix7.mono hb8
    clear ix7 inv7 hb8
    have HRT1 := Lib.hid hrt1
    generalize hrtv : rtarget ⟨invN x.op, x.a, x.b, x.c, x.d⟩ = rt at *
    by_cases hrt : 0 ≤ rt
    · have hkx : kI x = true := by
        by_cases hk : kI x = true
        · exact hk
        · rw [if_neg hk] at hrt1; omega
      have hb0 := hrt0 hkx
      by_cases ho : invN x.op = 22 ∨ invN x.op = 25 ∨ invN x.op = 32 ∨ invN x.op = 33
      · have hK' : tgtK x.op = 1 := by rw [← tgtK_invN]; exact tgtK_1 (by omega)
        have hta : tI x = x.a := by unfold tI tgt; rw [hK']; rfl
        rw [hta] at hb0
        have hnew := Lib.hid (show (⟨invN x.op, (l.length : Int) - 1 - x.a, x.b, x.c, x.d⟩ : Ins) = newX l jn by rw [← HRN.out]; unfold rnew; rw [if_neg hcall, hrtv, if_pos ⟨hrt, ho⟩])
        have h4 : ((invN x.op : Int) == 22) = true ∨ (((invN x.op : Int) == 22) = false ∧ ((invN x.op : Int) == 25) = true) ∨ (((invN x.op : Int) == 22) = false ∧ ((invN x.op : Int) == 25) = false ∧ ((invN x.op : Int) == 32) = true) ∨ (((invN x.op : Int) == 22) = false ∧ ((invN x.op : Int) == 25) = false ∧ ((invN x.op : Int) == 32) = false ∧ ((invN x.op : Int) == 33) = true) := by
          rcases ho with e | e | e | e <;> rw [e] <;> decide
        clear hcall ho hrt0 hrt1 hrtv hkx hta hK' HRT1
        rcases h4 with k1 | ⟨k1, k2⟩ | ⟨k1, k2, k3⟩ | ⟨k1, k2, k3, k4⟩
        all_goals
          have inv9 := Lib.hid (inv.out.setNew inv8.out wr.heap.size 1 (Nat.le_refl _) (.int .i64 ((l.length : Int) - 1 - x.a)))
          obtain ⟨c0, c1, c2, c3, c4, fz⟩ := id ix8
          have hyv := Lib.hid (show (⟨invN x.op, (l.length : Int) - 1 - x.a, x.b, x.c, x.d⟩ : Ins) = newX l jn from hnew.out)
          obtain ⟨o0, o1, o2, oz⟩ := id inv8.out.out
          have z0 := oz 0
          have hlt8 := inv8.out.size
          clear oz
          go_wp2_with (at_builtin; go_loud (refine wpList_append_own _ rfl _ _ 22 rfl (w.heap.size + 3) 38 i0 (.agg #[.int .u8 0, .int .i64 0, .int .i64 0, .int .i64 0, .int .i64 0]) 5 40 Tryd.underlying22 HI.out.1 HI.out.2.1 HI.out.2.2.1 HI.out.2.2.2 rfl (by decide) _ k (cellsL ((invL l).take k)) rfl (inv9.out.own.alloc _) ⟨w8.heap.size, 0, none⟩ 1 1 (Ins.five ⟨invN x.op, (l.length : Int) - 1 - x.a, x.b, x.c, x.d⟩) rfl rfl (five_new (by simp) _ _) (five_one _) (by unfold maxLen; omega) (by omega) (by simp; omega) ?_; intro v' w9 hown' hgrow _; obtain ⟨A9, c9, rfl, _, _⟩ := own_form hown'; have inv10 := Lib.hid (inv9.out.grown (below_box _ _) hgrow (by rw [hyv.out] at hown'; exact hown') hkj HJN.out); obtain ⟨o0', o1', o2', oz'⟩ := id inv10.out.1; have z0' := oz' 0; clear hown' hgrow oz'))
          exact ⟨⟨k + 1, _, by omega, by have := HJN.out; congr 1; omega, Lib.hid (inv10.out.2 _ rfl)⟩, by simp [intOf]⟩
      · have k1 : ((invN x.op : Int) == 22) = false := beq_eq_false_iff_ne.2 (by omega)
        have k2 : ((invN x.op : Int) == 25) = false := beq_eq_false_iff_ne.2 (by omega)
        have k3 : ((invN x.op : Int) == 32) = false := beq_eq_false_iff_ne.2 (by omega)
        have k4 : ((invN x.op : Int) == 33) = false := beq_eq_false_iff_ne.2 (by omega)
        have hK : tgtK (invN x.op) = 2 := by
          have h1 : tgtK (invN x.op) ≠ 0 := by rw [tgtK_invN]; exact kI_ne hkx
          rcases tgtK_012 (invN x.op) with e | e | e
          · exact absurd e h1
          · exfalso
            unfold tgtK at e
            split at e
            · omega
            · split at e <;> cases e
          · exact e
        have hK' : tgtK x.op = 2 := by rw [← tgtK_invN]; exact hK
        have htb : tI x = x.b := by unfold tI tgt; rw [hK']; rfl
        rw [htb] at hb0
        have hnew := Lib.hid (show (⟨invN x.op, x.a, (l.length : Int) - 1 - x.b, x.c, x.d⟩ : Ins) = newX l jn by rw [← HRN.out]; unfold rnew; rw [if_neg hcall, hrtv, if_neg (fun h => ho h.2), if_pos hrt])
        clear hcall ho hrt0 hrt1 hkx htb hK' hK
        obtain ⟨c0, c1, c2, c3, c4, fz⟩ := id ix8
        go_wp2_with fail
        refine (rtarget_any ⟨invN x.op, x.a, x.b, x.c, x.d⟩ _).mono ?_
        rintro e w8' ⟨rfl, hb8⟩
        rw [hrtv]
        have inv8' := Lib.hid (inv8.out.below hb8)
        have ix8' := ix8.mono hb8
        clear ix8 inv8 hb8 c0 c1 c2 c3 c4 fz hrtv
        have ix8 := ix8'
        have inv8 := inv8'
        clear ix8' inv8'
        generalize hw8 : w8' = w8 at *
        clear hw8
        have inv9 := Lib.hid (inv.out.setNew inv8.out wr.heap.size 2 (Nat.le_refl _) (.int .i64 ((l.length : Int) - 1 - x.b)))
        obtain ⟨c0, c1, c2, c3, c4, fz⟩ := id ix8
        have hyv := Lib.hid (show (⟨invN x.op, x.a, (l.length : Int) - 1 - x.b, x.c, x.d⟩ : Ins) = newX l jn from hnew.out)
        obtain ⟨o0, o1, o2, oz⟩ := id inv8.out.out
        have z0 := oz 0
        have hlt8 := inv8.out.size
        clear oz
        go_wp2_with (at_builtin; go_loud (refine wpList_append_own _ rfl _ _ 22 rfl (w.heap.size + 3) 38 i0 (.agg #[.int .u8 0, .int .i64 0, .int .i64 0, .int .i64 0, .int .i64 0]) 5 40 Tryd.underlying22 HI.out.1 HI.out.2.1 HI.out.2.2.1 HI.out.2.2.2 rfl (by decide) _ k (cellsL ((invL l).take k)) rfl (inv9.out.own.alloc _) ⟨w8.heap.size, 0, none⟩ 1 1 (Ins.five ⟨invN x.op, x.a, (l.length : Int) - 1 - x.b, x.c, x.d⟩) rfl rfl (five_new (by simp) _ _) (five_one _) (by unfold maxLen; omega) (by omega) (by simp; omega) ?_; intro v' w9 hown' hgrow _; obtain ⟨A9, c9, rfl, _, _⟩ := own_form hown'; have inv10 := Lib.hid (inv9.out.grown (below_box _ _) hgrow (by rw [hyv.out] at hown'; exact hown') hkj HJN.out); obtain ⟨o0', o1', o2', oz'⟩ := id inv10.out.1; have z0' := oz' 0; clear hown' hgrow oz'))
        exact ⟨⟨k + 1, _, by omega, by have := HJN.out; congr 1; omega, Lib.hid (inv10.out.2 _ rfl)⟩, by simp [intOf]⟩
    · have hnew := Lib.hid (show (⟨invN x.op, x.a, x.b, x.c, x.d⟩ : Ins) = newX l jn by rw [← HRN.out]; unfold rnew; rw [if_neg hcall, hrtv, if_neg (fun h => hrt h.1), if_neg hrt])
      clear hcall hrt0 hrt1
      have hrt' : decide (0 ≤ rt) = false := by simp; omega
      obtain ⟨c0, c1, c2, c3, c4, fz⟩ := id ix8
      go_wp2_with fail
      refine (rtarget_any ⟨invN x.op, x.a, x.b, x.c, x.d⟩ _).mono ?_
      rintro e w8' ⟨rfl, hb8⟩
      rw [hrtv]
      have inv9 := Lib.hid (inv8.out.below hb8)
      have ix9 := ix8.mono hb8
      clear ix8 inv8 hb8 c0 c1 c2 c3 c4 fz hrtv
      obtain ⟨c0, c1, c2, c3, c4, fz⟩ := id ix9
      have inv8 := inv9
      generalize hw8 : w8' = w8 at *
      clear hw8
      have hyv := Lib.hid (show (⟨invN x.op, x.a, x.b, x.c, x.d⟩ : Ins) = newX l jn from hnew.out)
      obtain ⟨o0, o1, o2, oz⟩ := id inv8.out.out
      have z0 := oz 0
      have hlt8 := inv8.out.size
      clear oz
      go_wp2_with (at_builtin; go_loud (refine wpList_append_own _ rfl _ _ 22 rfl (w.heap.size + 3) 38 i0 (.agg #[.int .u8 0, .int .i64 0, .int .i64 0, .int .i64 0, .int .i64 0]) 5 40 Tryd.underlying22 HI.out.1 HI.out.2.1 HI.out.2.2.1 HI.out.2.2.2 rfl (by decide) _ k (cellsL ((invL l).take k)) rfl (inv9.out.own.alloc _) ⟨w8.heap.size, 0, none⟩ 1 1 (Ins.five ⟨invN x.op, x.a, x.b, x.c, x.d⟩) rfl rfl (five_new (by simp) _ _) (five_one _) (by unfold maxLen; omega) (by omega) (by simp; omega) ?_; intro v' w9 hown' hgrow _; obtain ⟨A9, c9, rfl, _, _⟩ := own_form hown'; have inv10 := Lib.hid (inv9.out.grown (below_box _ _) hgrow (by rw [hyv.out] at hown'; exact hown') hkj HJN.out); obtain ⟨o0', o1', o2', oz'⟩ := id inv10.out.1; have z0' := oz' 0; clear hown' hgrow oz'))
      exact ⟨⟨k + 1, _, by omega, by have := HJN.out; congr 1; omega, Lib.hid (inv10.out.2 _ rfl)⟩, by simp [intOf]⟩

end Go.Proofs.YthakiaicnhkfjaaDoor
