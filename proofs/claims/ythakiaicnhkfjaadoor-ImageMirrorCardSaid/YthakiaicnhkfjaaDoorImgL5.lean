/-
  The walk of the law ImageMirror.
-/
import Derived.Test.YthakiaicnhkfjaaDoorImgL3
import Derived.Test.YthakiaicnhkfjaaDoorImgCount
import Derived.Deep.RegionHeld3
import Derived.Deep.DeepCutAuto
namespace Go.Proofs.YthakiaicnhkfjaaDoor
open Go.ChangeShapes Go.WideShapes Go.ChangeAt Go.RowKit Go.Sort

theorem ptn_mirror {l : List Ins} (h : Struct l) (hn : l.length ≤ 65536) {k jn : Nat} (hj : l.length - 1 - k = jn) (hk : k < l.length) :
    (ptn l k = none ∧ ptn (invL l) jn = none) ∨ (∃ m : Nat, m < l.length ∧ ptn l k = some (m : Int) ∧ ptn (invL l) jn = some ((l.length : Int) - 1 - m)) := by
  have ej : (l.length : Int) - 1 - k = jn := by omega
  cases hp : ptn l (k : Int) with
  | none =>
    left
    refine ⟨rfl, ?_⟩
    cases hq : ptn (invL l) (jn : Int) with
    | none => rfl
    | some u =>
      have := ptn_inv' h hn hq
      rw [show (l.length : Int) - 1 - jn = k by omega, hp] at this
      cases this
  | some t =>
    have hr := (ptn_range hp).2
    have := ptn_inv h hn hp
    rw [ej] at this
    exact .inr ⟨t.toNat, by omega, by congr 1; omega, by rw [this]; congr 1; omega⟩
theorem new_kI {l : List Ins} {k : Nat} (hk : kI (atI l k) = true) : ∃ T, newX l k = ⟨invN (atI l k).op, retA (invN (atI l k).op) (atI l k).a T, retB (invN (atI l k).op) (atI l k).b T, (atI l k).c, (atI l k).d⟩ :=
  ⟨_, by unfold newX; rw [if_pos hk]⟩

theorem keep_two {w w' W : World} {b1 b3 : Nat} {u0 u1 u2 x0 x1 x2 : Value} {A A' : Option Addr} {l l' : List Ins}
    (h : w.cell? ⟨b1, 0, none⟩ = some u0 ∧ w.cell? ⟨b1, 1, none⟩ = some u1 ∧ w.cell? ⟨b1, 2, none⟩ = some u2 ∧ w.cell? ⟨b3, 0, none⟩ = some x0 ∧ w.cell? ⟨b3, 1, none⟩ = some x1 ∧ w.cell? ⟨b3, 2, none⟩ = some x2 ∧ CodeAt w A l ∧ CodeAt w A' l' ∧ Below W.heap.size W w) (hb : Below w.heap.size w w') :
    w'.cell? ⟨b1, 0, none⟩ = some u0 ∧ w'.cell? ⟨b1, 1, none⟩ = some u1 ∧ w'.cell? ⟨b1, 2, none⟩ = some u2 ∧ w'.cell? ⟨b3, 0, none⟩ = some x0 ∧ w'.cell? ⟨b3, 1, none⟩ = some x1 ∧ w'.cell? ⟨b3, 2, none⟩ = some x2 ∧ CodeAt w' A l ∧ CodeAt w' A' l' ∧ Below W.heap.size W w' := by
  obtain ⟨h0, h1, h2, h3, h4, h5, h6, h7, h8⟩ := h
  have e : ∀ {a : Addr} {v : Value}, w.cell? a = some v → w'.cell? a = some v := fun {a v} ha => by rw [hb.cell (block_lt_of_cell ha)]; exact ha
  exact ⟨e h0, e h1, e h2, e h3, e h4, e h5, h6.mono hb, h7.mono hb, below_step h8 h8.size hb⟩
theorem keep_code1 {w W : World} {b1 b3 : Nat} {u0 u1 u2 x0 x1 x2 : Value} {A A' : Option Addr} {l l' : List Ins}
    (h : w.cell? ⟨b1, 0, none⟩ = some u0 ∧ w.cell? ⟨b1, 1, none⟩ = some u1 ∧ w.cell? ⟨b1, 2, none⟩ = some u2 ∧ w.cell? ⟨b3, 0, none⟩ = some x0 ∧ w.cell? ⟨b3, 1, none⟩ = some x1 ∧ w.cell? ⟨b3, 2, none⟩ = some x2 ∧ CodeAt w A l ∧ CodeAt w A' l' ∧ Below W.heap.size W w) : CodeAt w A l ∧ CodeAt w A' l' ∧ Below W.heap.size W w := h.2.2.2.2.2.2
theorem InsAt.setAll {w : World} {b op : Nat} {A B C D : Int} (h : InsAt w b op A B C D) (A' B' : Int) : InsAt (((((w.setCell ⟨b, 0, none⟩ (.int .u8 op)).setCell ⟨b, 1, none⟩ (.int .i64 A')).setCell ⟨b, 2, none⟩ (.int .i64 B')).setCell ⟨b, 3, none⟩ (.int .i64 C)).setCell ⟨b, 4, none⟩ (.int .i64 D)) b op A' B' C D := by
  obtain ⟨c0, c1, c2, c3, c4, fz⟩ := h
  constructor <;> simp [go_sem, *]
theorem below_drew (w : World) : Below w.heap.size w w.drew := ⟨rfl, rfl, rfl, Nat.le_refl _, fun _ _ => rfl⟩

set_option maxRecDepth 100000 in
set_option maxHeartbeats 4000000 in
theorem imageMirror_walk (l : List Ins) (A : Option Addr) (cap : Nat) (M S : Int) (w : World) (hC : CodeAt w A l) (hY : Bytes l) (hl63 : l.length ≤ 9223372036854775807) (hT : Tab w) :
    Calls Tryd.prog 9 #[.agg #[.slice A l.length cap, .int .i64 M, .int .i64 S]] w fun e w' => e = .returned (.bool true) ∧ Below w.heap.size w w' := by
  have hbW := below_box w (Obj.cells #[.slice A l.length cap, .int .i64 M, .int .i64 S] 24)
  have im := imgAt_box w 24 A cap M S l hC
  have HT := Lib.hid (hT.mono hbW)
  clear hC hT
  go_enter Tryd.func9, Tryd.ntmps9
  go_wp2_with fail
  generalize w.alloc _ = W at hbW im HT ⊢
  refine (awake23_any _ HT.out).mono ?_
  rintro e w1 ⟨rfl, hb1⟩
  have im1 := im.mono hb1
  have HT1 := Lib.hid (HT.out.mono hb1)
  have q1 := below_step hbW hbW.size hb1
  clear im HT hbW hb1
  obtain ⟨b0, b1, b2, bc⟩ := id im1
  clear bc
  go_wp2_with fail
  refine (great_any l _ _ _ _ _ hl63).mono ?_
  rintro e w2 ⟨rfl, hb2⟩
  have im2 := im1.mono hb2
  have HT2 := Lib.hid (HT1.out.mono hb2)
  have q2 := below_step q1 q1.size hb2
  clear im1 HT1 q1 hb2 b0 b1 b2
  obtain ⟨b0, b1, b2, bc⟩ := id im2
  clear bc
  by_cases h80 : 80 < l.length
  · have g80 : decide (80 < l.length) = true := by simpa using h80
    go_wp2
    go_ret
    exact ⟨rfl, q2⟩
  have g80 : decide (80 < l.length) = false := by simpa using h80
  have hl : l.length ≤ 1000000 := by omega
  go_wp2_with fail
  refine (ivalid_any l _ _ _ _ _ im2.code hY HT2.out hl).mono ?_
  rintro e w3 ⟨rfl, hb3⟩
  have im3 := im2.mono hb3
  have HT3 := Lib.hid (HT2.out.mono hb3)
  have q3 := below_step q2 q2.size hb3
  clear im2 HT2 q2 hb3 b0 b1 b2
  obtain ⟨b0, b1, b2, bc⟩ := id im3
  clear bc
  by_cases hok : okImg l M S = true
  rotate_left
  · have hok' : okImg l M S = false := by simpa using hok
    clear hok
    go_wp2
    go_ret
    exact ⟨rfl, q3⟩
  obtain ⟨hsz, hst⟩ := ok_iff.1 hok
  have hn16 : l.length ≤ 65536 := by simp [sizesB] at hsz; omega
  have HSZ := Lib.hid hsz
  have HST := Lib.hid hst
  clear hsz hst
  go_wp2_with fail
  refine (invert_any l _ _ _ _ _ im3.code hY HT3.out hl).mono ?_
  rintro e w4 (⟨_, A4, c4, rfl, hC4, hb4⟩ | ⟨h, _⟩)
  rotate_left
  · rw [hok] at h; cases h
  have HC4 := Lib.hid hC4
  clear hC4
  have im4 := im3.mono hb4
  have HT4 := Lib.hid (HT3.out.mono hb4)
  have q4 := below_step q3 q3.size hb4
  clear im3 HT3 q3 hb4 b0 b1 b2
  obtain ⟨b0, b1, b2, bc⟩ := id im4
  clear bc
  have hYi := Lib.hid (bytes_inv hY)
  have hpc := Lib.hid (procs_inv HST.out hn16)
  have s4 := im4.lt
  have iX := imgAt_box w4 24 A4 c4 M S (invL l) HC4.out
  rw [invL_length] at iX
  have hbx := below_box w4 (Obj.cells #[Value.slice A4 l.length c4, Value.int IntKind.i64 M, Value.int IntKind.i64 S] 24)
  go_wp2
  generalize w4.alloc _ = W5 at iX hbx ⊢
  have im5 := im4.mono hbx
  have HT5 := Lib.hid (HT4.out.mono hbx)
  have q5 := below_step q4 q4.size hbx
  clear im4 HT4 q4 hbx b0 b1 b2 HC4
  obtain ⟨b0, b1, b2, bc⟩ := id im5
  obtain ⟨x0, x1, x2, xc⟩ := id iX
  rw [invL_length] at x0
  have hS0 := Lib.hid (keep_two ⟨b0, b1, b2, x0, x1, x2, bc, xc, Below.refl _ W5⟩ (below_drew W5))
  clear bc xc
  have pc1 : ∀ w' : World, (CodeAt w' A l ∧ CodeAt w' A4 (invL l) ∧ Below W5.heap.size W5 w') → Calls Tryd.prog 25 #[.agg #[.slice A l.length cap, .int .i64 M, .int .i64 S]] w' (fun e w2 => ∃ AP cP, e = .returned (.slice AP (procsF l 0).length cP) ∧ Below w'.heap.size w' w2) := fun w' h =>
    (procs_any l A cap M S w' h.1 hl).mono fun e w2 ⟨a, c, h1, _, h2⟩ => ⟨a, c, h1, h2⟩
  have pc2 : ∀ w' : World, (CodeAt w' A l ∧ CodeAt w' A4 (invL l) ∧ Below W5.heap.size W5 w') → Calls Tryd.prog 25 #[.agg #[.slice A4 l.length c4, .int .i64 M, .int .i64 S]] w' (fun e w2 => ∃ AP cP, e = .returned (.slice AP (procsF l 0).length cP) ∧ Below w'.heap.size w' w2) := fun w' h => by
    have hc := procs_any (invL l) A4 c4 M S w' h.2.1 (by rw [invL_length]; exact hl)
    rw [invL_length] at hc
    exact hc.mono fun e w2 ⟨a, c, h1, _, h2⟩ => ⟨a, c, by rw [h1, hpc.out], h2⟩
  have hpl : (procsF l 0).length ≤ l.length := by rw [procsF_length]; exact List.length_filter_le _ _
  have PC := Lib.hid (show ∀ (X : Value) (w' : World), (X = .agg #[.slice A l.length cap, .int .i64 M, .int .i64 S] ∨ X = .agg #[.slice A4 l.length c4, .int .i64 M, .int .i64 S]) → (CodeAt w' A l ∧ CodeAt w' A4 (invL l) ∧ Below W5.heap.size W5 w') → Calls Tryd.prog 25 #[X] w' (fun e w2 => ∃ AP cP, e = .returned (.slice AP (procsF l 0).length cP) ∧ Below w'.heap.size w' w2) from fun X w' hX h => by
    rcases hX with rfl | rfl
    · exact pc1 w' h
    · exact pc2 w' h)
  clear pc1 pc2
  generalize (procsF l 0).length = np at *
  go_cut [49] (fun v wc => v = .bool false ∧ Below W5.heap.size W5 wc)
  case first =>
    go_region_held3 (fun w' => w'.cell? ⟨w.heap.size, 0, none⟩ = some (.slice A l.length cap) ∧ w'.cell? ⟨w.heap.size, 1, none⟩ = some (.int .i64 M) ∧ w'.cell? ⟨w.heap.size, 2, none⟩ = some (.int .i64 S) ∧ w'.cell? ⟨w4.heap.size, 0, none⟩ = some (.slice A4 l.length c4) ∧ w'.cell? ⟨w4.heap.size, 1, none⟩ = some (.int .i64 M) ∧ w'.cell? ⟨w4.heap.size, 2, none⟩ = some (.int .i64 S) ∧ CodeAt w' A l ∧ CodeAt w' A4 (invL l) ∧ Below W5.heap.size W5 w')
      (first | exact hS0.out | exact keep_two (by assumption) hbP)
      (first | (go_at_call 25; refine (PC.out _ _ (by first | exact .inl rfl | exact .inr rfl) (keep_code1 (b1 := w.heap.size) (b3 := w4.heap.size) (u0 := .slice A l.length cap) (u1 := .int .i64 M) (u2 := .int .i64 S) (x0 := .slice A4 l.length c4) (x1 := .int .i64 M) (x2 := .int .i64 S) (W := W5) (A := A) (A' := A4) (l := l) (l' := invL l) (by assumption))).mono ?_; rintro e w' ⟨AP, cP, rfl, hbP⟩))
    all_goals
      go_wp2_with fail
      go_meet
      exact ⟨rfl, (keep_code1 (b1 := w.heap.size) (b3 := w4.heap.size) (u0 := .slice A l.length cap) (u1 := .int .i64 M) (u2 := .int .i64 S) (x0 := .slice A4 l.length c4) (x1 := .int .i64 M) (x2 := .int .i64 S) (W := W5) (A := A) (A' := A4) (l := l) (l' := invL l) (by assumption)).2.2⟩
  case rest =>
    obtain ⟨rfl, hbc⟩ := hcut
    have im6 := im5.mono hbc
    have iX6 := iX.mono hbc
    have HT6 := Lib.hid (HT5.out.mono hbc)
    have q6 := below_step q5 q5.size hbc
    clear im5 iX HT5 q5 hbc PC hS0 hpl b0 b1 b2 x0 x1 x2
    obtain ⟨b0, b1, b2, bc⟩ := id im6
    clear bc
    go_wp2
    clear b0 b1 b2
    have cpx : ∀ (i : Int) (w' : World), CodeAt w' A4 (invL l) → Tab w' → Calls Tryd.prog 21 #[.agg #[.slice A4 l.length c4, .int .i64 M, .int .i64 S], .int .i64 i] w' fun e w2 => e = .returned (.tuple #[.int .i64 (ptnI (ptn (invL l) i)), .bool (ptn (invL l) i).isSome]) ∧ Below w'.heap.size w' w2 := fun i w' h1 h2 => by
      have hc := partner_any (invL l) A4 c4 M S i w' h1 hYi.out h2 (by rw [invL_length]; exact hl)
      rw [invL_length] at hc
      exact hc
    have CPX := Lib.hid cpx
    clear cpx
    go_loopw [53] (fun i wr => ∃ k : Nat, k ≤ l.length ∧ i = .int .i64 k ∧ Below wc.heap.size wc wr) (fun i _ => l.length - (intOf i).toNat)
    case atStart => exact ⟨0, by omega, rfl, Below.refl _ _⟩
    case round =>
      obtain ⟨k, hk, rfl, hb⟩ := hrel
      by_cases hin : k < l.length
      rotate_left
      · clear CPX
        have q7 := below_step q6 q6.size hb
        go_wp2
        go_ret
        exact ⟨rfl, q7⟩
      have im7 := im6.mono hb
      have iX7 := iX6.mono hb
      have HT7 := Lib.hid (HT6.out.mono hb)
      have hj : l.length - 1 - k < l.length := by omega
      have hmir := Lib.hid (show (ptn l k = none ∧ ptn (invL l) ((l.length : Int) - 1 - k) = none) ∨ (∃ m : Nat, m < l.length ∧ ptn l k = some (m : Int) ∧ ptn (invL l) ((l.length : Int) - 1 - k) = some ((l.length : Int) - 1 - m)) by
        have := ptn_mirror HST.out hn16 rfl hin
        rw [show ((l.length - 1 - k : Nat) : Int) = (l.length : Int) - 1 - k by omega] at this
        exact this)
      have hnk := Lib.hid (new_kI (l := l) (k := k))
      have hnn := Lib.hid (show ¬ kI (atI l (k : Int)) = true → newX l k = ⟨invN (atI l k).op, (atI l k).a, (atI l k).b, (atI l k).c, (atI l k).d⟩ from fun h => by unfold newX; rw [if_neg h])
      have hyv : (invL l)[l.length - 1 - k]'(by rw [invL_length]; exact hj) = newX l k := by
        simp [invL]; congr 1; omega
      have hop := hY.at_ hin
      obtain ⟨b, o, rfl, hx6⟩ := im6.code.at_ hin
      obtain ⟨b', o', rfl, hy6⟩ := iX6.code.at_ (k := l.length - 1 - k) (by rw [invL_length]; exact hj)
      have hi := hx6.mono hb
      rw [hyv] at hy6
      have hx : atI l (k : Int) = l[k] := atI_nat hin
      rw [hx] at hnk hnn
      generalize hxl : l[k] = x at *
      clear hx hxl hyv
      have hlt := hi.lt
      obtain ⟨c0, c1, c2, c3, c4⟩ := id hi
      have s7 := im7.lt
      have s7' := iX7.lt
      go_wp2_with fail
      have ix := insAt_box wr 38 x.op x.a x.b x.c x.d
      have hbx := below_box wr (Obj.cells #[Value.int IntKind.u8 ↑x.op, Value.int IntKind.i64 x.a, Value.int IntKind.i64 x.b, Value.int IntKind.i64 x.c, Value.int IntKind.i64 x.d] 38)
      generalize wr.alloc _ = W8 at ix hbx ⊢
      refine (inverse_any x.op hop x.a x.b x.c x.d _).mono ?_
      rintro e w9 ⟨rfl, hb9⟩
      have p9 := below_step hbx hbx.size hb9
      have im9 := im7.mono p9
      have iX9 := iX7.mono p9
      have HT9 := Lib.hid (HT7.out.mono p9)
      have hb10 := below_step hb hb.size p9
      have hi9 := hy6.mono hb10
      clear c0 c1 c2 c3 c4 hi hlt im7 iX7 HT7 hbx hb9 p9 hb s7 s7' ix
      have id9 := insAt_box w9 38 (invN x.op) x.a x.b x.c x.d
      have hbd := below_box w9 (Obj.cells #[Value.int IntKind.u8 ↑(invN x.op), Value.int IntKind.i64 x.a, Value.int IntKind.i64 x.b, Value.int IntKind.i64 x.c, Value.int IntKind.i64 x.d] 38)
      have r1 : (0 : Int) ≤ (l.length : Int) - 1 - k := by omega
      have r2 : (l.length : Int) - 1 - k < l.length := by omega
      by_cases hkx : kI x = true
      · obtain ⟨T, hT⟩ := hnk.out hkx
        rw [hT] at hi9 hy6
        have hne : tgtK (invN x.op) ≠ 0 := by rw [tgtK_invN]; exact kI_ne hkx
        have htt := tgt_ret hne x.a x.b T
        have htk : (tgtK (invN x.op) != 0) = true := by simpa using hne
        clear hnk hnn hT hkx hne
        obtain ⟨x0, x1, x2, xc⟩ := id iX9
        rw [invL_length] at x0
        have s9 := iX9.lt
        have h9l := hi9.lt
        obtain ⟨y0, y1, y2, y3, y4⟩ := id hi9
        simp only at y0 y1 y2 y3 y4
        clear xc
        generalize hra : retA (invN x.op) x.a T = RA at *
        generalize hrb : retB (invN x.op) x.b T = RB at *
        go_wp2_with fail
        generalize w9.alloc _ = W10 at id9 hbd ⊢
        refine (target_any (invN x.op) (invN_256 hop) RA RB x.c x.d _).mono ?_
        rintro e w11 ⟨rfl, hb11⟩
        rw [htt, htk]
        have p11 := below_step hbd hbd.size hb11
        have id11 := id9.mono hb11
        have q11 := below_step hb10 hb10.size p11
        have hw9 : wc.heap.size ≤ w9.heap.size := hb10.size
        clear im9 iX9 hi9 HT9 id9 hb11 p11 hbd hb10 x0 x1 x2 y0 y1 y2 y3 y4 s9 h9l htt htk
        obtain ⟨d0, d1, d2, d3, d4, dz⟩ := id id11
        go_wp2_with fail
        refine (retarget_any (invN x.op) (invN_256 hop) x.a x.b x.c x.d T _).mono ?_
        rintro e w12 ⟨rfl, hb12⟩
        rw [hra, hrb]
        have id12 := id11.mono hb12
        have q12 := below_step q11 q11.size hb12
        have id13 := id12.setAll RA RB
        have q13 := ((((q12.setCell (p := ⟨w9.heap.size, 0, none⟩) hw9 (.int .u8 (invN x.op))).setCell (p := ⟨w9.heap.size, 1, none⟩) hw9 (.int .i64 RA)).setCell (p := ⟨w9.heap.size, 2, none⟩) hw9 (.int .i64 RB)).setCell (p := ⟨w9.heap.size, 3, none⟩) hw9 (.int .i64 x.c)).setCell (p := ⟨w9.heap.size, 4, none⟩) hw9 (.int .i64 x.d)
        clear id11 q11 hb12 d0 d1 d2 d3 d4 dz hra hrb
        obtain ⟨d0, d1, d2, d3, d4, dz⟩ := id id12
        generalize hS13 : ((((w12.setCell ⟨w9.heap.size, 0, none⟩ (.int .u8 (invN x.op))).setCell ⟨w9.heap.size, 1, none⟩ (.int .i64 RA)).setCell ⟨w9.heap.size, 2, none⟩ (.int .i64 RB)).setCell ⟨w9.heap.size, 3, none⟩ (.int .i64 x.c)).setCell ⟨w9.heap.size, 4, none⟩ (.int .i64 x.d) = W13 at id13 q13
        go_upto_region 16 with fail
        clear hS13 d0 d1 d2 d3 d4 dz id12 q12
        have im13 := im6.mono q13
        have iX13 := iX6.mono q13
        have HT13 := Lib.hid (HT6.out.mono q13)
        have hi13 := hy6.mono q13
        obtain ⟨x0, x1, x2, xc⟩ := id iX13
        obtain ⟨b0, b1, b2, bc⟩ := id im13
        rw [invL_length] at x0
        obtain ⟨y0, y1, y2, y3, y4⟩ := id hi13
        obtain ⟨d0, d1, d2, d3, d4, dz⟩ := id id13
        simp only at y0 y1 y2 y3 y4
        clear xc bc hi13 id13
        go_wp2_with fail
        go_quiet (fail)
        go_wp2_with fail
        have bd : Below W13.heap.size W13 (W13.drewN nq) := ⟨rfl, rfl, rfl, Nat.le_refl _, fun _ _ => rfl⟩
        generalize W13.drewN nq = W14 at bd ⊢
        have q14 := below_step q13 q13.size bd
        clear b0 b1 b2 x0 x1 x2 y0 y1 y2 y3 y4 d0 d1 d2 d3 d4 dz im13 iX13 HT13 bd q13
        have im14 := im6.mono q14
        have iX14 := iX6.mono q14
        have HT14 := Lib.hid (HT6.out.mono q14)
        refine (partner_any l _ _ _ _ _ _ im14.code hY HT14.out hl).mono ?_
        rintro e w15 ⟨rfl, hb15⟩
        have q15 := below_step q14 q14.size hb15
        have iX15 := iX6.mono q15
        have HT15 := Lib.hid (HT6.out.mono q15)
        obtain ⟨x0, x1, x2, xc⟩ := id iX15
        rw [invL_length] at x0
        clear im14 iX14 HT14 hb15 q14 xc
        rcases hmir.out with ⟨m1, m2⟩ | ⟨m, hm, m1, m2⟩
        all_goals
          rw [m1]
          simp only [ptnI, Option.getD_none, Option.getD_some, Option.isSome_none, Option.isSome_some]
          clear m1 hmir
          go_wp2_with fail
          refine (CPX.out _ _ iX15.code HT15.out).mono ?_
          rintro e w16 ⟨rfl, hb16⟩
          rw [m2]
          simp only [ptnI, Option.getD_none, Option.getD_some, Option.isSome_none, Option.isSome_some]
          have q16 := below_step q15 q15.size hb16
          clear m2 x0 x1 x2 iX15 HT15 hb16
          go_wp2
          exact ⟨⟨k + 1, by omega, by go_num, q16⟩, by simp [intOf]; omega⟩
      · have hT := hnn.out hkx
        rw [hT] at hi9 hy6
        have htk : (tgtK (invN x.op) != 0) = false := by rw [tgtK_invN]; unfold kI at hkx; simpa using hkx
        clear hnk hnn hT hkx
        obtain ⟨x0, x1, x2, xc⟩ := id iX9
        rw [invL_length] at x0
        have s9 := iX9.lt
        have h9l := hi9.lt
        obtain ⟨y0, y1, y2, y3, y4⟩ := id hi9
        simp only at y0 y1 y2 y3 y4
        clear xc
        go_wp2_with fail
        generalize w9.alloc _ = W10 at id9 hbd ⊢
        refine (target_any (invN x.op) (invN_256 hop) x.a x.b x.c x.d _).mono ?_
        rintro e W13 ⟨rfl, hb11⟩
        rw [htk]
        have p11 := below_step hbd hbd.size hb11
        have id13 := id9.mono hb11
        have q13 := below_step hb10 hb10.size p11
        clear im9 iX9 hi9 HT9 id9 hb11 p11 hbd hb10 x0 x1 x2 y0 y1 y2 y3 y4 s9 h9l htk
        have im13 := im6.mono q13
        have iX13 := iX6.mono q13
        have HT13 := Lib.hid (HT6.out.mono q13)
        have hi13 := hy6.mono q13
        obtain ⟨x0, x1, x2, xc⟩ := id iX13
        obtain ⟨b0, b1, b2, bc⟩ := id im13
        rw [invL_length] at x0
        obtain ⟨y0, y1, y2, y3, y4⟩ := id hi13
        obtain ⟨d0, d1, d2, d3, d4, dz⟩ := id id13
        simp only at y0 y1 y2 y3 y4
        clear xc bc hi13 id13
        go_wp2_with fail
        go_quiet (fail)
        go_wp2_with fail
        have bd : Below W13.heap.size W13 (W13.drewN nq) := ⟨rfl, rfl, rfl, Nat.le_refl _, fun _ _ => rfl⟩
        generalize W13.drewN nq = W14 at bd ⊢
        have q14 := below_step q13 q13.size bd
        clear b0 b1 b2 x0 x1 x2 y0 y1 y2 y3 y4 d0 d1 d2 d3 d4 dz im13 iX13 HT13 bd q13
        have im14 := im6.mono q14
        have iX14 := iX6.mono q14
        have HT14 := Lib.hid (HT6.out.mono q14)
        refine (partner_any l _ _ _ _ _ _ im14.code hY HT14.out hl).mono ?_
        rintro e w15 ⟨rfl, hb15⟩
        have q15 := below_step q14 q14.size hb15
        have iX15 := iX6.mono q15
        have HT15 := Lib.hid (HT6.out.mono q15)
        obtain ⟨x0, x1, x2, xc⟩ := id iX15
        rw [invL_length] at x0
        clear im14 iX14 HT14 hb15 q14 xc
        rcases hmir.out with ⟨m1, m2⟩ | ⟨m, hm, m1, m2⟩
        all_goals
          rw [m1]
          simp only [ptnI, Option.getD_none, Option.getD_some, Option.isSome_none, Option.isSome_some]
          clear m1 hmir
          go_wp2_with fail
          refine (CPX.out _ _ iX15.code HT15.out).mono ?_
          rintro e w16 ⟨rfl, hb16⟩
          rw [m2]
          simp only [ptnI, Option.getD_none, Option.getD_some, Option.isSome_none, Option.isSome_some]
          have q16 := below_step q15 q15.size hb16
          clear m2 x0 x1 x2 iX15 HT15 hb16
          go_wp2
          exact ⟨⟨k + 1, by omega, by go_num, q16⟩, by simp [intOf]; omega⟩

end Go.Proofs.YthakiaicnhkfjaaDoor
