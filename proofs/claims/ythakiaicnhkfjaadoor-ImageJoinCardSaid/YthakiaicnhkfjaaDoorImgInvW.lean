/-
  The contract of image.Invert.
-/
import Derived.Test.YthakiaicnhkfjaaDoorImgInv
namespace Go.Proofs.YthakiaicnhkfjaaDoor
open Go.ChangeShapes Go.WideShapes Go.ChangeAt Go.RowKit Go.Sort

/-- What image.Invert returns. -/
def RetInv (l : List Ins) (M S : Int) (w : World) (e : Ending) (w' : World) : Prop :=
  (okImg l M S = true ∧ ∃ A c, e = .returned (.tuple #[.agg #[.slice A l.length c, .int .i64 M, .int .i64 S], .int .i64 0]) ∧ CodeAt w' A (invL l) ∧ Below w.heap.size w w') ∨
  (okImg l M S = false ∧ e = .returned (.tuple #[.agg #[.slice none 0 0, .int .i64 0, .int .i64 0], .int .i64 (checkF (pfault l) l.length M S).2]) ∧ Below w.heap.size w w')

/-- The result's variable: three cells that may be written. -/
structure ResAt (w : World) (b : Nat) (u0 u1 u2 : Value) : Prop where
  r0 : w.cell? ⟨b, 0, none⟩ = some u0
  r1 : w.cell? ⟨b, 1, none⟩ = some u1
  r2 : w.cell? ⟨b, 2, none⟩ = some u2
  rz : ∀ o, w.frozen? ⟨b, o, none⟩ = false
theorem ResAt.mono {w w' : World} {b : Nat} {u0 u1 u2 : Value} (h : ResAt w b u0 u1 u2) (hb : Below w.heap.size w w') : ResAt w' b u0 u1 u2 := by
  have l : b < w.heap.size := block_lt_of_cell h.r0
  have e : ∀ o, w'.cell? ⟨b, o, none⟩ = w.cell? ⟨b, o, none⟩ := fun o => hb.cell (p := ⟨b, o, none⟩) l
  exact ⟨by rw [e]; exact h.r0, by rw [e]; exact h.r1, by rw [e]; exact h.r2, fun o => by rw [hb.frozen (p := ⟨b, o, none⟩) l]; exact h.rz o⟩

theorem own_store {w : World} {base : Nat} {e : TypeId} {g n cap j : Nat} {cur : List Ins} (h : w.ownsRow base e 5 (.slice (some ⟨g, 0, none⟩) n cap) n (cellsL cur)) (y : Ins) (hj : j < cur.length) :
    (((((w.setCell ⟨g, j * 5, none⟩ (.int .u8 y.op)).setCell ⟨g, j * 5 + 1, none⟩ (.int .i64 y.a)).setCell ⟨g, j * 5 + 2, none⟩ (.int .i64 y.b)).setCell ⟨g, j * 5 + 3, none⟩ (.int .i64 y.c)).setCell ⟨g, j * 5 + 4, none⟩ (.int .i64 y.d)).ownsRow base e 5 (.slice (some ⟨g, 0, none⟩) n cap) n (cellsL (cur.set j y)) := by
  rw [← cellsL_set cur j y hj]
  exact ((((((h.stored _ _).1.stored _ _).1.stored _ _).1.stored _ _).1.stored _ _).1)

theorem own_setOther {w : World} {base : Nat} {e : TypeId} {size g n cap : Nat} {xs : List Value} (h : w.ownsRow base e size (.slice (some ⟨g, 0, none⟩) n cap) n xs) (b o : Nat) (u : Value) (hne : g ≠ b) : (w.setCell ⟨b, o, none⟩ u).ownsRow base e size (.slice (some ⟨g, 0, none⟩) n cap) n xs := by
  refine ⟨h.1, ?_⟩
  rcases h.2 with h2 | ⟨g', cap', cur, hv, hg, hh, hr⟩
  · exact .inl h2
  · injection hv with e1 e2 e3; injection e1 with e1; injection e1 with e1; subst e1 e3
    exact .inr ⟨g, cap, cur, rfl, hg, by rw [Below.heap_setCell _ _ _ _ hne]; exact hh, hr⟩

theorem tI_start {x : Ins} (h : x.op = 32) : tI x = x.a := by unfold tI tgt; rw [h]; rfl
theorem CodeAt.set {w : World} {A : Option Addr} {l : List Ins} (h : CodeAt w A l) (b' o' : Nat) (u : Value) (hne : ∀ b o, A = some ⟨b, o, none⟩ → 0 < l.length → b ≠ b') : CodeAt (w.setCell ⟨b', o', none⟩ u) A l := fun k x hk => by
  obtain ⟨b, o, e, hi⟩ := h k x hk
  have hkl := (List.getElem?_eq_some_iff.1 hk).1
  have hn := hne b o e (by omega)
  refine ⟨b, o, e, ?_⟩
  have e' : ∀ o, (w.setCell ⟨b', o', none⟩ u).cell? ⟨b, o, none⟩ = w.cell? ⟨b, o, none⟩ := fun o => World.cell?_setCell_other w ⟨b', o', none⟩ ⟨b, o, none⟩ u (fun e => hn (by injection e with e1; first | exact e1 | exact e1.symm))
  exact ⟨by rw [e']; exact hi.c0, by rw [e']; exact hi.c1, by rw [e']; exact hi.c2, by rw [e']; exact hi.c3, by rw [e']; exact hi.c4⟩

theorem inv_next {l cur : List Ins} {k jn : Nat} (hk : k < l.length) (hj : jn = l.length - 1 - k) (hc : cur.length = l.length) (h : ∀ m, m < k → cur[l.length - 1 - m]? = some (newX l m)) (y : Ins) (hy : y = newX l k) :
    (cur.set jn y).length = l.length ∧ ∀ m, m < k + 1 → (cur.set jn y)[l.length - 1 - m]? = some (newX l m) := by
  refine ⟨by simpa using hc, fun m hm => ?_⟩
  by_cases e : m = k
  · subst e; rw [← hj, List.getElem?_set_self (by omega), hy]
  · rw [List.getElem?_set_ne (by omega)]; exact h m (by omega)
theorem inv_done {l cur : List Ins} (hc : cur.length = l.length) (h : ∀ m, m < l.length → cur[l.length - 1 - m]? = some (newX l m)) : cur = invL l := by
  apply List.ext_getElem?
  intro j
  by_cases hj : j < l.length
  · have := h (l.length - 1 - j) (by omega)
    rw [show l.length - 1 - (l.length - 1 - j) = j by omega] at this
    rw [this]; simp [invL, hj]
  · rw [List.getElem?_eq_none (by omega), List.getElem?_eq_none (by simp [invL]; omega)]

set_option maxRecDepth 100000 in
set_option maxHeartbeats 2000000 in
theorem invert_any (l : List Ins) (A : Option Addr) (cap : Nat) (M S : Int) (w : World) (hC : CodeAt w A l) (hY : Bytes l) (hT : Tab w) (hl : l.length ≤ 1000000) :
    Calls Tryd.prog 14 #[.agg #[.slice A l.length cap, .int .i64 M, .int .i64 S]] w (RetInv l M S w) := by
  have hbW := (below_box w (Obj.cells #[.slice A l.length cap, .int .i64 M, .int .i64 S] 24)).alloc (by simp) (Obj.cells #[.slice none 0 0, .int .i64 0, .int .i64 0] 24)
  have im := (imgAt_box w 24 A cap M S l hC).mono (below_box _ (Obj.cells #[.slice none 0 0, .int .i64 0, .int .i64 0] 24))
  have HT := Lib.hid (hT.mono hbW)
  have hr0 : ResAt ((w.alloc (Obj.cells #[.slice A l.length cap, .int .i64 M, .int .i64 S] 24)).alloc (Obj.cells #[.slice none 0 0, .int .i64 0, .int .i64 0] 24)) (w.heap.size + 1) (.slice none 0 0) (.int .i64 0) (.int .i64 0) := by
    constructor <;> simp [go_sem]
  clear hC hT
  go_enter Tryd.func14, Tryd.ntmps14
  go_wp2_with fail
  generalize World.alloc _ _ = W at hbW im HT hr0 ⊢
  refine (check_any l _ _ _ _ _ im.code hY HT.out hl).mono ?_
  rintro e w1 ⟨rfl, hb1⟩
  have im1 := im.mono hb1
  have HT1 := Lib.hid (HT.out.mono hb1)
  have hr1 := hr0.mono hb1
  have q1 := below_step hbW hbW.size hb1
  clear im HT hr0 hbW hb1
  obtain ⟨b0, b1, b2, bc⟩ := id im1
  clear bc
  obtain ⟨r0, r1, r2, rz⟩ := id hr1
  by_cases hok : okImg l M S = true
  rotate_left
  · have hok' : okImg l M S = false := by simpa using hok
    have hne : ((checkF (pfault l) l.length M S).2 != 0) = true := by
      have := hok'; unfold okImg at this; rw [bne, this]; rfl
    generalize hce : (checkF (pfault l) l.length M S).2 = ce at *
    have HCE := Lib.hid hce
    clear hce hok
    go_wp2
    refine bodyPost_ret (v := .tuple #[.agg #[.slice none 0 0, .int .i64 0, .int .i64 0], .int .i64 ce]) (by simp [results, Tryd.results14, go_sem, r0, r1, r2]) rfl ?_
    refine .inr ⟨hok', by rw [HCE.out], ?_⟩
    exact ((q1.setCell (by simp) _).setCell (by simp) _).setCell (by simp) _
  · have h0 : (checkF (pfault l) l.length M S).2 = 0 := by unfold okImg at hok; simpa using hok
    have hgood := Lib.hid (ok_good hok)
    go_wp2_with fail
    refine (clone_any l _ _ _ im1.code hl).mono ?_
    rintro e w2 ⟨v, rfl, hown, hb2⟩
    have HOWN := Lib.hid hown
    obtain ⟨AC, cC, rfl, hcC, hgC⟩ := own_form hown
    clear hown b0 b1 b2 r0 r1 r2 rz h0
    have im2 := im1.mono hb2
    obtain ⟨b0, b1, b2, bc⟩ := id im2
    clear bc
    have HGC := Lib.hid hgC
    clear hgC
    go_wp2
    clear b0 b1 b2
    go_loopw [8, 9] (fun i j wr => ∃ (k : Nat) (cur : List Ins), k ≤ l.length ∧ i = .int .i64 k ∧ j = .int .i64 ((l.length : Int) - 1 - k) ∧ Hid (cur.length = l.length ∧ wr.ownsRow w1.heap.size 38 5 (.slice AC l.length cC) l.length (cellsL cur) ∧ ∀ m, m < k → cur[l.length - 1 - m]? = some (newX l m)) ∧ Below w1.heap.size w1 wr) (fun i _ _ => l.length - (intOf i).toNat)
    case atStart => exact ⟨0, l, by omega, rfl, by congr 1; omega, ⟨rfl, HOWN.out, fun m hm => by omega⟩, hb2⟩
    case round =>
      obtain ⟨k, cur, hk, rfl, rfl, hcur, hb⟩ := hrel
      clear HOWN im2
      have im3 := im1.mono hb
      have HT3 := Lib.hid (HT1.out.mono hb)
      obtain ⟨b0, b1, b2, bc⟩ := id im3
      by_cases hin : k < l.length
      · obtain ⟨g, rfl, hgg⟩ := HGC.out (by omega)
        have hj : (l.length : Int) - 1 - k = ((l.length - 1 - k : Nat) : Int) := by omega
        rw [hj]
        clear hj
        generalize hjn : l.length - 1 - k = jn
        have hjl : jn < l.length := by omega
        have HJN := Lib.hid hjn
        clear hjn
        have hop := hY.at_ hin
        have hgx := hgood.out.2 k hin
        obtain ⟨b, o, rfl, hi⟩ := bc.at_ hin
        have hx : atI l (k : Int) = l[k] := atI_nat hin
        generalize hxl : l[k] = x at *
        have Hx := Lib.hid hx
        have HGX := Lib.hid hgx
        clear hxl hgx
        obtain ⟨c0, c1, c2, c3, c4⟩ := id hi
        clear bc
        go_wp2_with fail
        refine (inverse_any x.op hop x.a x.b x.c x.d _).mono ?_
        rintro e w3 ⟨rfl, hb3⟩
        have q3 := below_step hb hb.size hb3
        clear b0 b1 b2 c0 c1 c2 c3 c4 hi im3 hx
        go_wp2_with fail
        have hbx := below_box w3 (Obj.cells #[Value.int IntKind.u8 ↑(invN x.op), Value.int IntKind.i64 x.a, Value.int IntKind.i64 x.b, Value.int IntKind.i64 x.c, Value.int IntKind.i64 x.d] 38)
        have ix := insAt_box w3 38 (invN x.op) x.a x.b x.c x.d
        have q4 := below_step q3 q3.size hbx
        have own4 := own_below (own_below hcur.out.2.1 hb3) hbx
        have hg3 : g < w3.heap.size := (own_lt (own_below hcur.out.2.1 hb3)).1
        generalize w3.alloc _ = W4 at hbx ix q4 own4 ⊢
        refine (target_any (invN x.op) (invN_256 hop) x.a x.b x.c x.d _).mono ?_
        rintro e w5 ⟨rfl, hb5⟩
        have ix5 := ix.mono hb5
        have q5 := below_step q4 q4.size hb5
        have own5 := own_below own4 hb5
        have OWN5 := Lib.hid own5
        clear ix q4 own4 hb5 q3 hbx hb3
        rw [tgt_invN, tgtK_invN]
        have n1 : g ≠ w3.heap.size := by omega
        have n2 : w3.heap.size ≠ g := by omega
        have hcl := hcur.out.1
        obtain ⟨c0, c1, c2, c3, c4, fz⟩ := id ix5
        by_cases hkx : kI x = true
        rotate_left
        · have hk0 : kI x = false := by simpa using hkx
          have hk' : (tgtK x.op != 0) = false := hk0
          have hnew := Lib.hid (show (⟨invN x.op, x.a, x.b, x.c, x.d⟩ : Ins) = newX l k by unfold newX; rw [Hx.out, if_neg hkx])
          clear hkx hk0
          have hrow : ∀ r, r < 5 → ∃ u, w5.cell? ⟨g, jn * 5 + r, none⟩ = some u := fun r hr => by
            have hl5 := own5.1
            exact ⟨(cellsL cur)[jn * 5 + r]'(by omega), by rw [own5.cellAt (jn * 5 + r) (by omega)]; exact List.getElem?_eq_getElem _⟩
          obtain ⟨v0, s0⟩ := hrow 0 (by omega)
          obtain ⟨v1, s1⟩ := hrow 1 (by omega)
          obtain ⟨v2, s2⟩ := hrow 2 (by omega)
          obtain ⟨v3, s3⟩ := hrow 3 (by omega)
          obtain ⟨v4, s4⟩ := hrow 4 (by omega)
          rw [Nat.add_zero] at s0
          have z0 := own5.frozenAt (jn * 5)
          have z1 := own5.frozenAt (jn * 5 + 1)
          have z2 := own5.frozenAt (jn * 5 + 2)
          have z3 := own5.frozenAt (jn * 5 + 3)
          have z4 := own5.frozenAt (jn * 5 + 4)
          clear hrow
          clear own5
          go_wp2
          have hfin := inv_next hin HJN.out.symm hcl hcur.out.2.2 ⟨invN x.op, x.a, x.b, x.c, x.d⟩ hnew.out
          have hst := own_store OWN5.out ⟨invN x.op, x.a, x.b, x.c, x.d⟩ (by omega : jn < cur.length)
          have hbl := ((((q5.setCell (p := ⟨g, jn * 5, none⟩) hgg (.int .u8 (invN x.op))).setCell (p := ⟨g, jn * 5 + 1, none⟩) hgg (.int .i64 x.a)).setCell (p := ⟨g, jn * 5 + 2, none⟩) hgg (.int .i64 x.b)).setCell (p := ⟨g, jn * 5 + 3, none⟩) hgg (.int .i64 x.c)).setCell (p := ⟨g, jn * 5 + 4, none⟩) hgg (.int .i64 x.d)
          exact ⟨⟨k + 1, cur.set jn ⟨invN x.op, x.a, x.b, x.c, x.d⟩, by omega, by go_num, by have := HJN.out; congr 1; omega, ⟨hfin.1, hst, hfin.2⟩, hbl⟩, by simp [intOf]; omega⟩
        · have hk' : (tgtK x.op != 0) = true := hkx
          have hvx := good_valid HGX.out
          rw [Hx.out] at hvx
          have hbt := valid_tgt hvx hkx
          have hq3 : w1.heap.size ≤ w3.heap.size := by have := hb.size; omega
          by_cases hcall : invN x.op = 30 ∨ invN x.op = 31
          rotate_left
          · have h30 : ((invN x.op : Int) == 30) = false := beq_eq_false_iff_ne.2 (by omega)
            have h31 : ((invN x.op : Int) == 31) = false := beq_eq_false_iff_ne.2 (by omega)
            have hnew := Lib.hid (show (⟨invN x.op, retA (invN x.op) x.a (l.length - 1 - tI x), retB (invN x.op) x.b (l.length - 1 - tI x), x.c, x.d⟩ : Ins) = newX l k by
              unfold newX newT; rw [Hx.out, if_pos hkx, if_neg hcall])
            have ht : tgt x.op x.a x.b = tI x := rfl
            rw [ht]
            clear hkx hcall ht
            generalize tI x = t at *
            go_wp2_with fail
            refine (retarget_any (invN x.op) (invN_256 hop) x.a x.b x.c x.d _ _).mono ?_
            rintro e w6 ⟨rfl, hb6⟩
            have ix6 := ix5.mono hb6
            have q6 := below_step q5 q5.size hb6
            have own6 := own_below OWN5.out hb6
            have OWN6 := Lib.hid own6
            clear ix5 q5 hb6 OWN5 own5 c0 c1 c2 c3 c4 fz
            obtain ⟨c0, c1, c2, c3, c4, fz⟩ := id ix6
            have hrow : ∀ r, r < 5 → ∃ u, w6.cell? ⟨g, jn * 5 + r, none⟩ = some u := fun r hr => by
              have hl5 := own6.1
              exact ⟨(cellsL cur)[jn * 5 + r]'(by omega), by rw [own6.cellAt (jn * 5 + r) (by omega)]; exact List.getElem?_eq_getElem _⟩
            obtain ⟨v0, s0⟩ := hrow 0 (by omega)
            obtain ⟨v1, s1⟩ := hrow 1 (by omega)
            obtain ⟨v2, s2⟩ := hrow 2 (by omega)
            obtain ⟨v3, s3⟩ := hrow 3 (by omega)
            obtain ⟨v4, s4⟩ := hrow 4 (by omega)
            rw [Nat.add_zero] at s0
            have z0 := own6.frozenAt (jn * 5)
            have z1 := own6.frozenAt (jn * 5 + 1)
            have z2 := own6.frozenAt (jn * 5 + 2)
            have z3 := own6.frozenAt (jn * 5 + 3)
            have z4 := own6.frozenAt (jn * 5 + 4)
            clear hrow
            clear own6
            go_wp2
            have hbb : w1.heap.size ≤ w3.heap.size := by omega
            have hfin := inv_next hin HJN.out.symm hcl hcur.out.2.2 ⟨invN x.op, retA (invN x.op) x.a (l.length - 1 - t), retB (invN x.op) x.b (l.length - 1 - t), x.c, x.d⟩ hnew.out
            have hst := own_store (own_setOther (own_setOther (own_setOther (own_setOther (own_setOther OWN6.out w3.heap.size 0 (.int .u8 (⟨invN x.op, retA (invN x.op) x.a (l.length - 1 - t), retB (invN x.op) x.b (l.length - 1 - t), x.c, x.d⟩ : Ins).op) n1) w3.heap.size 1 (.int .i64 (⟨invN x.op, retA (invN x.op) x.a (l.length - 1 - t), retB (invN x.op) x.b (l.length - 1 - t), x.c, x.d⟩ : Ins).a) n1) w3.heap.size 2 (.int .i64 (⟨invN x.op, retA (invN x.op) x.a (l.length - 1 - t), retB (invN x.op) x.b (l.length - 1 - t), x.c, x.d⟩ : Ins).b) n1) w3.heap.size 3 (.int .i64 (⟨invN x.op, retA (invN x.op) x.a (l.length - 1 - t), retB (invN x.op) x.b (l.length - 1 - t), x.c, x.d⟩ : Ins).c) n1) w3.heap.size 4 (.int .i64 (⟨invN x.op, retA (invN x.op) x.a (l.length - 1 - t), retB (invN x.op) x.b (l.length - 1 - t), x.c, x.d⟩ : Ins).d) n1) ⟨invN x.op, retA (invN x.op) x.a (l.length - 1 - t), retB (invN x.op) x.b (l.length - 1 - t), x.c, x.d⟩ (by omega : jn < cur.length)
            have hbl := (((((((((q6.setCell (p := ⟨w3.heap.size, 0, none⟩) hbb (.int .u8 (⟨invN x.op, retA (invN x.op) x.a (l.length - 1 - t), retB (invN x.op) x.b (l.length - 1 - t), x.c, x.d⟩ : Ins).op)).setCell (p := ⟨w3.heap.size, 1, none⟩) hbb (.int .i64 (⟨invN x.op, retA (invN x.op) x.a (l.length - 1 - t), retB (invN x.op) x.b (l.length - 1 - t), x.c, x.d⟩ : Ins).a)).setCell (p := ⟨w3.heap.size, 2, none⟩) hbb (.int .i64 (⟨invN x.op, retA (invN x.op) x.a (l.length - 1 - t), retB (invN x.op) x.b (l.length - 1 - t), x.c, x.d⟩ : Ins).b)).setCell (p := ⟨w3.heap.size, 3, none⟩) hbb (.int .i64 (⟨invN x.op, retA (invN x.op) x.a (l.length - 1 - t), retB (invN x.op) x.b (l.length - 1 - t), x.c, x.d⟩ : Ins).c)).setCell (p := ⟨w3.heap.size, 4, none⟩) hbb (.int .i64 (⟨invN x.op, retA (invN x.op) x.a (l.length - 1 - t), retB (invN x.op) x.b (l.length - 1 - t), x.c, x.d⟩ : Ins).d)).setCell (p := ⟨g, jn * 5, none⟩) hgg (.int .u8 (⟨invN x.op, retA (invN x.op) x.a (l.length - 1 - t), retB (invN x.op) x.b (l.length - 1 - t), x.c, x.d⟩ : Ins).op)).setCell (p := ⟨g, jn * 5 + 1, none⟩) hgg (.int .i64 (⟨invN x.op, retA (invN x.op) x.a (l.length - 1 - t), retB (invN x.op) x.b (l.length - 1 - t), x.c, x.d⟩ : Ins).a)).setCell (p := ⟨g, jn * 5 + 2, none⟩) hgg (.int .i64 (⟨invN x.op, retA (invN x.op) x.a (l.length - 1 - t), retB (invN x.op) x.b (l.length - 1 - t), x.c, x.d⟩ : Ins).b)).setCell (p := ⟨g, jn * 5 + 3, none⟩) hgg (.int .i64 (⟨invN x.op, retA (invN x.op) x.a (l.length - 1 - t), retB (invN x.op) x.b (l.length - 1 - t), x.c, x.d⟩ : Ins).c)).setCell (p := ⟨g, jn * 5 + 4, none⟩) hgg (.int .i64 (⟨invN x.op, retA (invN x.op) x.a (l.length - 1 - t), retB (invN x.op) x.b (l.length - 1 - t), x.c, x.d⟩ : Ins).d)
            exact ⟨⟨k + 1, cur.set jn ⟨invN x.op, retA (invN x.op) x.a (l.length - 1 - t), retB (invN x.op) x.b (l.length - 1 - t), x.c, x.d⟩, by omega, by go_num, by have := HJN.out; congr 1; omega, ⟨hfin.1, hst, hfin.2⟩, hbl⟩, by simp [intOf]; omega⟩
          · obtain ⟨ee, he1, he2⟩ := good_call HGX.out (by rw [Hx.out]; exact (invN_call _).1 hcall)
            rw [Hx.out] at he1 he2
            have hr := (ptn_range he1).1
            obtain ⟨tm, htm⟩ := Int.eq_ofNat_of_zero_le hr.1
            have htl : tm < l.length := by omega
            have hyv := (ptn_spec.1 he1).2.2.2.2.1
            have hyk := (ptn_spec.1 he1).2.1
            have hyt := valid_tgt hyv hyk
            have hya : tI (atI l (tI x)) = (atI l (tI x)).a := tI_start he2
            rw [hya] at hyt
            have hnew := Lib.hid (show (⟨invN x.op, retA (invN x.op) x.a (l.length - 1 - (atI l (tI x)).a), retB (invN x.op) x.b (l.length - 1 - (atI l (tI x)).a), x.c, x.d⟩ : Ins) = newX l k by
              unfold newX newT; rw [Hx.out, if_pos hkx, if_pos hcall])
            have ht : tgt x.op x.a x.b = tI x := rfl
            rw [ht, htm]
            rw [htm] at hnew hyt
            have hy : atI l (tm : Int) = l[tm] := atI_nat htl
            rw [hy] at hnew hyt
            have im5 := im1.mono q5
            obtain ⟨b0, b1, b2, bc⟩ := id im5
            obtain ⟨b', o', e', hjj⟩ := bc.at_ htl
            obtain ⟨rfl, rfl⟩ : b = b' ∧ o = o' := by simpa using e'
            obtain ⟨y0, y1, y2, y3, y4⟩ := id hjj
            clear e' bc hy he1 he2 hr hyv hyk hya ht htm hkx hbt
            have h3031 : ((invN x.op : Int) == 30) = true ∨ (((invN x.op : Int) == 30) = false ∧ ((invN x.op : Int) == 31) = true) := by
              rcases hcall with e | e <;> rw [e]
              · exact .inl rfl
              · exact .inr ⟨rfl, rfl⟩
            clear hcall
            rcases h3031 with h30 | ⟨h30, h31⟩
            · go_wp2_with fail
              refine (retarget_any (invN x.op) (invN_256 hop) x.a x.b x.c x.d _ _).mono ?_
              rintro e w6 ⟨rfl, hb6⟩
              have ix6 := ix5.mono hb6
              have q6 := below_step q5 q5.size hb6
              have own6 := own_below OWN5.out hb6
              have OWN6 := Lib.hid own6
              clear ix5 q5 hb6 OWN5 own5 c0 c1 c2 c3 c4 fz
              obtain ⟨c0, c1, c2, c3, c4, fz⟩ := id ix6
              have hrow : ∀ r, r < 5 → ∃ u, w6.cell? ⟨g, jn * 5 + r, none⟩ = some u := fun r hr => by
                have hl5 := own6.1
                exact ⟨(cellsL cur)[jn * 5 + r]'(by omega), by rw [own6.cellAt (jn * 5 + r) (by omega)]; exact List.getElem?_eq_getElem _⟩
              obtain ⟨v0, s0⟩ := hrow 0 (by omega)
              obtain ⟨v1, s1⟩ := hrow 1 (by omega)
              obtain ⟨v2, s2⟩ := hrow 2 (by omega)
              obtain ⟨v3, s3⟩ := hrow 3 (by omega)
              obtain ⟨v4, s4⟩ := hrow 4 (by omega)
              rw [Nat.add_zero] at s0
              have z0 := own6.frozenAt (jn * 5)
              have z1 := own6.frozenAt (jn * 5 + 1)
              have z2 := own6.frozenAt (jn * 5 + 2)
              have z3 := own6.frozenAt (jn * 5 + 3)
              have z4 := own6.frozenAt (jn * 5 + 4)
              clear hrow
              clear own6
              go_wp2
              have hbb : w1.heap.size ≤ w3.heap.size := by omega
              have hfin := inv_next hin HJN.out.symm hcl hcur.out.2.2 ⟨invN x.op, retA (invN x.op) x.a (l.length - 1 - l[tm].a), retB (invN x.op) x.b (l.length - 1 - l[tm].a), x.c, x.d⟩ hnew.out
              have hst := own_store (own_setOther (own_setOther (own_setOther (own_setOther (own_setOther OWN6.out w3.heap.size 0 (.int .u8 (⟨invN x.op, retA (invN x.op) x.a (l.length - 1 - l[tm].a), retB (invN x.op) x.b (l.length - 1 - l[tm].a), x.c, x.d⟩ : Ins).op) n1) w3.heap.size 1 (.int .i64 (⟨invN x.op, retA (invN x.op) x.a (l.length - 1 - l[tm].a), retB (invN x.op) x.b (l.length - 1 - l[tm].a), x.c, x.d⟩ : Ins).a) n1) w3.heap.size 2 (.int .i64 (⟨invN x.op, retA (invN x.op) x.a (l.length - 1 - l[tm].a), retB (invN x.op) x.b (l.length - 1 - l[tm].a), x.c, x.d⟩ : Ins).b) n1) w3.heap.size 3 (.int .i64 (⟨invN x.op, retA (invN x.op) x.a (l.length - 1 - l[tm].a), retB (invN x.op) x.b (l.length - 1 - l[tm].a), x.c, x.d⟩ : Ins).c) n1) w3.heap.size 4 (.int .i64 (⟨invN x.op, retA (invN x.op) x.a (l.length - 1 - l[tm].a), retB (invN x.op) x.b (l.length - 1 - l[tm].a), x.c, x.d⟩ : Ins).d) n1) ⟨invN x.op, retA (invN x.op) x.a (l.length - 1 - l[tm].a), retB (invN x.op) x.b (l.length - 1 - l[tm].a), x.c, x.d⟩ (by omega : jn < cur.length)
              have hbl := (((((((((q6.setCell (p := ⟨w3.heap.size, 0, none⟩) hbb (.int .u8 (⟨invN x.op, retA (invN x.op) x.a (l.length - 1 - l[tm].a), retB (invN x.op) x.b (l.length - 1 - l[tm].a), x.c, x.d⟩ : Ins).op)).setCell (p := ⟨w3.heap.size, 1, none⟩) hbb (.int .i64 (⟨invN x.op, retA (invN x.op) x.a (l.length - 1 - l[tm].a), retB (invN x.op) x.b (l.length - 1 - l[tm].a), x.c, x.d⟩ : Ins).a)).setCell (p := ⟨w3.heap.size, 2, none⟩) hbb (.int .i64 (⟨invN x.op, retA (invN x.op) x.a (l.length - 1 - l[tm].a), retB (invN x.op) x.b (l.length - 1 - l[tm].a), x.c, x.d⟩ : Ins).b)).setCell (p := ⟨w3.heap.size, 3, none⟩) hbb (.int .i64 (⟨invN x.op, retA (invN x.op) x.a (l.length - 1 - l[tm].a), retB (invN x.op) x.b (l.length - 1 - l[tm].a), x.c, x.d⟩ : Ins).c)).setCell (p := ⟨w3.heap.size, 4, none⟩) hbb (.int .i64 (⟨invN x.op, retA (invN x.op) x.a (l.length - 1 - l[tm].a), retB (invN x.op) x.b (l.length - 1 - l[tm].a), x.c, x.d⟩ : Ins).d)).setCell (p := ⟨g, jn * 5, none⟩) hgg (.int .u8 (⟨invN x.op, retA (invN x.op) x.a (l.length - 1 - l[tm].a), retB (invN x.op) x.b (l.length - 1 - l[tm].a), x.c, x.d⟩ : Ins).op)).setCell (p := ⟨g, jn * 5 + 1, none⟩) hgg (.int .i64 (⟨invN x.op, retA (invN x.op) x.a (l.length - 1 - l[tm].a), retB (invN x.op) x.b (l.length - 1 - l[tm].a), x.c, x.d⟩ : Ins).a)).setCell (p := ⟨g, jn * 5 + 2, none⟩) hgg (.int .i64 (⟨invN x.op, retA (invN x.op) x.a (l.length - 1 - l[tm].a), retB (invN x.op) x.b (l.length - 1 - l[tm].a), x.c, x.d⟩ : Ins).b)).setCell (p := ⟨g, jn * 5 + 3, none⟩) hgg (.int .i64 (⟨invN x.op, retA (invN x.op) x.a (l.length - 1 - l[tm].a), retB (invN x.op) x.b (l.length - 1 - l[tm].a), x.c, x.d⟩ : Ins).c)).setCell (p := ⟨g, jn * 5 + 4, none⟩) hgg (.int .i64 (⟨invN x.op, retA (invN x.op) x.a (l.length - 1 - l[tm].a), retB (invN x.op) x.b (l.length - 1 - l[tm].a), x.c, x.d⟩ : Ins).d)
              exact ⟨⟨k + 1, cur.set jn ⟨invN x.op, retA (invN x.op) x.a (l.length - 1 - l[tm].a), retB (invN x.op) x.b (l.length - 1 - l[tm].a), x.c, x.d⟩, by omega, by go_num, by have := HJN.out; congr 1; omega, ⟨hfin.1, hst, hfin.2⟩, hbl⟩, by simp [intOf]; omega⟩
            · go_wp2_with fail
              refine (retarget_any (invN x.op) (invN_256 hop) x.a x.b x.c x.d _ _).mono ?_
              rintro e w6 ⟨rfl, hb6⟩
              have ix6 := ix5.mono hb6
              have q6 := below_step q5 q5.size hb6
              have own6 := own_below OWN5.out hb6
              have OWN6 := Lib.hid own6
              clear ix5 q5 hb6 OWN5 own5 c0 c1 c2 c3 c4 fz
              obtain ⟨c0, c1, c2, c3, c4, fz⟩ := id ix6
              have hrow : ∀ r, r < 5 → ∃ u, w6.cell? ⟨g, jn * 5 + r, none⟩ = some u := fun r hr => by
                have hl5 := own6.1
                exact ⟨(cellsL cur)[jn * 5 + r]'(by omega), by rw [own6.cellAt (jn * 5 + r) (by omega)]; exact List.getElem?_eq_getElem _⟩
              obtain ⟨v0, s0⟩ := hrow 0 (by omega)
              obtain ⟨v1, s1⟩ := hrow 1 (by omega)
              obtain ⟨v2, s2⟩ := hrow 2 (by omega)
              obtain ⟨v3, s3⟩ := hrow 3 (by omega)
              obtain ⟨v4, s4⟩ := hrow 4 (by omega)
              rw [Nat.add_zero] at s0
              have z0 := own6.frozenAt (jn * 5)
              have z1 := own6.frozenAt (jn * 5 + 1)
              have z2 := own6.frozenAt (jn * 5 + 2)
              have z3 := own6.frozenAt (jn * 5 + 3)
              have z4 := own6.frozenAt (jn * 5 + 4)
              clear hrow
              clear own6
              go_wp2
              have hbb : w1.heap.size ≤ w3.heap.size := by omega
              have hfin := inv_next hin HJN.out.symm hcl hcur.out.2.2 ⟨invN x.op, retA (invN x.op) x.a (l.length - 1 - l[tm].a), retB (invN x.op) x.b (l.length - 1 - l[tm].a), x.c, x.d⟩ hnew.out
              have hst := own_store (own_setOther (own_setOther (own_setOther (own_setOther (own_setOther OWN6.out w3.heap.size 0 (.int .u8 (⟨invN x.op, retA (invN x.op) x.a (l.length - 1 - l[tm].a), retB (invN x.op) x.b (l.length - 1 - l[tm].a), x.c, x.d⟩ : Ins).op) n1) w3.heap.size 1 (.int .i64 (⟨invN x.op, retA (invN x.op) x.a (l.length - 1 - l[tm].a), retB (invN x.op) x.b (l.length - 1 - l[tm].a), x.c, x.d⟩ : Ins).a) n1) w3.heap.size 2 (.int .i64 (⟨invN x.op, retA (invN x.op) x.a (l.length - 1 - l[tm].a), retB (invN x.op) x.b (l.length - 1 - l[tm].a), x.c, x.d⟩ : Ins).b) n1) w3.heap.size 3 (.int .i64 (⟨invN x.op, retA (invN x.op) x.a (l.length - 1 - l[tm].a), retB (invN x.op) x.b (l.length - 1 - l[tm].a), x.c, x.d⟩ : Ins).c) n1) w3.heap.size 4 (.int .i64 (⟨invN x.op, retA (invN x.op) x.a (l.length - 1 - l[tm].a), retB (invN x.op) x.b (l.length - 1 - l[tm].a), x.c, x.d⟩ : Ins).d) n1) ⟨invN x.op, retA (invN x.op) x.a (l.length - 1 - l[tm].a), retB (invN x.op) x.b (l.length - 1 - l[tm].a), x.c, x.d⟩ (by omega : jn < cur.length)
              have hbl := (((((((((q6.setCell (p := ⟨w3.heap.size, 0, none⟩) hbb (.int .u8 (⟨invN x.op, retA (invN x.op) x.a (l.length - 1 - l[tm].a), retB (invN x.op) x.b (l.length - 1 - l[tm].a), x.c, x.d⟩ : Ins).op)).setCell (p := ⟨w3.heap.size, 1, none⟩) hbb (.int .i64 (⟨invN x.op, retA (invN x.op) x.a (l.length - 1 - l[tm].a), retB (invN x.op) x.b (l.length - 1 - l[tm].a), x.c, x.d⟩ : Ins).a)).setCell (p := ⟨w3.heap.size, 2, none⟩) hbb (.int .i64 (⟨invN x.op, retA (invN x.op) x.a (l.length - 1 - l[tm].a), retB (invN x.op) x.b (l.length - 1 - l[tm].a), x.c, x.d⟩ : Ins).b)).setCell (p := ⟨w3.heap.size, 3, none⟩) hbb (.int .i64 (⟨invN x.op, retA (invN x.op) x.a (l.length - 1 - l[tm].a), retB (invN x.op) x.b (l.length - 1 - l[tm].a), x.c, x.d⟩ : Ins).c)).setCell (p := ⟨w3.heap.size, 4, none⟩) hbb (.int .i64 (⟨invN x.op, retA (invN x.op) x.a (l.length - 1 - l[tm].a), retB (invN x.op) x.b (l.length - 1 - l[tm].a), x.c, x.d⟩ : Ins).d)).setCell (p := ⟨g, jn * 5, none⟩) hgg (.int .u8 (⟨invN x.op, retA (invN x.op) x.a (l.length - 1 - l[tm].a), retB (invN x.op) x.b (l.length - 1 - l[tm].a), x.c, x.d⟩ : Ins).op)).setCell (p := ⟨g, jn * 5 + 1, none⟩) hgg (.int .i64 (⟨invN x.op, retA (invN x.op) x.a (l.length - 1 - l[tm].a), retB (invN x.op) x.b (l.length - 1 - l[tm].a), x.c, x.d⟩ : Ins).a)).setCell (p := ⟨g, jn * 5 + 2, none⟩) hgg (.int .i64 (⟨invN x.op, retA (invN x.op) x.a (l.length - 1 - l[tm].a), retB (invN x.op) x.b (l.length - 1 - l[tm].a), x.c, x.d⟩ : Ins).b)).setCell (p := ⟨g, jn * 5 + 3, none⟩) hgg (.int .i64 (⟨invN x.op, retA (invN x.op) x.a (l.length - 1 - l[tm].a), retB (invN x.op) x.b (l.length - 1 - l[tm].a), x.c, x.d⟩ : Ins).c)).setCell (p := ⟨g, jn * 5 + 4, none⟩) hgg (.int .i64 (⟨invN x.op, retA (invN x.op) x.a (l.length - 1 - l[tm].a), retB (invN x.op) x.b (l.length - 1 - l[tm].a), x.c, x.d⟩ : Ins).d)
              exact ⟨⟨k + 1, cur.set jn ⟨invN x.op, retA (invN x.op) x.a (l.length - 1 - l[tm].a), retB (invN x.op) x.b (l.length - 1 - l[tm].a), x.c, x.d⟩, by omega, by go_num, by have := HJN.out; congr 1; omega, ⟨hfin.1, hst, hfin.2⟩, hbl⟩, by simp [intOf]; omega⟩
      · have hdone := Lib.hid (inv_done hcur.out.1 (fun m hm => hcur.out.2.2 m (by omega)))
        obtain ⟨A', c', e', hcode⟩ := code_of_own (l := cur) (by have := hcur.out.2.1; rw [← hcur.out.1] at this; exact this)
        have hr3 := hr1.mono hb
        obtain ⟨r0, r1, r2, rz⟩ := id hr3
        clear bc
        have q3 := below_step q1 q1.size hb
        obtain ⟨rfl, rfl⟩ : AC = A' ∧ cC = c' := by injection e' with e1 e2 e3; exact ⟨e1, e3⟩
        go_wp2
        refine bodyPost_ret (v := .tuple #[.agg #[.slice AC l.length cC, .int .i64 M, .int .i64 S], .int .i64 0]) (by simp [results, Tryd.results14, go_sem, r0, r1, r2]) rfl ?_
        refine .inl ⟨hok, AC, cC, rfl, ?_, ((q3.setCell (by simp) _).setCell (by simp) _).setCell (by simp) _⟩
        rw [← hdone.out]
        have hne : ∀ b o, AC = some ⟨b, o, none⟩ → 0 < cur.length → b ≠ w.heap.size + 1 := fun b o e hc => by
          obtain ⟨g, e2, hgg⟩ := HGC.out (by rw [← hcur.out.1]; exact hc)
          rw [e] at e2; injection e2 with e2; injection e2 with e2; subst e2
          have : w.heap.size + 1 < w1.heap.size := block_lt_of_cell hr1.r0
          omega
        exact ((hcode.set _ _ _ hne).set _ _ _ hne).set _ _ _ hne

end Go.Proofs.YthakiaicnhkfjaaDoor
