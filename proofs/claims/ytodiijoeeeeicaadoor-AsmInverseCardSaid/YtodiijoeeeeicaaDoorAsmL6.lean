/-
  AsmInverse: the walk.
-/
import Derived.Test.YtodiijoeeeeicaaDoorAsmL9
namespace Go.Proofs.YtodiijoeeeeicaaDoor
open Go.ChangeShapes Go.WideShapes Go.ChangeAt Go.RowKit Go.Sort

def invI (x : Ins) : Ins := { x with op := invN x.op }
theorem invI_val {x : Ins} (h : vIns x = true) : vIns (invI x) = true := by
  unfold vIns at h ⊢
  unfold invI
  rw [valid_invN]; exact h
theorem inv_all {l : List Ins} (h : ∀ x ∈ l, vIns x = true ∧ FitI x) : ∀ x ∈ l.map invI, vIns x = true ∧ FitI x := by
  intro x hx
  obtain ⟨y, hy, rfl⟩ := List.mem_map.1 hx
  exact ⟨invI_val (h y hy).1, (h y hy).2⟩
theorem invI_op {x : Ins} (h : x.op < 256) : (invI x).op < 256 := invN_256 h
theorem inv_bytes {l : List Ins} (h : Bytes l) : Bytes (l.map invI) := fun k x hk => by
  rw [List.getElem?_map] at hk
  obtain ⟨y, hy, rfl⟩ := Option.map_eq_some_iff.1 hk
  exact invI_op (h k y hy)
theorem own_set5 {w : World} {B g n cap : Nat} {T : TypeId} {l : List Ins} (h : w.ownsRow B T 5 (.slice (some ⟨g, 0, none⟩) n cap) n (cellsL l)) {k : Nat} (hk : k < l.length) (y : Ins) :
    (((((w.setCell ⟨g, k * 5, none⟩ (.int .u8 y.op)).setCell ⟨g, k * 5 + 1, none⟩ (.int .i64 y.a)).setCell ⟨g, k * 5 + 2, none⟩ (.int .i64 y.b)).setCell ⟨g, k * 5 + 3, none⟩ (.int .i64 y.c)).setCell ⟨g, k * 5 + 4, none⟩ (.int .i64 y.d)).ownsRow B T 5 (.slice (some ⟨g, 0, none⟩) n cap) n (cellsL (l.set k y)) := by
  have h1 := (h.stored (k * 5) (.int .u8 y.op)).1
  have h2 := (h1.stored (k * 5 + 1) (.int .i64 y.a)).1
  have h3 := (h2.stored (k * 5 + 2) (.int .i64 y.b)).1
  have h4 := (h3.stored (k * 5 + 3) (.int .i64 y.c)).1
  have h5 := (h4.stored (k * 5 + 4) (.int .i64 y.d)).1
  rw [← cellsL_set l k y hk]
  exact h5
theorem own_set5f {w : World} {B g n cap : Nat} {T : TypeId} {l l' : List Ins} (h : w.ownsRow B T 5 (.slice (some ⟨g, 0, none⟩) n cap) n (cellsL l)) {k : Nat} (hk : k < l.length) (o : Nat) (a b c d : Int) (he : l.set k ⟨o, a, b, c, d⟩ = l') :
    (((((w.setCell ⟨g, k * 5, none⟩ (.int .u8 o)).setCell ⟨g, k * 5 + 1, none⟩ (.int .i64 a)).setCell ⟨g, k * 5 + 2, none⟩ (.int .i64 b)).setCell ⟨g, k * 5 + 3, none⟩ (.int .i64 c)).setCell ⟨g, k * 5 + 4, none⟩ (.int .i64 d)).ownsRow B T 5 (.slice (some ⟨g, 0, none⟩) n cap) n (cellsL l') := by
  rw [← he]
  exact own_set5 h hk ⟨o, a, b, c, d⟩
theorem below_setk {B : Nat} {a w : World} (h : Below B a w) {b : Nat} (hb : B ≤ b) (o0 o1 o2 o3 o4 : Nat) (v0 v1 v2 v3 v4 : Value) : Below B a (((((w.setCell ⟨b, o0, none⟩ v0).setCell ⟨b, o1, none⟩ v1).setCell ⟨b, o2, none⟩ v2).setCell ⟨b, o3, none⟩ v3).setCell ⟨b, o4, none⟩ v4) :=
  ((((h.setCell (p := ⟨b, o0, none⟩) hb v0).setCell (p := ⟨b, o1, none⟩) hb v1).setCell (p := ⟨b, o2, none⟩) hb v2).setCell (p := ⟨b, o3, none⟩) hb v3).setCell (p := ⟨b, o4, none⟩) hb v4
theorem own_some {w : World} {B n cap : Nat} {T : TypeId} {A : Option Addr} {xs : List Value} (h : w.ownsRow B T 5 (.slice A n cap) n xs) {k : Nat} (hk : k < n) : ∃ g, A = some ⟨g, 0, none⟩ ∧ B ≤ g := by
  rcases id h.2 with ⟨e, h0⟩ | ⟨g, cap', cur, e, hg, _⟩
  · omega
  · cases e
    exact ⟨g, rfl, hg⟩
theorem own_inst {w : World} {B g n cap : Nat} {T : TypeId} {l : List Ins} (h : w.ownsRow B T 5 (.slice (some ⟨g, 0, none⟩) n cap) n (cellsL l)) (hl : l.length = n) {k : Nat} {x : Ins} (hk : l[k]? = some x) : InsO w g (k * 5) x := by
  have hkl := (List.getElem?_eq_some_iff.1 hk).1
  have hget : ∀ r, r < 5 → w.cell? ⟨g, k * 5 + r, none⟩ = x.five[r]? := fun r hr => by
    rw [h.cellAt (k * 5 + r) (by omega)]
    exact cellsL_get l k r x hk hr
  exact ⟨hget 0 (by omega), hget 1 (by omega), hget 2 (by omega), hget 3 (by omega), hget 4 (by omega)⟩
theorem inv_back_op {x : Ins} (h : x.op < 256) : (invI x).op < 256 := invN_256 h
theorem inv_back (x : Ins) : (⟨invN (invI x).op, (invI x).a, (invI x).b, (invI x).c, (invI x).d⟩ : Ins) = x := by
  show (⟨invN (invN x.op), x.a, x.b, x.c, x.d⟩ : Ins) = x
  rw [invN_invN]
/-- The row when k instructions are turned back. -/
def upd (l m : List Ins) (k : Nat) : List Ins := l.take k ++ m.drop k
theorem upd_len {l m : List Ins} (h : m.length = l.length) {k : Nat} (hk : k ≤ l.length) : (upd l m k).length = l.length := by unfold upd; simp; omega
theorem upd_get {l m : List Ins} (_h : m.length = l.length) {k : Nat} (hk : k < l.length) : (upd l m k)[k]? = m[k]? := by
  unfold upd
  rw [List.getElem?_append_right (by simp; omega), List.getElem?_drop]
  congr 1
  simp; omega
theorem upd_set {l m : List Ins} (h : m.length = l.length) {k : Nat} (hk : k < l.length) : (upd l m k).set k l[k] = upd l m (k + 1) := by
  apply List.ext_getElem?
  intro j
  rw [List.getElem?_set]
  by_cases e : k = j
  · subst e
    rw [if_pos rfl, if_pos (by rw [upd_len h (by omega)]; exact hk)]
    unfold upd
    rw [List.getElem?_append_left (by simp; omega), List.getElem?_take, if_pos (by omega), List.getElem?_eq_getElem hk]
  · rw [if_neg e]
    unfold upd
    by_cases hj : j < k
    · rw [List.getElem?_append_left (by simp; omega), List.getElem?_append_left (by simp; omega), List.getElem?_take, List.getElem?_take, if_pos hj, if_pos (by omega)]
    · rw [List.getElem?_append_right (by simp; omega), List.getElem?_append_right (by simp; omega), List.getElem?_drop, List.getElem?_drop]
      congr 1
      simp; omega
theorem upd_all {l m : List Ins} (h : m.length = l.length) : upd l m l.length = l := by
  unfold upd
  rw [List.take_length, List.drop_of_length_le (by omega), List.append_nil]
theorem code_of_ownA {w : World} {base : Nat} {e : TypeId} {A : Option Addr} {c : Nat} {l : List Ins} (h : w.ownsRow base e 5 (.slice A l.length c) l.length (cellsL l)) : CodeAt w A l := by
  obtain ⟨A', c', e', hc⟩ := code_of_own h
  cases e'
  exact hc
set_option maxRecDepth 100000 in
set_option maxHeartbeats 4000000 in
theorem asmInverse_walk (l : List Ins) (A : Option Addr) (cap : Nat) (w : World) (hC : CodeAt w A l) (hl : l.length ≤ 9223372036854775807) (hY : Bytes l) (hF : ∀ x ∈ l, FitI x) (hT : Tab w) (hS : TabS w) (hW : Wld w) :
    Calls Tryd.prog 8 #[.slice A l.length cap] w fun e w' => e = .returned (.bool true) ∧ Below w.heap.size w w' := by
  have HAW := Lib.hid (awake_any w hT hS hW)
  have HTS := Lib.hid (And.intro hT (And.intro hS hW))
  have HL := Lib.hid hC
  have HY := Lib.hid hY
  have HF := Lib.hid hF
  obtain ⟨i0, hi0, hz0, hz1, hz2⟩ := info_parts info_ins
  have HI := Lib.hid (And.intro hi0 (And.intro hz0 (And.intro hz1 hz2)))
  clear hi0 hz0 hz1 hz2
  clear hT hS hW hC hY hF
  go_enter Tryd.func8, Tryd.ntmps8
  go_wp2_with fail
  refine HAW.out.mono ?_
  rintro e W1 ⟨rfl, hb1⟩
  have q1 := Lib.hid hb1
  clear hb1 HAW
  by_cases h40 : 40 < l.length
  · have h40' : (40 : Int) < l.length := by omega
    go_wp2_with fail
    go_ret
    exact ⟨rfl, q1.out⟩
  have h40' : (l.length : Int) ≤ 40 := by omega
  have HFM := Lib.hid (format_any l A cap W1 (HL.out.mono q1.out) HY.out HF.out (HTS.out.1.mono q1.out) (HTS.out.2.1.mono q1.out) (HTS.out.2.2.below q1.out) (by omega))
  have H40 := Lib.hid (show l.length ≤ 40 by omega)
  clear hl h40
  go_wp2_with fail
  refine HFM.out.mono ?_
  rintro e W2 ⟨rfl, hb2⟩
  have q2 := Lib.hid (below_step q1.out q1.out.size hb2)
  clear hb2 HFM
  by_cases hk0 : checkA l = 0
  rotate_left
  · rw [if_neg hk0]
    have hne : (checkA l != 0) = true := bne_iff_ne.2 hk0
    generalize checkA l = ce at *
    go_wp2_with fail
    go_ret
    exact ⟨rfl, q2.out⟩
  have HV := Lib.hid (chk_fit hk0 HF.out)
  have HC0 := Lib.hid hk0
  rw [if_pos hk0, hk0]
  have H0 := Lib.hid (show WI w.heap.size w W2 (.slice none 0 0) ((l.take 0).map invI) from ⟨q2.out, World.ownsRow_nil _ _ _ _⟩)
  clear hk0
  go_wp2_with fail
  go_loopw [5, 6] (fun v i wr => ∃ k : Nat, k ≤ l.length ∧ i = .int .i64 k ∧ Hid (WI w.heap.size w wr v ((l.take k).map invI))) (fun _ i _ => l.length - (intOf i).toNat)
  case atStart => exact ⟨0, by omega, rfl, H0⟩
  case round =>
    obtain ⟨k, hk, rfl, hw⟩ := hrel
    by_cases hin : k < l.length
    · obtain ⟨b, o, rfl, hi⟩ := (HL.out.mono hw.out.1).at_ hin
      have hop := HY.out.at_ hin
      have HTK := Lib.hid (show (l.take (k + 1)).map invI = (l.take k).map invI ++ [invI l[k]] by rw [List.take_succ_eq_append_getElem hin, List.map_append]; rfl)
      have hlt := hi.lt
      obtain ⟨c0, c1, c2, c3, c4⟩ := id hi
      have htl : ((l.take k).map invI).length = k := by rw [List.length_map, List.length_take]; omega
      generalize l[k] = x at *
      have r1 : (0 : Int) ≤ k := by omega
      have r2 : (k : Int) < l.length := by omega
      have HIV := Lib.hid (inverse_any x.op hop x.a x.b x.c x.d wr)
      clear hi
      go_wp2_with fail
      refine HIV.out.mono ?_
      rintro e w3 ⟨rfl, hb3⟩
      have hW3 := Lib.hid (hw.out.below hw.out.1.size hb3)
      clear hb3 c0 c1 c2 c3 c4 hlt hw HIV
      have hsz5 := hW3.out.1.size
      have HO := Lib.hid (hW3.out.below hsz5 (below_box w3 (Obj.cells #[.int .u8 (invN x.op), .int .i64 x.a, .int .i64 x.b, .int .i64 x.c, .int .i64 x.d] 43)))
      have hs6 := HO.out.1.size
      go_wp2_with (at_builtin; go_loud (refine wpList_app _ rfl _ _ 22 rfl w.heap.size 43 i0 (.agg #[.int .u8 0, .int .i64 0, .int .i64 0, .int .i64 0, .int .i64 0]) 5 40 Tryd.underlying22 HI.out.1 HI.out.2.1 HI.out.2.2.1 HI.out.2.2.2 rfl (by decide) _ _ _ rfl HO.out.2 (some ⟨w3.heap.size, 0, none⟩) 1 1 [.int .u8 (invN x.op), .int .i64 x.a, .int .i64 x.b, .int .i64 x.c, .int .i64 x.d] rfl rfl (cells_newU w3 rfl _ _) (one_ins (invI x)) (by have := H40.out; unfold maxLen; omega) (by have := H40.out; omega) hs6 ?_; intro v' w6 hown' hgrow _; have NX := Lib.hid (HO.out.push hs6 (invI x) hgrow hown'); clear hown' hgrow HO hs6))
      exact ⟨⟨k + 1, by omega, by go_num, by rw [HTK.out]; exact NX⟩, by simp [intOf]; omega⟩
    · obtain rfl : k = l.length := by omega
      obtain ⟨wo, rfl⟩ : ∃ wo, wo = wr := ⟨_, rfl⟩
      rw [List.take_length] at hw
      obtain ⟨m, hm⟩ : ∃ m, m = l.map invI := ⟨_, rfl⟩
      rw [← hm] at hw
      have hml : m.length = l.length := by rw [hm]; exact List.length_map _
      have HVI : Hid (∀ x ∈ m, vIns x = true ∧ FitI x) := Lib.hid (by rw [hm]; exact inv_all HV.out)
      have HYM : Hid (Bytes m) := Lib.hid (by rw [hm]; exact inv_bytes HY.out)
      have HMG : Hid (∀ (k : Nat) (hk : k < l.length), m[k]? = some (invI l[k])) := Lib.hid (by intro k hk; rw [hm, List.getElem?_map, List.getElem?_eq_getElem hk]; rfl)
      clear hm
      obtain ⟨A5, c5, rfl, hcode5⟩ := code_of_own hw.out.2
      have q5 := Lib.hid hw.out.1
      have HFI := Lib.hid (format_any m A5 c5 wo hcode5 HYM.out (fun x hx => (HVI.out x hx).2) (HTS.out.1.mono q5.out) (HTS.out.2.1.mono q5.out) (HTS.out.2.2.below q5.out) (by have := H40.out; omega))
      have HSM := Lib.hid (fmtA_small HVI.out (by have := H40.out; omega))
      have HPE := Lib.hid (parseA_fmt HVI.out (by have := H40.out; omega))
      have HCK := Lib.hid (checkA_ok HVI.out (by have := H40.out; omega))
      clear hw hcode5
      unfold RetF at HFI
      rw [HCK.out, if_pos rfl, hml] at HFI
      rw [hml]
      go_wp2_with fail
      refine HFI.out.mono ?_
      rintro e W6 ⟨rfl, hb6⟩
      have q6 := Lib.hid (below_step q5.out q5.out.size hb6)
      have HPI := Lib.hid (parse_any (fmtA m) W6 (by have := HSM.out; omega) (HTS.out.1.mono q6.out) (HTS.out.2.1.mono q6.out) (HTS.out.2.2.below q6.out))
      clear hb6 HFI
      unfold RetPA at HPI
      rw [HPE.out] at HPI
      go_wp2_with fail
      refine HPI.out.mono ?_
      rintro e W7 ⟨v7, rfl, hw7, _⟩
      have q7 := Lib.hid (below_step q6.out q6.out.size hw7.1)
      have hW7 := Lib.hid (And.intro q6.out.size hw7)
      clear HPI hw7
      obtain ⟨A7, c7, rfl, _⟩ := code_of_own hW7.out.2.2
      rw [hml]
      have H7 := Lib.hid (show Below W6.heap.size W6 W7 ∧ W7.ownsRow W6.heap.size 43 5 (.slice A7 l.length c7) l.length (cellsL (upd l m 0)) from by
        have := hW7.out.2
        unfold WI at this
        rw [hml] at this
        exact this)
      clear hW7
      go_wp2_with fail
      go_loopw [12] (fun i wr => ∃ k : Nat, k ≤ l.length ∧ i = .int .i64 k ∧ Hid (Below W6.heap.size W6 wr ∧ wr.ownsRow W6.heap.size 43 5 (.slice A7 l.length c7) l.length (cellsL (upd l m k)))) (fun i _ => l.length - (intOf i).toNat)
      case atStart => exact ⟨0, by omega, rfl, H7⟩
      case round =>
        obtain ⟨k, hk2, rfl, hw⟩ := hrel
        by_cases hin2 : k < l.length
        · obtain ⟨g, rfl, hg⟩ := own_some hw.out.2 hin2
          have hget := (HMG.out k hin2)
          have hil := own_inst hw.out.2 (upd_len hml hk2) (by rw [upd_get hml hin2]; exact hget)
          have hop := inv_back_op (HY.out.at_ hin2)
          have HBK := Lib.hid (inv_back (l[k]))
          have HUS := Lib.hid (upd_set hml hin2)
          generalize invI l[k] = z at hil hop HBK
          clear hget
          have HIV := Lib.hid (inverse_any z.op hop z.a z.b z.c z.d wr)
          have hilt := hil.lt
          have hHI := Lib.hid hil
          obtain ⟨c0, c1, c2, c3, c4⟩ := id hil
          have r1 : (0 : Int) ≤ k := by omega
          have r2 : (k : Int) < l.length := by omega
          clear hil
          go_wp2_with fail
          refine HIV.out.mono ?_
          rintro e w8 ⟨rfl, hb8⟩
          have hw8 := Lib.hid (And.intro (below_step hw.out.1 hw.out.1.size hb8) (own_below hw.out.2 hb8))
          obtain ⟨d0, d1, d2, d3, d4⟩ := hHI.out.mono hb8
          have z0 := hw8.out.2.frozenAt (k * 5)
          have z1 := hw8.out.2.frozenAt (k * 5 + 1)
          have z2 := hw8.out.2.frozenAt (k * 5 + 2)
          have z3 := hw8.out.2.frozenAt (k * 5 + 3)
          have z4 := hw8.out.2.frozenAt (k * 5 + 4)
          clear c0 c1 c2 c3 c4 hb8 hHI HIV hw
          have HST := Lib.hid (own_set5f hw8.out.2 (show k < (upd l m k).length by rw [upd_len hml hk2]; exact hin2) (invN z.op) z.a z.b z.c z.d (show (upd l m k).set k _ = upd l m (k + 1) by rw [HBK.out, HUS.out]))
          have HBS := Lib.hid (below_setk hw8.out.1 hg (k * 5) (k * 5 + 1) (k * 5 + 2) (k * 5 + 3) (k * 5 + 4) (.int .u8 (invN z.op)) (.int .i64 z.a) (.int .i64 z.b) (.int .i64 z.c) (.int .i64 z.d))
          go_wp2_with fail
          refine ⟨⟨k + 1, by omega, by go_num, ?_⟩, ?_⟩
          · exact Lib.hid (And.intro HBS.out HST.out)
          · clear HBS HST z0 z1 z2 z3 z4 d0 d1 d2 d3 d4
            show l.length - ((k : Int) + 1).toNat < l.length - ((k : Int)).toNat
            omega
        · obtain rfl : k = l.length := by omega
          have hu := upd_all hml
          have hcode := code_of_ownA (l := upd l m l.length) (by rw [upd_len hml (Nat.le_refl _)]; exact hw.out.2)
          rw [hu] at hcode
          have qf := Lib.hid (below_step q6.out q6.out.size hw.out.1)
          have HFF := Lib.hid (format_any l A7 c7 wr hcode HY.out HF.out (HTS.out.1.mono qf.out) (HTS.out.2.1.mono qf.out) (HTS.out.2.2.below qf.out) (by have := H40.out; omega))
          unfold RetF at HFF
          rw [HC0.out, if_pos rfl] at HFF
          clear hw hcode hu
          go_wp2_with fail
          refine HFF.out.mono ?_
          rintro e W9 ⟨rfl, hb9⟩
          have q9 := Lib.hid (below_step qf.out qf.out.size hb9)
          clear hb9
          go_wp2_with fail
          go_ret
          exact ⟨by simp, q9.out⟩

end Go.Proofs.YtodiijoeeeeicaaDoor
