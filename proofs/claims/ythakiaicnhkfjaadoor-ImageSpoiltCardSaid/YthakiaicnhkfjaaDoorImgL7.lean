/-
  The walk of the law ImageSpoilt.
-/
import Derived.Test.YthakiaicnhkfjaaDoorImgAppend
import Derived.Test.YthakiaicnhkfjaaDoorImgSpoilM
namespace Go.Proofs.YthakiaicnhkfjaaDoor
open Go.ChangeShapes Go.WideShapes Go.ChangeAt Go.RowKit Go.Sort

theorem bytes_set {l : List Ins} (hY : Bytes l) (i : Nat) : Bytes (l.set i nopI) := fun k x hk => by
  by_cases e : i = k
  · subst e
    have hkl := (List.getElem?_eq_some_iff.1 hk).1
    rw [List.getElem?_set_self (by simpa using hkl)] at hk
    have := Option.some.inj hk
    rw [← this]; decide
  · rw [List.getElem?_set_ne e] at hk; exact hY k x hk
theorem ResAt.put {w : World} {b g o : Nat} {u0 u1 u2 : Value} (h : ResAt w b u0 u1 u2) (hne : b ≠ g) (v0 v1 v2 v3 v4 : Value) : ResAt (((((w.setCell ⟨g, o, none⟩ v0).setCell ⟨g, o + 1, none⟩ v1).setCell ⟨g, o + 2, none⟩ v2).setCell ⟨g, o + 3, none⟩ v3).setCell ⟨g, o + 4, none⟩ v4) b u0 u1 u2 :=
  ((((h.setOther _ _ _ hne).setOther _ _ _ hne).setOther _ _ _ hne).setOther _ _ _ hne).setOther _ _ _ hne
theorem BadAt.put {W wc : World} {nb g c : Nat} {M S : Int} {l : List Ins} (h : BadAt W wc nb (some ⟨g, 0, none⟩) c M S l) (y : Ins) {i : Nat} (hi : i < l.length) :
    BadAt W (((((wc.setCell ⟨g, i * 5, none⟩ (.int .u8 y.op)).setCell ⟨g, i * 5 + 1, none⟩ (.int .i64 y.a)).setCell ⟨g, i * 5 + 2, none⟩ (.int .i64 y.b)).setCell ⟨g, i * 5 + 3, none⟩ (.int .i64 y.c)).setCell ⟨g, i * 5 + 4, none⟩ (.int .i64 y.d)) nb (some ⟨g, 0, none⟩) c M S (l.set i y) := by
  have hg : W.heap.size ≤ g := (own_lt h.own).2
  have hne := h.ne g rfl
  refine ⟨((((h.hb.setCell hg _).setCell hg _).setCell hg _).setCell hg _).setCell hg _, ?_, ?_, h.ge, fun g' hg' => ?_⟩
  · rw [List.length_set]; exact h.bx.put (Ne.symm hne) _ _ _ _ _
  · rw [List.length_set]; exact own_store h.own y hi
  · have : g' = g := by simpa [Value.ownBlock] using hg'.symm
    rw [this]; exact hne

set_option maxRecDepth 100000 in
set_option maxHeartbeats 4000000 in
theorem imageSpoilt_walk (l : List Ins) (A : Option Addr) (cap : Nat) (M S : Int) (pick : Nat) (hpick : pick < 256) (w : World) (hC : CodeAt w A l) (hY : Bytes l) (hl63 : l.length ≤ 9223372036854775807) (hT : Tab w) :
    Calls Tryd.prog 8 #[.agg #[.slice A l.length cap, .int .i64 M, .int .i64 S], .int .u8 pick] w fun e w' => e = .returned (.bool true) ∧ Below w.heap.size w w' := by
  obtain ⟨i0, hi, hz0, hz1, hz2⟩ := info_parts info_ins
  have HI := Lib.hid (And.intro hi (And.intro hz0 (And.intro hz1 hz2)))
  clear hi hz0 hz1 hz2
  have hbW := below_box w (Obj.cells #[.slice A l.length cap, .int .i64 M, .int .i64 S] 24)
  have im := imgAt_box w 24 A cap M S l hC
  have HT := Lib.hid (hT.mono hbW)
  clear hC hT
  go_enter Tryd.func8, Tryd.ntmps8
  go_wp2_with fail
  generalize w.alloc _ = W at hbW im HT ⊢
  refine (awake23_any _ HT.out).mono ?_
  rintro e w1 ⟨rfl, hb1⟩
  have im1 := im.mono hb1
  have HT1 := Lib.hid (HT.out.mono hb1)
  have q1 := below_step hbW hbW.size hb1
  clear im HT hbW hb1
  obtain ⟨b0, b1, b2, bc⟩ := id im1
  clear bc
  go_wp2_with fail
  refine (great_any l _ _ _ _ _ hl63).mono ?_
  rintro e w2 ⟨rfl, hb2⟩
  have im2 := im1.mono hb2
  have HT2 := Lib.hid (HT1.out.mono hb2)
  have q2 := below_step q1 q1.size hb2
  clear im1 HT1 q1 hb2 b0 b1 b2
  obtain ⟨b0, b1, b2, bc⟩ := id im2
  clear bc
  by_cases h80 : 80 < l.length
  · have g80 : decide (80 < l.length) = true := by simpa using h80
    go_wp2
    go_ret
    exact ⟨rfl, q2⟩
  have g80 : decide (80 < l.length) = false := by simpa using h80
  have hl : l.length ≤ 1000000 := by omega
  by_cases h0 : l.length = 0
  · have e0 : ((l.length : Int) == 0) = true := by rw [h0]; rfl
    go_wp2
    go_ret
    exact ⟨rfl, q2⟩
  have e0 : ((l.length : Int) == 0) = false := beq_eq_false_iff_ne.2 (by omega)
  go_wp2_with fail
  refine (ivalid_any l _ _ _ _ _ im2.code hY HT2.out hl).mono ?_
  rintro e w3 ⟨rfl, hb3⟩
  have im3 := im2.mono hb3
  have HT3 := Lib.hid (HT2.out.mono hb3)
  have q3 := below_step q2 q2.size hb3
  clear im2 HT2 q2 hb3 b0 b1 b2
  obtain ⟨b0, b1, b2, bc⟩ := id im3
  clear bc
  by_cases hok : okImg l M S = true
  rotate_left
  · have hok' : okImg l M S = false := by simpa using hok
    clear hok
    go_wp2
    go_ret
    exact ⟨rfl, q3⟩
  obtain ⟨hsz, hst⟩ := ok_iff.1 hok
  have hn16 : l.length ≤ 65536 := by simp [sizesB] at hsz; omega
  have HSZ := Lib.hid hsz
  have HST := Lib.hid hst
  clear hsz hst
  clear e0
  have hnz : (l.length : Int) ≠ 0 := by omega
  obtain ⟨b, o, rfl, _⟩ := im3.code.at_ (k := 0) (by omega)
  go_wp2_with fail
  have ei : (pick : Int) % l.length = ((pick % l.length : Nat) : Int) := by simp
  rw [ei]
  have hil : pick % l.length < l.length := Nat.mod_lt _ (by omega)
  generalize pick % l.length = i at hil ⊢
  clear ei
  refine (partner_any l _ _ _ _ _ _ im3.code hY HT3.out hl).mono ?_
  rintro e w4 ⟨rfl, hb4⟩
  have im4 := im3.mono hb4
  have HT4 := Lib.hid (HT3.out.mono hb4)
  have q4 := below_step q3 q3.size hb4
  clear im3 HT3 q3 hb4 b0 b1 b2
  obtain ⟨b0, b1, b2, bc⟩ := id im4
  clear bc
  go_wp2_with fail
  have KB := Lib.hid (show ∀ w' : World, Below w4.heap.size w4 w' → (w'.cell? ⟨w.heap.size, 0, none⟩ = some (.slice (some ⟨b, o, none⟩) l.length cap) ∧ w'.cell? ⟨w.heap.size, 1, none⟩ = some (.int .i64 M) ∧ w'.cell? ⟨w.heap.size, 2, none⟩ = some (.int .i64 S)) from fun w' hb => ⟨(im4.mono hb).b0, (im4.mono hb).b1, (im4.mono hb).b2⟩)
  have SRC := Lib.hid (show ∀ (w' : World), Below w4.heap.size w4 w' → ∀ (j : Nat) (u : Value), (cellsL l)[j]? = some u → w'.cell? ((⟨b, o, none⟩ : Addr).add j) = some u from fun w' hb => code_src (im4.mono hb).code rfl)
  have hbP := Below.refl w4.heap.size w4
  go_cut [8] (fun v wc => ∃ nb A8 c8, v = .pointer (some ⟨nb, 0, none⟩) ∧ Hid (BadAt w4 wc nb A8 c8 M S l))
  case first =>
    go_region_held3 (fun w' => w'.cell? ⟨w.heap.size, 0, none⟩ = some (.slice (some ⟨b, o, none⟩) l.length cap) ∧ w'.cell? ⟨w.heap.size, 1, none⟩ = some (.int .i64 M) ∧ w'.cell? ⟨w.heap.size, 2, none⟩ = some (.int .i64 S))
      ((refine KB.out _ ?_; repeat first | exact hbP | refine belowDrawn ?_ | refine Below.setCell ?_ (by first | exact Nat.le_refl _ | exact Nat.le_succ _ | exact hbP.size) _ | refine Below.alloc ?_ (by first | exact Nat.le_refl _ | exact hbP.size | simp) _))
      (first | (refine step_append_own rfl (.tmp 39) (.tmp 41) 22 rfl 38 i0 (.agg #[.int .u8 0, .int .i64 0, .int .i64 0, .int .i64 0, .int .i64 0]) 5 40 Tryd.underlying22 HI.out.1 HI.out.2.1 HI.out.2.2.1 HI.out.2.2.2 rfl (by decide) w4.heap.size (.slice (some ⟨w4.heap.size, 0, none⟩) 0 0) 0 [] (by simp [Act.eval]) (own_empty1 w4) ⟨b, o, none⟩ l.length cap (cellsL l) (by simp [Act.eval]) (cellsL_length l) (SRC.out _ ((belowDrawn ((Below.refl _ w4).alloc (Nat.le_refl _) (Obj.cells #[] 38))))) (cellsL_one l) (by unfold maxLen; omega) (by omega) ((belowDrawn ((Below.refl _ w4).alloc (Nat.le_refl _) (Obj.cells #[] 38))).size) ?_; intro v' w8 hown' hgrow hat; simp only [Nat.zero_add, List.nil_append] at hown'; obtain ⟨A8, c8, rfl, _, _⟩ := own_form hown'; have hbP : Below w4.heap.size w4 w8 := ((belowDrawn ((Below.refl _ w4).alloc (Nat.le_refl _) (Obj.cells #[] 38)))).grown hgrow ((belowDrawn ((Below.refl _ w4).alloc (Nat.le_refl _) (Obj.cells #[] 38))).size) (own_block_ge (own_empty1 w4)); have HOW := Lib.hid hown'; clear hown' hgrow hat) | (refine step_append_own rfl (.tmp 39) (.tmp 41) 22 rfl 38 i0 (.agg #[.int .u8 0, .int .i64 0, .int .i64 0, .int .i64 0, .int .i64 0]) 5 40 Tryd.underlying22 HI.out.1 HI.out.2.1 HI.out.2.2.1 HI.out.2.2.2 rfl (by decide) w4.heap.size (.slice (some ⟨w4.heap.size, 0, none⟩) 0 0) 0 [] (by simp [Act.eval]) (own_empty2 w4 (Obj.cells #[.slice none 0 0, .int .i64 0, .int .i64 0] 24)) ⟨b, o, none⟩ l.length cap (cellsL l) (by simp [Act.eval]) (cellsL_length l) (SRC.out _ ((belowDrawn (((Below.refl _ w4).alloc (Nat.le_refl _) (Obj.cells #[] 38)).alloc (by simp) (Obj.cells #[.slice none 0 0, .int .i64 0, .int .i64 0] 24))))) (cellsL_one l) (by unfold maxLen; omega) (by omega) ((belowDrawn (((Below.refl _ w4).alloc (Nat.le_refl _) (Obj.cells #[] 38)).alloc (by simp) (Obj.cells #[.slice none 0 0, .int .i64 0, .int .i64 0] 24))).size) ?_; intro v' w8 hown' hgrow hat; simp only [Nat.zero_add, List.nil_append] at hown'; obtain ⟨A8, c8, rfl, _, _⟩ := own_form hown'; have hbP : Below w4.heap.size w4 w8 := ((belowDrawn (((Below.refl _ w4).alloc (Nat.le_refl _) (Obj.cells #[] 38)).alloc (by simp) (Obj.cells #[.slice none 0 0, .int .i64 0, .int .i64 0] 24)))).grown hgrow ((belowDrawn (((Below.refl _ w4).alloc (Nat.le_refl _) (Obj.cells #[] 38)).alloc (by simp) (Obj.cells #[.slice none 0 0, .int .i64 0, .int .i64 0] 24))).size) (own_block_ge (own_empty2 w4 (Obj.cells #[.slice none 0 0, .int .i64 0, .int .i64 0] 24))); have HOW := Lib.hid hown'; have hrs : ResAt w8 (w4.heap.size + 1) (.slice none 0 0) (.int .i64 0) (.int .i64 0) := ResAt.grown (by constructor <;> simp [go_sem]) hgrow (by simp [Value.ownBlock]); have HNE := Lib.hid (show ∀ g, (Value.slice A8 l.length c8).ownBlock = some g → g ≠ w4.heap.size + 1 from fun g hg => (by rcases hat with h | h <;> rw [h] at hg <;> simp [Value.ownBlock] at hg <;> omega)); obtain ⟨r0, r1, r2, rz⟩ := id hrs; have rz0 := rz 0; have rz1 := rz 1; have rz2 := rz 2; clear hown' hgrow hat) | (refine step_append_own rfl (.tmp 39) (.tmp 41) 22 rfl 38 i0 (.agg #[.int .u8 0, .int .i64 0, .int .i64 0, .int .i64 0, .int .i64 0]) 5 40 Tryd.underlying22 HI.out.1 HI.out.2.1 HI.out.2.2.1 HI.out.2.2.2 rfl (by decide) w4.heap.size (.slice (some ⟨w4.heap.size + 1, 0, none⟩) 0 0) 0 [] (by simp [Act.eval]) (own_empty3 w4 (Obj.cells #[.slice none 0 0, .int .i64 0, .int .i64 0] 24)) ⟨b, o, none⟩ l.length cap (cellsL l) (by simp [Act.eval]) (cellsL_length l) (SRC.out _ ((belowDrawn (((Below.refl _ w4).alloc (Nat.le_refl _) (Obj.cells #[.slice none 0 0, .int .i64 0, .int .i64 0] 24)).alloc (by simp) (Obj.cells #[] 38))))) (cellsL_one l) (by unfold maxLen; omega) (by omega) ((belowDrawn (((Below.refl _ w4).alloc (Nat.le_refl _) (Obj.cells #[.slice none 0 0, .int .i64 0, .int .i64 0] 24)).alloc (by simp) (Obj.cells #[] 38))).size) ?_; intro v' w8 hown' hgrow hat; simp only [Nat.zero_add, List.nil_append] at hown'; obtain ⟨A8, c8, rfl, _, _⟩ := own_form hown'; have hbP : Below w4.heap.size w4 w8 := ((belowDrawn (((Below.refl _ w4).alloc (Nat.le_refl _) (Obj.cells #[.slice none 0 0, .int .i64 0, .int .i64 0] 24)).alloc (by simp) (Obj.cells #[] 38)))).grown hgrow ((belowDrawn (((Below.refl _ w4).alloc (Nat.le_refl _) (Obj.cells #[.slice none 0 0, .int .i64 0, .int .i64 0] 24)).alloc (by simp) (Obj.cells #[] 38))).size) (own_block_ge (own_empty3 w4 (Obj.cells #[.slice none 0 0, .int .i64 0, .int .i64 0] 24))); have HOW := Lib.hid hown'; have hrs : ResAt w8 w4.heap.size (.slice none 0 0) (.int .i64 0) (.int .i64 0) := ResAt.grown (by constructor <;> simp [go_sem]) hgrow (by simp [Value.ownBlock]); have HNE := Lib.hid (show ∀ g, (Value.slice A8 l.length c8).ownBlock = some g → g ≠ w4.heap.size from fun g hg => (by rcases hat with h | h <;> rw [h] at hg <;> simp [Value.ownBlock] at hg <;> omega)); obtain ⟨r0, r1, r2, rz⟩ := id hrs; have rz0 := rz 0; have rz1 := rz 1; have rz2 := rz 2; clear hown' hgrow hat))
    all_goals
      go_wp2_with fail
      go_meet
      first
        | exact ⟨_, _, _, rfl, Lib.hid (bad_new hbP HOW.out _)⟩
        | exact ⟨_, _, _, rfl, Lib.hid (bad_set hbP HOW.out hrs (by first | exact Nat.le_refl _ | exact Nat.le_succ _) HNE.out)⟩
  case rest =>
    obtain ⟨nb, A8, c8, rfl, bad⟩ := hcut
    clear KB SRC hbP b0 b1 b2
    obtain ⟨A', c', e', _, hg8⟩ := own_form bad.out.own
    obtain ⟨g, e2, _⟩ := hg8 (by omega)
    injection e' with e'1 e'2 e'3
    obtain rfl : A8 = some ⟨g, 0, none⟩ := e'1.trans e2
    clear e2 e'1 e'2 e'3 hg8
    have bad2 := Lib.hid (bad.out.put nopI hil)
    have im5 := im4.mono bad.out.hb
    have hown := bad.out.own
    have hl5 := cellsL_length l
    have hrow : ∀ r, r < 5 → ∃ u, wc.cell? ⟨g, i * 5 + r, none⟩ = some u := fun r hr => by
      exact ⟨(cellsL l)[i * 5 + r]'(by omega), by rw [hown.cellAt (i * 5 + r) (by omega)]; exact List.getElem?_eq_getElem _⟩
    obtain ⟨v0, s0⟩ := hrow 0 (by omega)
    obtain ⟨v1, s1⟩ := hrow 1 (by omega)
    obtain ⟨v2, s2⟩ := hrow 2 (by omega)
    obtain ⟨v3, s3⟩ := hrow 3 (by omega)
    obtain ⟨v4, s4⟩ := hrow 4 (by omega)
    rw [Nat.add_zero] at s0
    have z0 := hown.frozenAt (i * 5)
    have z1 := hown.frozenAt (i * 5 + 1)
    have z2 := hown.frozenAt (i * 5 + 2)
    have z3 := hown.frozenAt (i * 5 + 3)
    have z4 := hown.frozenAt (i * 5 + 4)
    obtain ⟨r0, r1, r2, rz⟩ := id bad.out.bx
    have hne := bad.out.ne g rfl
    have hne' := Ne.symm hne
    clear hrow hown hl5 rz
    have hchk := check_any (l.set i nopI) (some ⟨g, 0, none⟩) c8 M S _ bad2.out.code.code (bytes_set hY i) (HT4.out.mono bad2.out.hb) (by rw [List.length_set]; exact hl)
    rw [List.length_set] at hchk
    go_wp2_with fail
    refine hchk.mono ?_
    rintro e w6 ⟨rfl, hb6⟩
    have q6 := below_step q4 q4.size (below_step bad2.out.hb bad2.out.hb.size hb6)
    have im6 := im4.mono (below_step bad2.out.hb bad2.out.hb.size hb6)
    clear hchk bad bad2 im5 s0 s1 s2 s3 s4 z0 z1 z2 z3 z4 r0 r1 r2 hb6
    cases hp : ptn l (i : Int) with
    | none =>
      rw [spoil_none HST.out HSZ.out hil hp]
      simp only [Option.isSome_none, ptnI, Option.getD_none]
      go_wp2
      go_ret
      exact ⟨rfl, q6⟩
    | some t =>
      obtain ⟨p, rfl⟩ := Int.eq_ofNat_of_zero_le (ptn_range hp).2.1
      obtain ⟨k, hk, hck, hcase⟩ := spoil_some HST.out HSZ.out hil hp
      rw [hck]
      simp only [Option.isSome_some, ptnI, Option.getD_some]
      clear hck hp
      obtain ⟨b0, b1, b2, bc⟩ := id im6
      obtain ⟨b', o', e', hi⟩ := bc.at_ hk
      obtain ⟨rfl, rfl⟩ : b = b' ∧ o = o' := by simpa using e'
      rw [atI_nat hk] at hcase
      generalize l[k] = x at *
      obtain ⟨c0, c1, c2, c3, c4⟩ := id hi
      have hlt := hi.lt
      clear bc e'
      have hcs : ((k : Int) == p) = true ∨ (((k : Int) == p) = false ∧ (k : Int) < p ∧ ((((x.op : Int) == 30) = true ∨ (((x.op : Int) == 30) = false ∧ ((x.op : Int) == 31) = true)) ∧ ((x.a == i) = true ∨ ((x.a == i) = false ∧ (x.a == p) = true)))) := by
        by_cases e : (k : Int) = p
        · exact .inl (by simpa using e)
        · rcases hcase with h | ⟨h1, h2, h3⟩
          · exact absurd h e
          · refine .inr ⟨by simpa using e, h2, ?_, ?_⟩
            · rcases h1 with h | h <;> rw [h]
              · exact .inl rfl
              · exact .inr ⟨rfl, rfl⟩
            · by_cases ea : x.a = i
              · exact .inl (by simpa using ea)
              · rcases h3 with h | h
                · exact absurd h ea
                · exact .inr ⟨by simpa using ea, by simpa using h⟩
      clear hcase
      have q7 := q6.alloc q6.size (Obj.cells #[.int .u8 x.op, .int .i64 x.a, .int .i64 x.b, .int .i64 x.c, .int .i64 x.d] 38)
      rcases hcs with h1 | ⟨h1, h2, h3 | ⟨h3, h4⟩, h5 | ⟨h5, h6⟩⟩
      all_goals
        go_wp2
        go_ret
        exact ⟨rfl, q7⟩

end Go.Proofs.YthakiaicnhkfjaaDoor
