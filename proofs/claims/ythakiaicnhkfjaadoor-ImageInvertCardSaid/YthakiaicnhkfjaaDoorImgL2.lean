/-
  The walk of the law ImageInvert.
-/
import Derived.Test.YthakiaicnhkfjaaDoorImgAppend
namespace Go.Proofs.YthakiaicnhkfjaaDoor
open Go.ChangeShapes Go.WideShapes Go.ChangeAt Go.RowKit Go.Sort

theorem step_append_nilW {P : Program} {ops : Array Oper} {o : Oper} {a : Act} {w : World} {K : Act → World → Prop} {Q : Exit → Act → World → Prop} {E : Prop}
    (hg : o.guard = none) (s x : Operand) (t : TypeId) (hop : o.op = Op.call { callee := Callee.builtin Builtin.append, args := #[s, x], argTypes := #[t, t] })
    (e : TypeId) (i : TypeInfo) (h1 : P.underlying t = some (.slice e)) (h2 : P.info? e = some i)
    (b off n cap c : Nat) (hs : a.eval s = .slice (some ⟨b, off, none⟩) n cap) (hx : a.eval x = .slice none 0 c) (hroom : n ≤ cap) (W : World) (_hW : W = w)
    (hK : K (a.put o.dst (.slice (some ⟨b, off, none⟩) n cap)) w) :
    if Region.wanted o (yielded ops a.tmps) = true then Oper.wp P o a w K Q else E :=
  step_append_nil hg s x t hop e i h1 h2 b off n cap c hs hx hroom hK

theorem keep_two' {w w' W : World} {b1 b3 : Nat} {u0 u1 u2 x0 x1 x2 : Value} {A A' : Option Addr} {l l' : List Ins}
    (h : w.cell? ⟨b1, 0, none⟩ = some u0 ∧ w.cell? ⟨b1, 1, none⟩ = some u1 ∧ w.cell? ⟨b1, 2, none⟩ = some u2 ∧ w.cell? ⟨b3, 0, none⟩ = some x0 ∧ w.cell? ⟨b3, 1, none⟩ = some x1 ∧ w.cell? ⟨b3, 2, none⟩ = some x2 ∧ CodeAt w A l ∧ CodeAt w A' l') (hb : Below W.heap.size W w') (e : W = w) :
    w'.cell? ⟨b1, 0, none⟩ = some u0 ∧ w'.cell? ⟨b1, 1, none⟩ = some u1 ∧ w'.cell? ⟨b1, 2, none⟩ = some u2 ∧ w'.cell? ⟨b3, 0, none⟩ = some x0 ∧ w'.cell? ⟨b3, 1, none⟩ = some x1 ∧ w'.cell? ⟨b3, 2, none⟩ = some x2 := by
  subst e
  obtain ⟨h0, h1, h2, h3, h4, h5, h6, h7⟩ := h
  have e : ∀ {a : Addr} {v : Value}, W.cell? a = some v → w'.cell? a = some v := fun {a v} ha => by rw [hb.cell (block_lt_of_cell ha)]; exact ha
  exact ⟨e h0, e h1, e h2, e h3, e h4, e h5⟩

set_option maxRecDepth 100000 in
set_option maxHeartbeats 4000000 in
theorem imageInvert_walk (l : List Ins) (A : Option Addr) (cap : Nat) (M S : Int) (w : World) (hC : CodeAt w A l) (hY : Bytes l) (hl63 : l.length ≤ 9223372036854775807) (hT : Tab w) :
    Calls Tryd.prog 3 #[.agg #[.slice A l.length cap, .int .i64 M, .int .i64 S]] w fun e w' => e = .returned (.bool true) ∧ Below w.heap.size w w' := by
  obtain ⟨i0, hi, hz0, hz1, hz2⟩ := info_parts info_ins
  have HI := Lib.hid (And.intro hi (And.intro hz0 (And.intro hz1 hz2)))
  clear hi hz0 hz1 hz2
  have hbW := below_box w (Obj.cells #[.slice A l.length cap, .int .i64 M, .int .i64 S] 24)
  have im := imgAt_box w 24 A cap M S l hC
  have HT := Lib.hid (hT.mono hbW)
  clear hC hT
  go_enter Tryd.func3, Tryd.ntmps3
  go_wp2_with fail
  generalize w.alloc _ = W at hbW im HT ⊢
  refine (awake23_any _ HT.out).mono ?_
  rintro e w1 ⟨rfl, hb1⟩
  have im1 := im.mono hb1
  have HT1 := Lib.hid (HT.out.mono hb1)
  have q1 := below_step hbW hbW.size hb1
  clear im HT hbW hb1
  obtain ⟨b0, b1, b2, bc⟩ := id im1
  clear bc
  go_wp2_with fail
  refine (great_any l _ _ _ _ _ hl63).mono ?_
  rintro e w2 ⟨rfl, hb2⟩
  have im2 := im1.mono hb2
  have HT2 := Lib.hid (HT1.out.mono hb2)
  have q2 := below_step q1 q1.size hb2
  clear im1 HT1 q1 hb2 b0 b1 b2
  obtain ⟨b0, b1, b2, bc⟩ := id im2
  clear bc
  by_cases h80 : 80 < l.length
  · have g80 : decide (80 < l.length) = true := by simpa using h80
    go_wp2
    go_ret
    exact ⟨rfl, q2⟩
  have g80 : decide (80 < l.length) = false := by simpa using h80
  have hl : l.length ≤ 1000000 := by omega
  go_wp2_with fail
  go_cut [3] (fun v wc => ∃ nb A8 c8, v = .pointer (some ⟨nb, 0, none⟩) ∧ Hid (BadAt w2 wc nb A8 c8 M S l))
  case first =>
    cases A with
    | none =>
      obtain rfl : l = [] := by
        cases l with
        | nil => rfl
        | cons x r => obtain ⟨b, o, e, _⟩ := im2.code 0 x rfl; cases e
      simp only [List.length_nil] at *
      have KB := Lib.hid (show ∀ w' : World, Below w2.heap.size w2 w' → (w'.cell? ⟨w.heap.size, 0, none⟩ = some (.slice none 0 cap) ∧ w'.cell? ⟨w.heap.size, 1, none⟩ = some (.int .i64 M) ∧ w'.cell? ⟨w.heap.size, 2, none⟩ = some (.int .i64 S)) from fun w' hb => ⟨(im2.mono hb).b0, (im2.mono hb).b1, (im2.mono hb).b2⟩)
      have hbP := Below.refl w2.heap.size w2
      go_region_held3 (fun w' => w'.cell? ⟨w.heap.size, 0, none⟩ = some (.slice none 0 cap) ∧ w'.cell? ⟨w.heap.size, 1, none⟩ = some (.int .i64 M) ∧ w'.cell? ⟨w.heap.size, 2, none⟩ = some (.int .i64 S))
        ((refine KB.out _ ?_; repeat first | exact hbP | refine belowDrawn ?_ | refine Below.setCell ?_ (by first | exact Nat.le_refl _ | exact Nat.le_succ _ | exact hbP.size) _ | refine Below.alloc ?_ (by first | exact Nat.le_refl _ | exact hbP.size | simp) _))
        (first | (refine step_append_nilW rfl (.tmp 12) (.tmp 14) 22 rfl 38 i0 Tryd.underlying22 HI.out.1 (w2.heap.size) 0 0 0 cap (by simp [Act.eval]) (by simp [Act.eval]) (Nat.le_refl _) ((w2.alloc (Obj.cells #[] 38)).drew) rfl ?_; have HOW := Lib.hid (own_empty1 w2); have hbP := (belowDrawn ((Below.refl _ w2).alloc (Nat.le_refl _) (Obj.cells #[] 38))); generalize (w2.alloc (Obj.cells #[] 38)).drew = w8 at *) | (refine step_append_nilW rfl (.tmp 12) (.tmp 14) 22 rfl 38 i0 Tryd.underlying22 HI.out.1 (w2.heap.size) 0 0 0 cap (by simp [Act.eval]) (by simp [Act.eval]) (Nat.le_refl _) (((w2.alloc (Obj.cells #[] 38)).alloc (Obj.cells #[.slice none 0 0, .int .i64 0, .int .i64 0] 24)).drew) rfl ?_; have HOW := Lib.hid (own_empty2 w2 (Obj.cells #[.slice none 0 0, .int .i64 0, .int .i64 0] 24)); have hbP := (belowDrawn (((Below.refl _ w2).alloc (Nat.le_refl _) (Obj.cells #[] 38)).alloc (by simp) (Obj.cells #[.slice none 0 0, .int .i64 0, .int .i64 0] 24))); have hrs : ResAt ((w2.alloc (Obj.cells #[] 38)).alloc (Obj.cells #[.slice none 0 0, .int .i64 0, .int .i64 0] 24)).drew (w2.heap.size + 1) (.slice none 0 0) (.int .i64 0) (.int .i64 0) := (by constructor <;> simp [go_sem]); have HNE := Lib.hid (show ∀ g, (Value.slice (some ⟨w2.heap.size, 0, none⟩) 0 0).ownBlock = some g → g ≠ w2.heap.size + 1 from fun g hg => (by simp [Value.ownBlock] at hg; omega)); obtain ⟨r0, r1, r2, rz⟩ := id hrs; have rz0 := rz 0; have rz1 := rz 1; have rz2 := rz 2; clear rz; generalize ((w2.alloc (Obj.cells #[] 38)).alloc (Obj.cells #[.slice none 0 0, .int .i64 0, .int .i64 0] 24)).drew = w8 at *) | (refine step_append_nilW rfl (.tmp 12) (.tmp 14) 22 rfl 38 i0 Tryd.underlying22 HI.out.1 (w2.heap.size + 1) 0 0 0 cap (by simp [Act.eval]) (by simp [Act.eval]) (Nat.le_refl _) (((w2.alloc (Obj.cells #[.slice none 0 0, .int .i64 0, .int .i64 0] 24)).alloc (Obj.cells #[] 38)).drew) rfl ?_; have HOW := Lib.hid (own_empty3 w2 (Obj.cells #[.slice none 0 0, .int .i64 0, .int .i64 0] 24)); have hbP := (belowDrawn (((Below.refl _ w2).alloc (Nat.le_refl _) (Obj.cells #[.slice none 0 0, .int .i64 0, .int .i64 0] 24)).alloc (by simp) (Obj.cells #[] 38))); have hrs : ResAt ((w2.alloc (Obj.cells #[.slice none 0 0, .int .i64 0, .int .i64 0] 24)).alloc (Obj.cells #[] 38)).drew (w2.heap.size) (.slice none 0 0) (.int .i64 0) (.int .i64 0) := (by constructor <;> simp [go_sem]); have HNE := Lib.hid (show ∀ g, (Value.slice (some ⟨w2.heap.size + 1, 0, none⟩) 0 0).ownBlock = some g → g ≠ w2.heap.size from fun g hg => (by simp [Value.ownBlock] at hg; omega)); obtain ⟨r0, r1, r2, rz⟩ := id hrs; have rz0 := rz 0; have rz1 := rz 1; have rz2 := rz 2; clear rz; generalize ((w2.alloc (Obj.cells #[.slice none 0 0, .int .i64 0, .int .i64 0] 24)).alloc (Obj.cells #[] 38)).drew = w8 at *))
      all_goals
        go_wp2_with fail
        go_meet
        first
          | exact ⟨_, _, _, rfl, Lib.hid (bad_new (l := []) hbP HOW.out _)⟩
          | exact ⟨_, _, _, rfl, Lib.hid (bad_set (l := []) hbP HOW.out hrs (by first | exact Nat.le_refl _ | exact Nat.le_succ _) HNE.out)⟩
    | some ad =>
      have KB := Lib.hid (show ∀ w' : World, Below w2.heap.size w2 w' → (w'.cell? ⟨w.heap.size, 0, none⟩ = some (.slice (some ad) l.length cap) ∧ w'.cell? ⟨w.heap.size, 1, none⟩ = some (.int .i64 M) ∧ w'.cell? ⟨w.heap.size, 2, none⟩ = some (.int .i64 S)) from fun w' hb => ⟨(im2.mono hb).b0, (im2.mono hb).b1, (im2.mono hb).b2⟩)
      have SRC := Lib.hid (show ∀ (w' : World), Below w2.heap.size w2 w' → ∀ (j : Nat) (u : Value), (cellsL l)[j]? = some u → w'.cell? ((ad : Addr).add j) = some u from fun w' hb => code_src (im2.mono hb).code rfl)
      have hbP := Below.refl w2.heap.size w2
      go_region_held3 (fun w' => w'.cell? ⟨w.heap.size, 0, none⟩ = some (.slice (some ad) l.length cap) ∧ w'.cell? ⟨w.heap.size, 1, none⟩ = some (.int .i64 M) ∧ w'.cell? ⟨w.heap.size, 2, none⟩ = some (.int .i64 S))
        ((refine KB.out _ ?_; repeat first | exact hbP | refine belowDrawn ?_ | refine Below.setCell ?_ (by first | exact Nat.le_refl _ | exact Nat.le_succ _ | exact hbP.size) _ | refine Below.alloc ?_ (by first | exact Nat.le_refl _ | exact hbP.size | simp) _))
        (first | (refine step_append_own rfl (.tmp 12) (.tmp 14) 22 rfl 38 i0 (.agg #[.int .u8 0, .int .i64 0, .int .i64 0, .int .i64 0, .int .i64 0]) 5 40 Tryd.underlying22 HI.out.1 HI.out.2.1 HI.out.2.2.1 HI.out.2.2.2 rfl (by decide) w2.heap.size (.slice (some ⟨w2.heap.size, 0, none⟩) 0 0) 0 [] (by simp [Act.eval]) (own_empty1 w2) ad l.length cap (cellsL l) (by simp [Act.eval]) (cellsL_length l) (SRC.out _ ((belowDrawn ((Below.refl _ w2).alloc (Nat.le_refl _) (Obj.cells #[] 38))))) (cellsL_one l) (by unfold maxLen; omega) (by omega) ((belowDrawn ((Below.refl _ w2).alloc (Nat.le_refl _) (Obj.cells #[] 38))).size) ?_; intro v' w8 hown' hgrow hat; simp only [Nat.zero_add, List.nil_append] at hown'; obtain ⟨A8, c8, rfl, _, _⟩ := own_form hown'; have hbP : Below w2.heap.size w2 w8 := ((belowDrawn ((Below.refl _ w2).alloc (Nat.le_refl _) (Obj.cells #[] 38)))).grown hgrow ((belowDrawn ((Below.refl _ w2).alloc (Nat.le_refl _) (Obj.cells #[] 38))).size) (own_block_ge (own_empty1 w2)); have HOW := Lib.hid hown'; clear hown' hgrow hat) | (refine step_append_own rfl (.tmp 12) (.tmp 14) 22 rfl 38 i0 (.agg #[.int .u8 0, .int .i64 0, .int .i64 0, .int .i64 0, .int .i64 0]) 5 40 Tryd.underlying22 HI.out.1 HI.out.2.1 HI.out.2.2.1 HI.out.2.2.2 rfl (by decide) w2.heap.size (.slice (some ⟨w2.heap.size, 0, none⟩) 0 0) 0 [] (by simp [Act.eval]) (own_empty2 w2 (Obj.cells #[.slice none 0 0, .int .i64 0, .int .i64 0] 24)) ad l.length cap (cellsL l) (by simp [Act.eval]) (cellsL_length l) (SRC.out _ ((belowDrawn (((Below.refl _ w2).alloc (Nat.le_refl _) (Obj.cells #[] 38)).alloc (by simp) (Obj.cells #[.slice none 0 0, .int .i64 0, .int .i64 0] 24))))) (cellsL_one l) (by unfold maxLen; omega) (by omega) ((belowDrawn (((Below.refl _ w2).alloc (Nat.le_refl _) (Obj.cells #[] 38)).alloc (by simp) (Obj.cells #[.slice none 0 0, .int .i64 0, .int .i64 0] 24))).size) ?_; intro v' w8 hown' hgrow hat; simp only [Nat.zero_add, List.nil_append] at hown'; obtain ⟨A8, c8, rfl, _, _⟩ := own_form hown'; have hbP : Below w2.heap.size w2 w8 := ((belowDrawn (((Below.refl _ w2).alloc (Nat.le_refl _) (Obj.cells #[] 38)).alloc (by simp) (Obj.cells #[.slice none 0 0, .int .i64 0, .int .i64 0] 24)))).grown hgrow ((belowDrawn (((Below.refl _ w2).alloc (Nat.le_refl _) (Obj.cells #[] 38)).alloc (by simp) (Obj.cells #[.slice none 0 0, .int .i64 0, .int .i64 0] 24))).size) (own_block_ge (own_empty2 w2 (Obj.cells #[.slice none 0 0, .int .i64 0, .int .i64 0] 24))); have HOW := Lib.hid hown'; have hrs : ResAt w8 (w2.heap.size + 1) (.slice none 0 0) (.int .i64 0) (.int .i64 0) := ResAt.grown (by constructor <;> simp [go_sem]) hgrow (by simp [Value.ownBlock]); have HNE := Lib.hid (show ∀ g, (Value.slice A8 l.length c8).ownBlock = some g → g ≠ w2.heap.size + 1 from fun g hg => (by rcases hat with h | h <;> rw [h] at hg <;> simp [Value.ownBlock] at hg <;> omega)); obtain ⟨r0, r1, r2, rz⟩ := id hrs; have rz0 := rz 0; have rz1 := rz 1; have rz2 := rz 2; clear hown' hgrow hat) | (refine step_append_own rfl (.tmp 12) (.tmp 14) 22 rfl 38 i0 (.agg #[.int .u8 0, .int .i64 0, .int .i64 0, .int .i64 0, .int .i64 0]) 5 40 Tryd.underlying22 HI.out.1 HI.out.2.1 HI.out.2.2.1 HI.out.2.2.2 rfl (by decide) w2.heap.size (.slice (some ⟨w2.heap.size + 1, 0, none⟩) 0 0) 0 [] (by simp [Act.eval]) (own_empty3 w2 (Obj.cells #[.slice none 0 0, .int .i64 0, .int .i64 0] 24)) ad l.length cap (cellsL l) (by simp [Act.eval]) (cellsL_length l) (SRC.out _ ((belowDrawn (((Below.refl _ w2).alloc (Nat.le_refl _) (Obj.cells #[.slice none 0 0, .int .i64 0, .int .i64 0] 24)).alloc (by simp) (Obj.cells #[] 38))))) (cellsL_one l) (by unfold maxLen; omega) (by omega) ((belowDrawn (((Below.refl _ w2).alloc (Nat.le_refl _) (Obj.cells #[.slice none 0 0, .int .i64 0, .int .i64 0] 24)).alloc (by simp) (Obj.cells #[] 38))).size) ?_; intro v' w8 hown' hgrow hat; simp only [Nat.zero_add, List.nil_append] at hown'; obtain ⟨A8, c8, rfl, _, _⟩ := own_form hown'; have hbP : Below w2.heap.size w2 w8 := ((belowDrawn (((Below.refl _ w2).alloc (Nat.le_refl _) (Obj.cells #[.slice none 0 0, .int .i64 0, .int .i64 0] 24)).alloc (by simp) (Obj.cells #[] 38)))).grown hgrow ((belowDrawn (((Below.refl _ w2).alloc (Nat.le_refl _) (Obj.cells #[.slice none 0 0, .int .i64 0, .int .i64 0] 24)).alloc (by simp) (Obj.cells #[] 38))).size) (own_block_ge (own_empty3 w2 (Obj.cells #[.slice none 0 0, .int .i64 0, .int .i64 0] 24))); have HOW := Lib.hid hown'; have hrs : ResAt w8 w2.heap.size (.slice none 0 0) (.int .i64 0) (.int .i64 0) := ResAt.grown (by constructor <;> simp [go_sem]) hgrow (by simp [Value.ownBlock]); have HNE := Lib.hid (show ∀ g, (Value.slice A8 l.length c8).ownBlock = some g → g ≠ w2.heap.size from fun g hg => (by rcases hat with h | h <;> rw [h] at hg <;> simp [Value.ownBlock] at hg <;> omega)); obtain ⟨r0, r1, r2, rz⟩ := id hrs; have rz0 := rz 0; have rz1 := rz 1; have rz2 := rz 2; clear hown' hgrow hat))
      all_goals
        go_wp2_with fail
        go_meet
        first
          | exact ⟨_, _, _, rfl, Lib.hid (bad_new hbP HOW.out _)⟩
          | exact ⟨_, _, _, rfl, Lib.hid (bad_set hbP HOW.out hrs (by first | exact Nat.le_refl _ | exact Nat.le_succ _) HNE.out)⟩
  case rest =>
    obtain ⟨nb, A8, c8, rfl, bad⟩ := hcut
    have hpf : pfault l = rfault l := funext (pfault_eq l)
    have HPF := Lib.hid hpf
    clear hpf b0 b1 b2
    have iB := bad.out.code
    obtain ⟨r0, r1, r2, rc⟩ := id iB
    have HT3 := Lib.hid (HT2.out.mono bad.out.hb)
    clear rc
    go_wp2_with fail
    refine (invert_any l _ _ _ _ _ iB.code hY HT3.out hl).mono ?_
    have same0 : sameB l l M M S S = true := by simp [sameB]
    rintro e w4 (⟨hok, A4, c4, rfl, hC4, hb4⟩ | ⟨hok, rfl, hb4⟩)
    · obtain ⟨hsz, hst⟩ := ok_iff.1 hok
      have HST := Lib.hid hst
      have hn16 : l.length ≤ 65536 := by simp [sizesB] at hsz; omega
      have iX := imgAt_box w4 24 A4 c4 M S (invL l) hC4
      rw [invL_length] at iX
      have hbx := below_box w4 (Obj.cells #[Value.slice A4 l.length c4, Value.int IntKind.i64 M, Value.int IntKind.i64 S] 24)
      have iB4 := iB.mono hb4
      have s4 := iB4.lt
      have p4 := below_step bad.out.hb bad.out.hb.size hb4
      have im4 := im2.mono p4
      have s4' := im4.lt
      obtain ⟨r0', r1', r2', rc'⟩ := id iB4
      obtain ⟨b0, b1, b2, bc⟩ := id im4
      clear bc rc' r0 r1 r2 hsz hst hC4
      go_wp2_with fail
      generalize w4.alloc _ = W5 at iX hbx ⊢
      have iB5 := iB4.mono hbx
      have im5 := im4.mono hbx
      have p5 := below_step p4 p4.size hbx
      clear iB4 im4 p4 hbx hb4 r0' r1' r2' b0 b1 b2 s4 s4'
      refine (same_any l l _ _ _ _ M M S S _ iB5.code im5.code hl hl).mono ?_
      rintro e w6 ⟨rfl, hb6⟩
      rw [same0]
      have im6 := im5.mono hb6
      have iX6 := iX.mono hb6
      have p6 := below_step p5 p5.size hb6
      obtain ⟨b0, b1, b2, bc⟩ := id im6
      clear iB5 im5 iX p5 hb6 bc
      go_wp2_with fail
      refine (rcheck_any l _ _ _ _ _ im6.code hY hl).mono ?_
      rintro e w7 ⟨rfl, hb7⟩
      have im7 := im6.mono hb7
      have iX7 := iX6.mono hb7
      have p7 := below_step p6 p6.size hb7
      have h20 : (checkF (rfault l) l.length M S).2 = 0 := by rw [← HPF.out]; unfold okImg at hok; simpa using hok
      clear im6 iX6 p6 hb7 b0 b1 b2
      obtain ⟨b0, b1, b2, bc⟩ := id im7
      obtain ⟨x0, x1, x2, xc⟩ := id iX7
      rw [invL_length] at x0
      clear bc xc
      have sameX : sameB (invL l) (invL l) M M S S = true := by simp [sameB]
      have RI := Lib.hid (show ∀ w' : World, Below w7.heap.size w7 w' → Calls Tryd.prog 17 #[.agg #[.slice A l.length cap, .int .i64 M, .int .i64 S]] w' (RetImg (invL l) M S w') from fun w' h => rinvert_any l A cap M S w' (im7.mono h).code hY hl HST.out)
      have SM := Lib.hid (show ∀ (w' : World) (A5 : Option Addr) (c5 : Nat), Below w7.heap.size w7 w' → CodeAt w' A5 (invL l) → Calls Tryd.prog 15 #[.agg #[.slice A4 l.length c4, .int .i64 M, .int .i64 S], .agg #[.slice A5 (invL l).length c5, .int .i64 M, .int .i64 S]] w' fun e w'' => e = .returned (.bool true) ∧ Below w'.heap.size w' w'' from fun w' A5 c5 h hC5 => by
        have hc := same_any (invL l) (invL l) A4 A5 c4 c5 M M S S w' (iX7.mono h).code hC5 (by rw [invL_length]; exact hl) (by rw [invL_length]; exact hl)
        rw [sameX] at hc
        have e1 : (Value.slice A4 (invL l).length c4) = .slice A4 l.length c4 := by rw [invL_length]
        rw [e1] at hc
        exact hc)
      have KB := Lib.hid (show ∀ w' : World, Below w7.heap.size w7 w' → (w'.cell? ⟨w.heap.size, 0, none⟩ = some (.slice A l.length cap) ∧ w'.cell? ⟨w.heap.size, 1, none⟩ = some (.int .i64 M) ∧ w'.cell? ⟨w.heap.size, 2, none⟩ = some (.int .i64 S) ∧ w'.cell? ⟨w4.heap.size, 0, none⟩ = some (.slice A4 l.length c4) ∧ w'.cell? ⟨w4.heap.size, 1, none⟩ = some (.int .i64 M) ∧ w'.cell? ⟨w4.heap.size, 2, none⟩ = some (.int .i64 S)) from fun w' hb =>
        have e : ∀ {a : Addr} {v : Value}, w7.cell? a = some v → w'.cell? a = some v := fun {a v} ha => by rw [hb.cell (block_lt_of_cell ha)]; exact ha
        ⟨e b0, e b1, e b2, e x0, e x1, e x2⟩)
      have hbP := Below.refl w7.heap.size w7
      have hbD := below_drew w7
      clear im7 iX7 sameX
      go_wp2_with fail
      go_region_held3 (fun w' => w'.cell? ⟨w.heap.size, 0, none⟩ = some (.slice A l.length cap) ∧ w'.cell? ⟨w.heap.size, 1, none⟩ = some (.int .i64 M) ∧ w'.cell? ⟨w.heap.size, 2, none⟩ = some (.int .i64 S) ∧ w'.cell? ⟨w4.heap.size, 0, none⟩ = some (.slice A4 l.length c4) ∧ w'.cell? ⟨w4.heap.size, 1, none⟩ = some (.int .i64 M) ∧ w'.cell? ⟨w4.heap.size, 2, none⟩ = some (.int .i64 S))
        (first | exact KB.out _ (below_drew _) | exact KB.out _ hbP)
        (first | (go_at_call 17; refine (RI.out _ hbD).mono ?_; rintro e w8 ⟨A5, c5, rfl, hC5, hb8⟩; have hbP := below_step hbD hbD.size hb8) | (go_at_call 15; refine (SM.out _ _ _ hbP hC5).mono ?_; rintro e w9 ⟨rfl, hb9⟩; have hbP := below_step hbP hbP.size hb9))
      all_goals
        go_wp2
        go_ret
        exact ⟨rfl, below_step (below_step q2 q2.size p7) (below_step q2 q2.size p7).size hbP⟩
    · have hne : ((checkF (rfault l) l.length M S).2 != 0) = true := by
        have h := hok; unfold okImg at h; rw [HPF.out] at h
        simpa using h
      rw [HPF.out]
      generalize hce : (checkF (rfault l) l.length M S).2 = ce at *
      have HCE := Lib.hid hce
      clear hce
      have iX := imgAt_box w4 24 none 0 0 0 [] (fun k x hk => by simp at hk)
      have hbx := below_box w4 (Obj.cells #[Value.slice none 0 0, Value.int IntKind.i64 0, Value.int IntKind.i64 0] 24)
      simp only [List.length_nil] at iX
      have iB4 := iB.mono hb4
      have s4 := iB4.lt
      have p4 := below_step bad.out.hb bad.out.hb.size hb4
      have im4 := im2.mono p4
      have s4' := im4.lt
      obtain ⟨r0', r1', r2', rc'⟩ := id iB4
      obtain ⟨b0, b1, b2, bc⟩ := id im4
      clear bc rc' r0 r1 r2
      go_wp2_with fail
      generalize w4.alloc _ = W5 at iX hbx ⊢
      have iB5 := iB4.mono hbx
      have im5 := im4.mono hbx
      have p5 := below_step p4 p4.size hbx
      clear iB4 im4 p4 hbx hb4 r0' r1' r2' b0 b1 b2 s4 s4'
      refine (same_any l l _ _ _ _ M M S S _ iB5.code im5.code hl hl).mono ?_
      rintro e w6 ⟨rfl, hb6⟩
      rw [same0]
      have im6 := im5.mono hb6
      have iX6 := iX.mono hb6
      have p6 := below_step p5 p5.size hb6
      obtain ⟨b0, b1, b2, bc⟩ := id im6
      clear iB5 im5 iX p5 hb6 bc
      go_wp2_with fail
      refine (rcheck_any l _ _ _ _ _ im6.code hY hl).mono ?_
      rintro e w7 ⟨rfl, hb7⟩
      have iX7 := iX6.mono hb7
      have p7 := below_step p6 p6.size hb7
      clear im6 iX6 p6 hb7 b0 b1 b2
      obtain ⟨x0, x1, x2, xc⟩ := id iX7
      simp only [List.length_nil] at x0
      rw [HCE.out]
      go_wp2_with fail
      refine (same_any [] [] none none 0 0 0 0 0 0 _ xc xc (by decide) (by decide)).mono ?_
      rintro e w8 ⟨rfl, hb8⟩
      have same1 : sameB [] [] 0 0 0 0 = true := by simp [sameB]
      rw [same1]
      go_wp2
      go_ret
      exact ⟨rfl, below_step (below_step q2 q2.size p7) (below_step q2 q2.size p7).size hb8⟩

end Go.Proofs.YthakiaicnhkfjaaDoor
