/-
  The contract of the law's shifted.
-/
import Derived.Test.YthakiaicnhkfjaaDoorImgJoinM
import Derived.Test.YthakiaicnhkfjaaDoorImgAppend
namespace Go.Proofs.YthakiaicnhkfjaaDoor
open Go.ChangeShapes Go.WideShapes Go.ChangeAt Go.RowKit Go.Sort

theorem shL_step {n : Int} {l : List Ins} {k : Nat} (h : k < l.length) : shL n (l.take (k + 1)) = shL n (l.take k) ++ [shI n l[k]] := by
  unfold shL; rw [List.take_succ_eq_append_getElem h, List.map_append]; rfl
/-- A row that the call returns. -/
def RetRow (L : List Ins) (w : World) (e : Ending) (w' : World) : Prop :=
  ∃ A c, e = .returned (.slice A L.length c) ∧ w'.ownsRow w.heap.size 38 5 (.slice A L.length c) L.length (cellsL L) ∧ Below w.heap.size w w'

set_option maxRecDepth 100000 in
set_option maxHeartbeats 2000000 in
theorem shifted_any (l : List Ins) (A : Option Addr) (cap : Nat) (n : Int) (w : World) (hC : CodeAt w A l) (hY : Bytes l) (hl : l.length ≤ 1000000) (hn : 0 ≤ n ∧ n ≤ 1000000) (hT : ∀ (k : Nat) (x : Ins), l[k]? = some x → kI x = true → 0 ≤ tI x ∧ tI x ≤ 65536) :
    Calls Tryd.prog 20 #[.slice A l.length cap, .int .i64 n] w (RetRow (shL n l) w) := by
  obtain ⟨i0, hi, hz0, hz1, hz2⟩ := info_parts info_ins
  have HI := Lib.hid (And.intro hi (And.intro hz0 (And.intro hz1 hz2)))
  clear hi hz0 hz1 hz2
  have HC := Lib.hid hC
  have HT := Lib.hid hT
  obtain ⟨hn0, hn1⟩ := hn
  clear hC hT
  go_enter Tryd.func20, Tryd.ntmps20
  go_wp2_with fail
  go_loopw [5, 12] (fun v i wr => ∃ k : Nat, k ≤ l.length ∧ i = .int .i64 k ∧ Hid (wr.ownsRow w.heap.size 38 5 v k (cellsL (shL n (l.take k)))) ∧ Hid (Below w.heap.size w wr)) (fun _ i _ => l.length - (intOf i).toNat)
  case atStart => exact ⟨0, by omega, rfl, ⟨rfl, .inl ⟨rfl, rfl⟩⟩, Below.refl _ _⟩
  case round =>
    obtain ⟨k, hk, rfl, hown, hb⟩ := hrel
    by_cases hin : k < l.length
    · obtain ⟨b, o, rfl, hi⟩ := (HC.out.mono hb.out).at_ hin
      have hop := hY.at_ hin
      have hts := HT.out k _ (List.getElem?_eq_getElem hin)
      have hst := shL_step (n := n) hin
      generalize l[k] = x at *
      have HST := Lib.hid hst
      clear hst
      obtain ⟨c0, c1, c2, c3, c4⟩ := id hi
      have hlt := hi.lt
      have ix := insAt_box wr 38 x.op x.a x.b x.c x.d
      have hbx := below_box wr (Obj.cells #[Value.int IntKind.u8 ↑x.op, Value.int IntKind.i64 x.a, Value.int IntKind.i64 x.b, Value.int IntKind.i64 x.c, Value.int IntKind.i64 x.d] 38)
      have hzr := hb.out.size
      go_wp2_with fail
      generalize wr.alloc _ = W5 at ix hbx ⊢
      clear c0 c1 c2 c3 c4 hi
      refine (target_any x.op hop x.a x.b x.c x.d W5).mono ?_
      rintro e w6 ⟨rfl, hb6⟩
      have ix6 := ix.mono hb6
      have q6 := Lib.hid (below_step hbx hbx.size hb6)
      clear ix hbx hb6
      obtain ⟨c0, c1, c2, c3, c4, fz⟩ := id ix6
      have hl6 : wr.heap.size < w6.heap.size := block_lt_of_cell c0
      by_cases hkx : kI x = true
      · have hsh := Lib.hid (show shI n x = ⟨x.op, retA x.op x.a (tI x + n), retB x.op x.b (tI x + n), x.c, x.d⟩ by unfold shI; rw [if_pos hkx])
        obtain ⟨ht0, ht1⟩ := hts hkx
        have hk0 : (tgtK x.op != 0) = true := hkx
        have htt : tgt x.op x.a x.b = tI x := rfl
        rw [htt]
        generalize tI x = t at *
        clear hts hkx htt
        go_wp2_with fail
        refine (retarget_any x.op hop x.a x.b x.c x.d (t + n) w6).mono ?_
        rintro e w7 ⟨rfl, hb7⟩
        have ix7 := ix6.mono hb7
        have q7 := Lib.hid (below_step q6.out q6.out.size hb7)
        have HO7 := Lib.hid (own_below (own_below hown.out q6.out) hb7)
        clear ix6 hb7 c0 c1 c2 c3 c4 fz q6
        obtain ⟨c0, c1, c2, c3, c4, fz⟩ := id ix7
        have z0 := fz 0
        have z1 := fz 1
        have z2 := fz 2
        have z3 := fz 3
        have z4 := fz 4
        have hl7 : wr.heap.size < w7.heap.size := block_lt_of_cell c0
        have hne := own_block_lt hown.out
        have hne' : ∀ g, Value.ownBlock _ = some g → g ≠ wr.heap.size := fun g hg => by have := hne g hg; omega
        have HO8 := Lib.hid (own_setNew (own_setNew (own_setNew (own_setNew (own_setNew HO7.out wr.heap.size 0 (.int .u8 x.op) hne') wr.heap.size 1 (.int .i64 (retA x.op x.a (t + n))) hne') wr.heap.size 2 (.int .i64 (retB x.op x.b (t + n))) hne') wr.heap.size 3 (.int .i64 x.c) hne') wr.heap.size 4 (.int .i64 x.d) hne')
        have q8 := Lib.hid ((((((below_step hb.out hb.out.size q7.out).setCell (p := ⟨wr.heap.size, 0, none⟩) hzr (.int .u8 x.op)).setCell (p := ⟨wr.heap.size, 1, none⟩) hzr (.int .i64 (retA x.op x.a (t + n)))).setCell (p := ⟨wr.heap.size, 2, none⟩) hzr (.int .i64 (retB x.op x.b (t + n)))).setCell (p := ⟨wr.heap.size, 3, none⟩) hzr (.int .i64 x.c)).setCell (p := ⟨wr.heap.size, 4, none⟩) hzr (.int .i64 x.d))
        clear hne hne'
        go_wp2_with (at_builtin; go_loud (refine wpList_append_own _ rfl _ _ 22 rfl w.heap.size 38 i0 (.agg #[.int .u8 0, .int .i64 0, .int .i64 0, .int .i64 0, .int .i64 0]) 5 40 Tryd.underlying22 HI.out.1 HI.out.2.1 HI.out.2.2.1 HI.out.2.2.2 rfl (by decide) _ k _ rfl (HO8.out.alloc _) ⟨w7.heap.size, 0, none⟩ 1 1 (Ins.five ⟨x.op, retA x.op x.a (t + n), retB x.op x.b (t + n), x.c, x.d⟩) rfl rfl (five_new (by simp) _ _) (five_one _) (by unfold maxLen; omega) (by omega) (by simp; omega) ?_; intro v' w9 hown' hgrow _))
        have p9 : Below w.heap.size w w9 := (q8.out.alloc q8.out.size _).grown hgrow (Nat.le_trans q8.out.size (below_box _ _).size) (own_block_ge HO8.out)
        have e5 : cellsL [(⟨x.op, retA x.op x.a (t + n), retB x.op x.b (t + n), x.c, x.d⟩ : Ins)] = Ins.five ⟨x.op, retA x.op x.a (t + n), retB x.op x.b (t + n), x.c, x.d⟩ := by simp [cellsL]
        exact ⟨⟨k + 1, by omega, by go_num, Lib.hid (by rw [HST.out, hsh.out, cellsL_append, e5]; exact hown'), Lib.hid p9⟩, by simp [intOf]; omega⟩
      · have hsh := Lib.hid (sh_not (n := n) hkx)
        have hk0 : (tgtK x.op != 0) = false := by
          cases h : (tgtK x.op != 0) with
          | false => rfl
          | true => exact absurd h hkx
        have HO8 := Lib.hid (own_below hown.out q6.out)
        have q8 := Lib.hid (below_step hb.out hb.out.size q6.out)
        clear hts hkx
        generalize tgt x.op x.a x.b = t at *
        go_wp2_with (at_builtin; go_loud (refine wpList_append_own _ rfl _ _ 22 rfl w.heap.size 38 i0 (.agg #[.int .u8 0, .int .i64 0, .int .i64 0, .int .i64 0, .int .i64 0]) 5 40 Tryd.underlying22 HI.out.1 HI.out.2.1 HI.out.2.2.1 HI.out.2.2.2 rfl (by decide) _ k _ rfl (HO8.out.alloc _) ⟨w6.heap.size, 0, none⟩ 1 1 (Ins.five x) rfl rfl (five_new (by simp) _ _) (five_one _) (by unfold maxLen; omega) (by omega) (by simp; omega) ?_; intro v' w9 hown' hgrow _))
        have p9 : Below w.heap.size w w9 := (q8.out.alloc q8.out.size _).grown hgrow (Nat.le_trans q8.out.size (below_box _ _).size) (own_block_ge HO8.out)
        have e5 : cellsL [x] = Ins.five x := by simp [cellsL]
        exact ⟨⟨k + 1, by omega, by go_num, Lib.hid (by rw [HST.out, hsh.out, cellsL_append, e5]; exact hown'), Lib.hid p9⟩, by simp [intOf]; omega⟩
    · obtain rfl : k = l.length := by omega
      have hown2 := hown.out
      rw [List.take_length] at hown2
      have hown3 : wr.ownsRow w.heap.size 38 5 u5 (shL n l).length (cellsL (shL n l)) := by rw [shL_length]; exact hown2
      obtain ⟨A9, c9, rfl, _, _⟩ := own_form hown3
      have HF := Lib.hid (show RetRow (shL n l) w (.returned (.slice A9 (shL n l).length c9)) wr from ⟨A9, c9, rfl, hown3, hb.out⟩)
      rw [shL_length] at HF
      rw [shL_length]
      clear hown hown2 hown3
      go_wp2_with fail
      go_ret
      exact HF.out

end Go.Proofs.YthakiaicnhkfjaaDoor
