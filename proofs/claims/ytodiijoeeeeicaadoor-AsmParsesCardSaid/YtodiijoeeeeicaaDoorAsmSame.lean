/-
  The contract of the reference's Same (layer 22).
-/
import Derived.Test.YtodiijoeeeeicaaDoorAsmIsa
import Derived.BigQuiet
namespace Go.Proofs.YtodiijoeeeeicaaDoor
open Go.ChangeShapes Go.WideShapes Go.ChangeAt Go.RowKit Go.Sort

theorem ins_ext {x y : Ins} (h0 : x.op = y.op) (h1 : x.a = y.a) (h2 : x.b = y.b) (h3 : x.c = y.c) (h4 : x.d = y.d) : x = y := by
  cases x; cases y; simp_all

theorem ins_ne {x y : Ins} (h : x ≠ y) : (((x.op : Int) == y.op) = false) ∨ (x.op = y.op ∧ (x.a == y.a) = false) ∨ (x.op = y.op ∧ x.a = y.a ∧ (x.b == y.b) = false)
    ∨ (x.op = y.op ∧ x.a = y.a ∧ x.b = y.b ∧ (x.c == y.c) = false) ∨ (x.op = y.op ∧ x.a = y.a ∧ x.b = y.b ∧ x.c = y.c ∧ (x.d == y.d) = false) := by
  by_cases h0 : x.op = y.op
  · by_cases h1 : x.a = y.a
    · by_cases h2 : x.b = y.b
      · by_cases h3 : x.c = y.c
        · refine .inr (.inr (.inr (.inr ⟨h0, h1, h2, h3, beq_eq_false_iff_ne.2 fun h4 => h (ins_ext h0 h1 h2 h3 h4)⟩)))
        · exact .inr (.inr (.inr (.inl ⟨h0, h1, h2, beq_eq_false_iff_ne.2 h3⟩)))
      · exact .inr (.inr (.inl ⟨h0, h1, beq_eq_false_iff_ne.2 h2⟩))
    · exact .inr (.inl ⟨h0, beq_eq_false_iff_ne.2 h1⟩)
  · exact .inl (beq_eq_false_iff_ne.2 (by omega))

set_option maxRecDepth 100000 in
set_option maxHeartbeats 1000000 in
theorem same_any (l l' : List Ins) (A A' : Option Addr) (cap cap' : Nat) (w : World) (hC : CodeAt w A l) (hC' : CodeAt w A' l') (hl : l.length ≤ 1000000) :
    Calls Tryd.prog 19 #[.slice A l.length cap, .slice A' l'.length cap'] w fun e w' => e = .returned (.bool (decide (l = l'))) ∧ Below w.heap.size w w' := by
  by_cases hL : l.length = l'.length
  rotate_left
  · have hn := Lib.hid (show decide (l = l') = false by
      have : l ≠ l' := fun e => hL (by rw [e])
      simp [this])
    have h1 : ((l.length : Int) != l'.length) = true := bne_iff_ne.2 (by omega)
    clear hL hC hC'
    go_enter Tryd.func19, Tryd.ntmps19
    go_wp2
    go_ret
    exact ⟨ret_bool hn.out.symm, Below.refl _ _⟩
  have h1 : ((l.length : Int) != l'.length) = false := by rw [hL]; simp
  have HL := Lib.hid hL
  have HC := Lib.hid hC
  have HC' := Lib.hid hC'
  clear hL hC hC'
  go_enter Tryd.func19, Tryd.ntmps19
  go_wp2
  clear h1
  go_loopw [5] (fun v wr => ∃ k : Nat, k ≤ l.length ∧ v = .int .i64 k ∧ Hid (∀ j, j < k → l[j]? = l'[j]?) ∧ Below w.heap.size w wr) (fun v _ => l.length - (intOf v).toNat)
  case atStart => exact ⟨0, by omega, rfl, fun j hj => by omega, Below.refl _ _⟩
  case round =>
    obtain ⟨k, hk, rfl, hz, hb⟩ := hrel
    by_cases hin : k < l.length
    · have hin' : k < l'.length := by rw [← HL.out]; exact hin
      obtain ⟨b, o, rfl, hi⟩ := (HC.out.mono hb).at_ hin
      obtain ⟨b', o', rfl, hi'⟩ := (HC'.out.mono hb).at_ hin'
      obtain ⟨c0, c1, c2, c3, c4⟩ := id hi
      obtain ⟨e0, e1, e2, e3, e4⟩ := id hi'
      have HX := Lib.hid (List.getElem?_eq_getElem hin)
      have HY := Lib.hid (List.getElem?_eq_getElem hin')
      generalize l[k] = x at *
      generalize l'[k] = y at *
      have r1 : (0 : Int) ≤ k := by omega
      have r2 : (k : Int) < l.length := by omega
      have r3 : (k : Int) < l'.length := by omega
      clear hi hi'
      by_cases hxy : x = y
      · have hz' := Lib.hid (fun j (hj : j < k + 1) => show l[j]? = l'[j]? from by
          by_cases e : j = k
          · rw [e, HX.out, HY.out, hxy]
          · exact hz.out j (by omega))
        clear hz HX HY
        subst hxy
        go_wp2
        go_quiet (fail)
        go_wp2
        exact ⟨⟨k + 1, by omega, by go_num, hz', hb.trans ⟨rfl, rfl, rfl, Nat.le_refl _, fun _ _ => rfl⟩⟩, by simp [intOf]; omega⟩
      · have hn := Lib.hid (decide_eq_false (p := l = l') (fun e => hxy (by
          have h2 := HX.out; rw [e, HY.out] at h2; exact (Option.some.inj h2).symm)))
        clear hz HX HY
        rcases ins_ne hxy with d0 | ⟨d0, d1⟩ | ⟨d0, d1, d2⟩ | ⟨d0, d1, d2, d3⟩ | ⟨d0, d1, d2, d3, d4⟩
        all_goals
          clear hxy
          go_wp2
          go_quiet (fail)
          go_wp2
          go_ret
          exact ⟨ret_bool hn.out.symm, hb.trans ⟨rfl, rfl, rfl, Nat.le_refl _, fun _ _ => rfl⟩⟩
    · have hn := Lib.hid (decide_eq_true (show l = l' by
        apply List.ext_getElem?
        intro j
        by_cases hj : j < k
        · exact hz.out j hj
        · have := HL.out
          rw [List.getElem?_eq_none (by omega), List.getElem?_eq_none (by omega)]))
      clear hz
      go_wp2
      go_ret
      exact ⟨ret_bool hn.out.symm, hb⟩

end Go.Proofs.YtodiijoeeeeicaaDoor
