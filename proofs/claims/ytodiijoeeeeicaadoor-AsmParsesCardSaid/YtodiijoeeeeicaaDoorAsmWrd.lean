/-
  The contract of the reference's Words.
-/
import Derived.Test.YtodiijoeeeeicaaDoorAsmBrg
import Derived.Test.YtodiijoeeeeicaaDoorAsmEnc
import Derived.Test.YtodiijoeeeeicaaDoorAsmRow
namespace Go.Proofs.YtodiijoeeeeicaaDoor
open Go.ChangeShapes Go.WideShapes Go.ChangeAt Go.RowKit Go.Sort

def strL (ws : List (List UInt8)) : List Value := ws.map fun x => Value.string (bs x)
/-- A row of strings that the call has made. -/
def WS (B : Nat) (W wr : World) (v : Value) (l : List (List UInt8)) : Prop := Below B W wr ∧ wr.ownsRow B 9 1 v l.length (strL l)
theorem WS.below {B : Nat} {W wc wx : World} {v : Value} {l : List (List UInt8)} (h : WS B W wc v l) (hB : B ≤ wc.heap.size) (hb : Below wc.heap.size wc wx) : WS B W wx v l := ⟨below_step h.1 hB hb, own_below h.2 hb⟩
theorem WS.push {B : Nat} {W wc w' : World} {v v' : Value} {l : List (List UInt8)} (h : WS B W wc v l) (hB : B ≤ wc.heap.size) (x : List UInt8) (hg : wc.grownBy w' v.ownBlock) (hown : w'.ownsRow B 9 1 v' (l.length + 1) (strL l ++ [.string (bs x)])) : WS B W w' v' (l ++ [x]) :=
  ⟨h.1.grown hg hB (fun k hk => own_block_geB h.2 k hk), by rw [List.length_append]; unfold strL at hown ⊢; rw [List.map_append]; exact hown⟩
theorem one_strB (x : ByteArray) : ∀ u : Value, u ∈ [Value.string x] → u.oneCell' = true := by
  intro u hu
  simp at hu
  subst hu; rfl
theorem WS.at_ {B : Nat} {W wr : World} {v : Value} {l : List (List UInt8)} (h : WS B W wr v l) (hne : l ≠ []) : ∃ g c, v = .slice (some ⟨g, 0, none⟩) l.length c ∧ ∀ k x, l[k]? = some x → wr.cell? ⟨g, k, none⟩ = some (.string (bs x)) := by
  rcases id h.2.2 with ⟨rfl, h0⟩ | ⟨g, cap, cur, rfl, hg, hh, hc1, hc2, hc3, hc4⟩
  · exact absurd (List.length_eq_zero_iff.1 h0) hne
  · refine ⟨g, cap, rfl, fun k x hk => ?_⟩
    rw [h.2.cellAt k (by have := (List.getElem?_eq_some_iff.1 hk).1; omega)]
    unfold strL
    rw [List.getElem?_map, hk]; rfl
/-- Where the loop stands. -/
def WdR (w wr : World) (u : Value) (s : List UInt8) (i f : Nat) (ws : List (List UInt8)) : Prop :=
  WS w.heap.size w wr u ws ∧ ws.length ≤ i ∧ ((i ≤ s.length ∧ f ≤ i ∧ (∀ j, f ≤ j → j < i → s[j]? ≠ some 32) ∧ splitL s = ws ++ splitL (s.drop f)) ∨ (i = s.length + 1 ∧ ws = splitL s))
theorem no32 {s : List UInt8} {f i : Nat} (h : ∀ j, f ≤ j → j < i → s[j]? ≠ some 32) : ∀ b ∈ (s.take i).drop f, b ≠ 32 := by
  intro b hb e
  obtain ⟨k, hk⟩ := List.getElem?_of_mem hb
  rw [List.getElem?_drop, List.getElem?_take] at hk
  split at hk
  · exact h (f + k) (by omega) (by omega) (by rw [hk, e])
  · cases hk
theorem split_at {s : List UInt8} {f i : Nat} (hi : i < s.length) (hfi : f ≤ i) (h : ∀ j, f ≤ j → j < i → s[j]? ≠ some 32) (h32 : s[i]? = some 32) : splitL (s.drop f) = (s.take i).drop f :: splitL (s.drop (i + 1)) := by
  have e : s.drop f = (s.take i).drop f ++ 32 :: s.drop (i + 1) := by
    have h1 : s = s.take i ++ 32 :: s.drop (i + 1) := by
      have h2 := List.drop_eq_getElem_cons hi
      rw [List.getElem?_eq_getElem hi] at h32
      rw [Option.some.inj h32] at h2
      rw [← h2, List.take_append_drop]
    conv => lhs; rw [h1]
    rw [List.drop_append_of_le_length (by rw [List.length_take]; omega)]
  rw [e, splitL_app (no32 h)]
theorem split_end {s : List UInt8} {f : Nat} (h : ∀ j, f ≤ j → j < s.length → s[j]? ≠ some 32) : splitL (s.drop f) = [(s.take s.length).drop f] := by
  rw [List.take_length]
  have := no32 h
  rw [List.take_length] at this
  exact splitL_one this
theorem ext_bs {s : List UInt8} {f i : Nat} : (bs s).extract f i = bs ((s.take i).drop f) := by
  rw [bs_ext]
  congr 1
  rw [List.extract_eq_take_drop]
  apply List.ext_getElem?
  intro k
  rw [List.getElem?_drop, List.getElem?_take, List.getElem?_take, List.getElem?_drop]
  split <;> split <;> first | rfl | omega
set_option maxRecDepth 100000 in
set_option maxHeartbeats 1000000 in
theorem words_q (q : ByteArray) (s : List UInt8) (hq : q = bs s) (w : World) (hs : s.length ≤ 1000000000) :
    Calls Tryd.prog 21 #[.string q] w fun e w' => ∃ v, e = .returned v ∧ WS w.heap.size w w' v (splitL s) := by
  have hsz : q.size = s.length := by rw [hq, bs_size]
  have HX := Lib.hid (show ∀ f i, q.extract f i = bs ((s.take i).drop f) from fun f i => by rw [hq]; exact ext_bs)
  have HQG := Lib.hid (show ∀ k (h : k < q.size), q[k]'h = s.getD k 0 from fun k h => by subst hq; exact bs_get s h)
  clear hq
  obtain ⟨i0, hi0, hz0, hz1, hz2⟩ := info_parts info_str
  have HI := Lib.hid (And.intro hi0 (And.intro hz0 (And.intro hz1 hz2)))
  have HSN := Lib.hid hs
  clear hi0 hz0 hz1 hz2 hs
  have H0 := Lib.hid (show WdR w w (.slice none 0 0) s 0 0 [] from ⟨⟨Below.refl _ _, World.ownsRow_nil _ _ _ _⟩, by simp, .inl ⟨by omega, by omega, fun j h1 h2 => by omega, by simp⟩⟩)
  go_enter Tryd.func21, Tryd.ntmps21
  go_wp2_with fail
  go_loopw [3, 4, 5] (fun u f i wr => ∃ (k g : Nat) (ws : List (List UInt8)), f = .int .i64 g ∧ i = .int .i64 k ∧ k ≤ s.length + 1 ∧ Hid (WdR w wr u s k g ws)) (fun _ _ i _ => s.length + 1 - (intOf i).toNat)
  case atStart => exact ⟨0, 0, [], rfl, rfl, by omega, H0⟩
  case round =>
    obtain ⟨k, g, ws, rfl, rfl, hk, hd⟩ := hrel
    obtain ⟨hw, hwl, ⟨h1, h2, h3, h4⟩ | ⟨h1, h2⟩⟩ := hd.out
    · have HW := Lib.hid hw
      have HQ := Lib.hid (And.intro h3 h4)
      have hkl : (k : Int) ≤ s.length := by omega
      have hsz6 := hw.1.size
      have r0 : (0 : Int) ≤ k := by omega
      have r1 : (0 : Int) ≤ g := by omega
      have r2 : (g : Int) ≤ k := by omega
      have hwp : wrap64 ((k : Int) + 1) = (k : Int) + 1 := by have := HSN.out; unfold wrap64; omega
      clear hd hw h3 h4
      have hx := Lib.hid (HX.out g k)
      have HNX := Lib.hid (fun (w6 : World) (v' : Value) (hg : (wr.alloc (Obj.cells #[.string (q.extract g k)] 9)).grownBy w6 u3.ownBlock) (hown : w6.ownsRow w.heap.size 9 1 v' (ws.length + 1) (strL ws ++ [.string (q.extract g k)])) => (HW.out.below hsz6 (below_box wr (Obj.cells #[.string (q.extract g k)] 9))).push (Nat.le_trans hsz6 (below_box wr (Obj.cells #[.string (q.extract g k)] 9)).size) ((s.take k).drop g) hg (by rw [← hx.out]; exact hown))
      have HOW := Lib.hid (own_below HW.out.2 (below_box wr (Obj.cells #[.string (q.extract g k)] 9)))
      have hsb := (below_box wr (Obj.cells #[.string (q.extract g k)] 9)).size
      have hsb2 : w.heap.size ≤ (wr.alloc (Obj.cells #[.string (q.extract g k)] 9)).heap.size := Nat.le_trans hsz6 hsb
      clear hsb
      by_cases hend : k = s.length
      · have HSP := Lib.hid (split_end (f := g) (by rw [← hend]; exact HQ.out.1))
        subst hend
        have HWQ := Lib.hid (fun (w6 : World) (v' : Value) (h : WS w.heap.size w w6 v' (ws ++ [(s.take s.length).drop g])) => show WdR w w6 v' s (s.length + 1) (s.length + 1) (ws ++ [(s.take s.length).drop g]) from ⟨h, by simp; omega, .inr ⟨rfl, by rw [HQ.out.2, HSP.out]⟩⟩)
        go_wp2_with (at_builtin; go_loud (refine wpList_app _ rfl _ _ 45 rfl w.heap.size 9 i0 (.string ⟨#[]⟩) 1 16 Tryd.underlying45 HI.out.1 HI.out.2.1 HI.out.2.2.1 HI.out.2.2.2 rfl (by decide) _ _ _ rfl HOW.out (some ⟨wr.heap.size, 0, none⟩) 1 1 [.string (q.extract g s.length)] rfl rfl (cells_newU wr rfl _ _) (one_strB _) (by have := HSN.out; unfold maxLen; omega) (by have := HSN.out; omega) hsb2 ?_; intro v' w6 hown' hgrow _; have NX := Lib.hid (HWQ.out _ _ (HNX.out _ _ hgrow hown')); clear hown' hgrow))
        refine ⟨⟨s.length + 1, s.length + 1, _, ?_, ?_, Nat.le_refl _, NX⟩, ?_⟩
        · exact congrArg (Value.int .i64) (by omega)
        · exact congrArg (Value.int .i64) (by omega)
        · rw [hwp]
          simp only [intOf]
          omega
      · have hkl2 : k < s.length := by omega
        have hke : ((k : Int) == s.length) = false := beq_eq_false_iff_ne.2 (by omega)
        have r3 : (k : Int) < s.length := by omega
        have r4 : (k : Int) < q.size := by omega
        have r5 : k < q.size := by omega
        have HG := Lib.hid (HQG.out k r5)
        have HGX := Lib.hid (List.getElem?_eq_getElem hkl2)
        have hgd : s.getD k 0 = s[k] := by rw [List.getD_eq_getElem?_getD, List.getElem?_eq_getElem hkl2]; rfl
        rw [hgd] at HG
        by_cases h32 : s[k] = 32
        · have HSP := Lib.hid (split_at hkl2 h2 HQ.out.1 (by rw [HGX.out, h32]))
          have h32' : ((q[k]'r5).toNat : Int) = 32 := by rw [HG.out, h32]; rfl
          have HWQ := Lib.hid (fun (w6 : World) (v' : Value) (h : WS w.heap.size w w6 v' (ws ++ [(s.take k).drop g])) => show WdR w w6 v' s (k + 1) (k + 1) (ws ++ [(s.take k).drop g]) from ⟨h, by simp; omega, .inl ⟨by omega, by omega, fun j h1 h2 => by omega, by rw [HQ.out.2, HSP.out]; simp⟩⟩)
          clear h32
          go_wp2_with (at_builtin; go_loud (refine wpList_app _ rfl _ _ 45 rfl w.heap.size 9 i0 (.string ⟨#[]⟩) 1 16 Tryd.underlying45 HI.out.1 HI.out.2.1 HI.out.2.2.1 HI.out.2.2.2 rfl (by decide) _ _ _ rfl HOW.out (some ⟨wr.heap.size, 0, none⟩) 1 1 [.string (q.extract g k)] rfl rfl (cells_newU wr rfl _ _) (one_strB _) (by have := HSN.out; unfold maxLen; omega) (by have := HSN.out; omega) hsb2 ?_; intro v' w6 hown' hgrow _; have NX := Lib.hid (HWQ.out _ _ (HNX.out _ _ hgrow hown')); clear hown' hgrow))
          try rw [hwp]
          refine ⟨⟨k + 1, k + 1, _, ?_, ?_, by omega, NX⟩, ?_⟩
          · exact congrArg (Value.int .i64) (by omega)
          · exact congrArg (Value.int .i64) (by omega)
          · simp only [intOf]
            omega
        · have h32' : ¬ ((q[k]'r5).toNat : Int) = 32 := by
            rw [HG.out]
            intro e
            exact h32 (UInt8.toNat_inj.1 (by show s[k].toNat = 32; omega))
          have NX := Lib.hid (show WdR w wr u3 s (k + 1) g ws from ⟨HW.out, by omega, .inl ⟨by omega, by omega, fun j a b => by
            by_cases e : j = k
            · rw [e, HGX.out]; exact fun e => h32 (Option.some.inj e)
            · exact HQ.out.1 j a (by omega), HQ.out.2⟩⟩)
          clear h32
          go_wp2_with fail
          try rw [hwp]
          refine ⟨⟨k + 1, g, ws, rfl, ?_, by omega, NX⟩, ?_⟩
          · exact congrArg (Value.int .i64) (by omega)
          · simp only [intOf]
            omega
    · have HN := Lib.hid (show WS w.heap.size w wr u3 (splitL s) from by rw [← h2]; exact hw)
      have hkl : (s.length : Int) < k := by omega
      clear hd hw h2
      go_wp2_with fail
      exact bodyPost_ret (v := u3) (by simp [results, Tryd.results21]) rfl ⟨_, rfl, HN.out⟩
theorem words_any (s : List UInt8) (w : World) (hs : s.length ≤ 1000000000) :
    Calls Tryd.prog 21 #[.string (bs s)] w fun e w' => ∃ v, e = .returned v ∧ WS w.heap.size w w' v (splitL s) := words_q (bs s) s rfl w hs

end Go.Proofs.YtodiijoeeeeicaaDoor
