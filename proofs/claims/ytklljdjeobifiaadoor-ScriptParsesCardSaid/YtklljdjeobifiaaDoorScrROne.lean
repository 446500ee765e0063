/-
  The reference's Of, lines, One and Valid.
-/
import Derived.Test.YtklljdjeobifiaaDoorScrRNm
namespace Go.Proofs.YtklljdjeobifiaaDoor
open Go.ChangeShapes Go.WideShapes Go.ChangeAt Go.RowKit Go.Sort Go.Maps

theorem cellsAt_cell0 {w : World} {b : Nat} {cs : List Value} (h : CellsAt w (some ⟨b, 0, none⟩) cs) {j : Nat} {u : Value} (hu : cs[j]? = some u) : w.cell? ⟨b, j, none⟩ = some u := by
  obtain ⟨b', o', e, h1⟩ := h j u hu
  cases e
  simpa using h1
def rsV (s : Shp) : Value := .agg #[.string (bs s.word), .bool s.name, .bool s.text, .int .i64 s.nums]
def RetOf (o : Option Shp) (w : World) (e : Ending) (w' : World) : Prop :=
  (o = none → e = .returned (.tuple #[.agg #[.string ⟨#[]⟩, .bool false, .bool false, .int .i64 0], .bool false])) ∧ (∀ s, o = some s → e = .returned (.tuple #[.agg #[.string (bs s.word), .bool s.name, .bool s.text, .int .i64 s.nums], .bool true])) ∧ Below w.heap.size w w'
theorem findK_out {k : Nat} (h : k < 1 ∨ 14 < k) : findK k = none := by
  unfold findK
  rw [List.find?_eq_none]
  intro s hs
  simp only [shpL, List.mem_cons, List.not_mem_nil, or_false] at hs
  rcases hs with h | h | h | h | h | h | h | h | h | h | h | h | h | h <;> (subst h; simp; omega)
theorem fourteen {m : Nat} (h : m < 14) : m = 0 ∨ m = 1 ∨ m = 2 ∨ m = 3 ∨ m = 4 ∨ m = 5 ∨ m = 6 ∨ m = 7 ∨ m = 8 ∨ m = 9 ∨ m = 10 ∨ m = 11 ∨ m = 12 ∨ m = 13 := by omega
theorem findK_in {m : Nat} (h : m < 14) : ∃ s, findK (m + 1) = some s ∧ ([.string ⟨#[108, 111, 97, 100]⟩, .bool false, .bool true, .int .i64 0, .string ⟨#[105, 110, 112, 117, 116]⟩, .bool false, .bool false, .int .i64 (-1), .string ⟨#[114, 117, 110]⟩, .bool false, .bool false, .int .i64 1, .string ⟨#[98, 97, 99, 107]⟩, .bool false, .bool false, .int .i64 1, .string ⟨#[99, 104, 101, 99, 107]⟩, .bool false, .bool false, .int .i64 0, .string ⟨#[105, 110, 118, 101, 114, 116]⟩, .bool false, .bool false, .int .i64 0, .string ⟨#[99, 111, 109, 112, 105, 108, 101]⟩, .bool false, .bool false, .int .i64 0, .string ⟨#[115, 116, 101, 112]⟩, .bool false, .bool false, .int .i64 1, .string ⟨#[115, 104, 111, 119]⟩, .bool false, .bool false, .int .i64 0, .string ⟨#[102, 117, 110, 99, 116, 105, 111, 110, 115]⟩, .bool false, .bool true, .int .i64 0, .string ⟨#[101, 118, 97, 108, 117, 97, 116, 101]⟩, .bool true, .bool false, .int .i64 (-1), .string ⟨#[115, 117, 98, 109, 105, 116]⟩, .bool true, .bool true, .int .i64 4, .string ⟨#[117, 110, 100, 111]⟩, .bool false, .bool false, .int .i64 0, .string ⟨#[112, 111, 105, 110, 116, 115]⟩, .bool true, .bool false, .int .i64 0] : List Value)[m * 4]? = some (.string (bs s.word)) ∧ ([.string ⟨#[108, 111, 97, 100]⟩, .bool false, .bool true, .int .i64 0, .string ⟨#[105, 110, 112, 117, 116]⟩, .bool false, .bool false, .int .i64 (-1), .string ⟨#[114, 117, 110]⟩, .bool false, .bool false, .int .i64 1, .string ⟨#[98, 97, 99, 107]⟩, .bool false, .bool false, .int .i64 1, .string ⟨#[99, 104, 101, 99, 107]⟩, .bool false, .bool false, .int .i64 0, .string ⟨#[105, 110, 118, 101, 114, 116]⟩, .bool false, .bool false, .int .i64 0, .string ⟨#[99, 111, 109, 112, 105, 108, 101]⟩, .bool false, .bool false, .int .i64 0, .string ⟨#[115, 116, 101, 112]⟩, .bool false, .bool false, .int .i64 1, .string ⟨#[115, 104, 111, 119]⟩, .bool false, .bool false, .int .i64 0, .string ⟨#[102, 117, 110, 99, 116, 105, 111, 110, 115]⟩, .bool false, .bool true, .int .i64 0, .string ⟨#[101, 118, 97, 108, 117, 97, 116, 101]⟩, .bool true, .bool false, .int .i64 (-1), .string ⟨#[115, 117, 98, 109, 105, 116]⟩, .bool true, .bool true, .int .i64 4, .string ⟨#[117, 110, 100, 111]⟩, .bool false, .bool false, .int .i64 0, .string ⟨#[112, 111, 105, 110, 116, 115]⟩, .bool true, .bool false, .int .i64 0] : List Value)[m * 4 + 1]? = some (.bool s.name) ∧ ([.string ⟨#[108, 111, 97, 100]⟩, .bool false, .bool true, .int .i64 0, .string ⟨#[105, 110, 112, 117, 116]⟩, .bool false, .bool false, .int .i64 (-1), .string ⟨#[114, 117, 110]⟩, .bool false, .bool false, .int .i64 1, .string ⟨#[98, 97, 99, 107]⟩, .bool false, .bool false, .int .i64 1, .string ⟨#[99, 104, 101, 99, 107]⟩, .bool false, .bool false, .int .i64 0, .string ⟨#[105, 110, 118, 101, 114, 116]⟩, .bool false, .bool false, .int .i64 0, .string ⟨#[99, 111, 109, 112, 105, 108, 101]⟩, .bool false, .bool false, .int .i64 0, .string ⟨#[115, 116, 101, 112]⟩, .bool false, .bool false, .int .i64 1, .string ⟨#[115, 104, 111, 119]⟩, .bool false, .bool false, .int .i64 0, .string ⟨#[102, 117, 110, 99, 116, 105, 111, 110, 115]⟩, .bool false, .bool true, .int .i64 0, .string ⟨#[101, 118, 97, 108, 117, 97, 116, 101]⟩, .bool true, .bool false, .int .i64 (-1), .string ⟨#[115, 117, 98, 109, 105, 116]⟩, .bool true, .bool true, .int .i64 4, .string ⟨#[117, 110, 100, 111]⟩, .bool false, .bool false, .int .i64 0, .string ⟨#[112, 111, 105, 110, 116, 115]⟩, .bool true, .bool false, .int .i64 0] : List Value)[m * 4 + 2]? = some (.bool s.text) ∧ ([.string ⟨#[108, 111, 97, 100]⟩, .bool false, .bool true, .int .i64 0, .string ⟨#[105, 110, 112, 117, 116]⟩, .bool false, .bool false, .int .i64 (-1), .string ⟨#[114, 117, 110]⟩, .bool false, .bool false, .int .i64 1, .string ⟨#[98, 97, 99, 107]⟩, .bool false, .bool false, .int .i64 1, .string ⟨#[99, 104, 101, 99, 107]⟩, .bool false, .bool false, .int .i64 0, .string ⟨#[105, 110, 118, 101, 114, 116]⟩, .bool false, .bool false, .int .i64 0, .string ⟨#[99, 111, 109, 112, 105, 108, 101]⟩, .bool false, .bool false, .int .i64 0, .string ⟨#[115, 116, 101, 112]⟩, .bool false, .bool false, .int .i64 1, .string ⟨#[115, 104, 111, 119]⟩, .bool false, .bool false, .int .i64 0, .string ⟨#[102, 117, 110, 99, 116, 105, 111, 110, 115]⟩, .bool false, .bool true, .int .i64 0, .string ⟨#[101, 118, 97, 108, 117, 97, 116, 101]⟩, .bool true, .bool false, .int .i64 (-1), .string ⟨#[115, 117, 98, 109, 105, 116]⟩, .bool true, .bool true, .int .i64 4, .string ⟨#[117, 110, 100, 111]⟩, .bool false, .bool false, .int .i64 0, .string ⟨#[112, 111, 105, 110, 116, 115]⟩, .bool true, .bool false, .int .i64 0] : List Value)[m * 4 + 3]? = some (.int .i64 s.nums) := by
  rcases fourteen h with h | h | h | h | h | h | h | h | h | h | h | h | h | h <;> (subst h; exact ⟨_, rfl, rfl, rfl, rfl, rfl⟩)

set_option maxRecDepth 100000 in
set_option maxHeartbeats 2000000 in
theorem rof_any (k : Nat) (hk : k < 256) (w : World) : Calls Tryd.prog 41 #[.int .u8 k] w (RetOf (findK k) w) := by
  have b1 := below_box w (Obj.cells #[.string ⟨#[]⟩, .bool false, .bool false, .int .i64 0] 79)
  have rb := bx_new w #[.string ⟨#[]⟩, .bool false, .bool false, .int .i64 0] 79
  go_enter Tryd.func41, Tryd.ntmps41
  go_upto_region 1 with fail
  generalize w.alloc _ = W at b1 rb ⊢
  have b2 := below_box W (Obj.cells #[.string ⟨#[108, 111, 97, 100]⟩, .bool false, .bool true, .int .i64 0, .string ⟨#[105, 110, 112, 117, 116]⟩, .bool false, .bool false, .int .i64 (-1), .string ⟨#[114, 117, 110]⟩, .bool false, .bool false, .int .i64 1, .string ⟨#[98, 97, 99, 107]⟩, .bool false, .bool false, .int .i64 1, .string ⟨#[99, 104, 101, 99, 107]⟩, .bool false, .bool false, .int .i64 0, .string ⟨#[105, 110, 118, 101, 114, 116]⟩, .bool false, .bool false, .int .i64 0, .string ⟨#[99, 111, 109, 112, 105, 108, 101]⟩, .bool false, .bool false, .int .i64 0, .string ⟨#[115, 116, 101, 112]⟩, .bool false, .bool false, .int .i64 1, .string ⟨#[115, 104, 111, 119]⟩, .bool false, .bool false, .int .i64 0, .string ⟨#[102, 117, 110, 99, 116, 105, 111, 110, 115]⟩, .bool false, .bool true, .int .i64 0, .string ⟨#[101, 118, 97, 108, 117, 97, 116, 101]⟩, .bool true, .bool false, .int .i64 (-1), .string ⟨#[115, 117, 98, 109, 105, 116]⟩, .bool true, .bool true, .int .i64 4, .string ⟨#[117, 110, 100, 111]⟩, .bool false, .bool false, .int .i64 0, .string ⟨#[112, 111, 105, 110, 116, 115]⟩, .bool true, .bool false, .int .i64 0] 79)
  have hC := cells_newU W rfl [.string ⟨#[108, 111, 97, 100]⟩, .bool false, .bool true, .int .i64 0, .string ⟨#[105, 110, 112, 117, 116]⟩, .bool false, .bool false, .int .i64 (-1), .string ⟨#[114, 117, 110]⟩, .bool false, .bool false, .int .i64 1, .string ⟨#[98, 97, 99, 107]⟩, .bool false, .bool false, .int .i64 1, .string ⟨#[99, 104, 101, 99, 107]⟩, .bool false, .bool false, .int .i64 0, .string ⟨#[105, 110, 118, 101, 114, 116]⟩, .bool false, .bool false, .int .i64 0, .string ⟨#[99, 111, 109, 112, 105, 108, 101]⟩, .bool false, .bool false, .int .i64 0, .string ⟨#[115, 116, 101, 112]⟩, .bool false, .bool false, .int .i64 1, .string ⟨#[115, 104, 111, 119]⟩, .bool false, .bool false, .int .i64 0, .string ⟨#[102, 117, 110, 99, 116, 105, 111, 110, 115]⟩, .bool false, .bool true, .int .i64 0, .string ⟨#[101, 118, 97, 108, 117, 97, 116, 101]⟩, .bool true, .bool false, .int .i64 (-1), .string ⟨#[115, 117, 98, 109, 105, 116]⟩, .bool true, .bool true, .int .i64 4, .string ⟨#[117, 110, 100, 111]⟩, .bool false, .bool false, .int .i64 0, .string ⟨#[112, 111, 105, 110, 116, 115]⟩, .bool true, .bool false, .int .i64 0] 79
  have hge := b1.size
  have hlt := rb.lt
  go_upto_region 2 with fail
  generalize hB : W.heap.size = B at *
  generalize World.alloc W _ = W2 at b2 hC ⊢
  have q2 := Lib.hid (below_step b1 (by omega) (by rw [hB]; exact b2))
  have rb2 := rb.below (by rw [hB]; exact b2)
  clear b1 b2 rb
  obtain ⟨y0, y1, y2, y3, z0, z1, z2, z3⟩ := rb2.four
  by_cases h0 : k < 1 ∨ 14 < k
  · have HF := Lib.hid (findK_out h0)
    clear hC
    by_cases h1 : k < 1
    · go_wp2_with fail
      have rbF := (((rb2.set 0 (.string ⟨#[]⟩)).set 1 (.bool false)).set 2 (.bool false)).set 3 (.int .i64 0)
      have qF := (((q2.out.setCell (p := ⟨w.heap.size, 0, none⟩) (Nat.le_refl _) (.string ⟨#[]⟩)).setCell (p := ⟨w.heap.size, 1, none⟩) (Nat.le_refl _) (.bool false)).setCell (p := ⟨w.heap.size, 2, none⟩) (Nat.le_refl _) (.bool false)).setCell (p := ⟨w.heap.size, 3, none⟩) (Nat.le_refl _) (.int .i64 0)
      generalize World.setCell _ _ _ = WF at rbF qF ⊢
      have s0 := rbF.cell (j := 0) rfl
      have s1 := rbF.cell (j := 1) rfl
      have s2 := rbF.cell (j := 2) rfl
      have s3 := rbF.cell (j := 3) rfl
      exact bodyPost_ret (v := .tuple #[.agg #[.string ⟨#[]⟩, .bool false, .bool false, .int .i64 0], .bool false]) (by simp [results, Tryd.results41, go_sem, s0, s1, s2, s3]) rfl ⟨fun _ => rfl, fun s h => (by rw [HF.out] at h; cases h), qF⟩
    · have h14 : 14 < k := by omega
      go_wp2_with fail
      have rbF := (((rb2.set 0 (.string ⟨#[]⟩)).set 1 (.bool false)).set 2 (.bool false)).set 3 (.int .i64 0)
      have qF := (((q2.out.setCell (p := ⟨w.heap.size, 0, none⟩) (Nat.le_refl _) (.string ⟨#[]⟩)).setCell (p := ⟨w.heap.size, 1, none⟩) (Nat.le_refl _) (.bool false)).setCell (p := ⟨w.heap.size, 2, none⟩) (Nat.le_refl _) (.bool false)).setCell (p := ⟨w.heap.size, 3, none⟩) (Nat.le_refl _) (.int .i64 0)
      generalize World.setCell _ _ _ = WF at rbF qF ⊢
      have s0 := rbF.cell (j := 0) rfl
      have s1 := rbF.cell (j := 1) rfl
      have s2 := rbF.cell (j := 2) rfl
      have s3 := rbF.cell (j := 3) rfl
      exact bodyPost_ret (v := .tuple #[.agg #[.string ⟨#[]⟩, .bool false, .bool false, .int .i64 0], .bool false]) (by simp [results, Tryd.results41, go_sem, s0, s1, s2, s3]) rfl ⟨fun _ => rfl, fun s h => (by rw [HF.out] at h; cases h), qF⟩
  · obtain ⟨m, rfl⟩ : ∃ m, k = m + 1 := ⟨k - 1, by omega⟩
    obtain ⟨s, hf, e0, e1, e2, e3⟩ := findK_in (m := m) (by omega)
    have HF := Lib.hid hf
    have c0 := cellsAt_cell0 hC e0
    have c1 := cellsAt_cell0 hC e1
    have c2 := cellsAt_cell0 hC e2
    have c3 := cellsAt_cell0 hC e3
    have hltB := block_lt_of_cell c0
    clear hC hf e0 e1 e2 e3
    have r0 : ¬ ((m : Int) + 1 < 1) := by omega
    have r1 : (0 : Int) ≤ m := by omega
    have r2 : (m : Int) < 14 := by omega
    have n1 : w.heap.size ≠ B := by omega
    go_wp2_with fail
    have rbF := (((rb2.set 0 (.string (bs s.word))).set 1 (.bool s.name)).set 2 (.bool s.text)).set 3 (.int .i64 s.nums)
    have qF := (((q2.out.setCell (p := ⟨w.heap.size, 0, none⟩) (Nat.le_refl _) (.string (bs s.word))).setCell (p := ⟨w.heap.size, 1, none⟩) (Nat.le_refl _) (.bool s.name)).setCell (p := ⟨w.heap.size, 2, none⟩) (Nat.le_refl _) (.bool s.text)).setCell (p := ⟨w.heap.size, 3, none⟩) (Nat.le_refl _) (.int .i64 s.nums)
    generalize World.setCell _ _ _ = WF at rbF qF ⊢
    have s0 := rbF.cell (j := 0) rfl
    have s1 := rbF.cell (j := 1) rfl
    have s2 := rbF.cell (j := 2) rfl
    have s3 := rbF.cell (j := 3) rfl
    exact bodyPost_ret (v := .tuple #[.agg #[.string (bs s.word), .bool s.name, .bool s.text, .int .i64 s.nums], .bool true]) (by simp [results, Tryd.results41, go_sem, s0, s1, s2, s3]) rfl ⟨fun h => (by rw [HF.out] at h; cases h), fun s' h => (by rw [HF.out] at h; cases h; rfl), qF⟩

theorem rlines_any (l : List UInt8) (w : World) (hl : l.length ≤ 9223372036854775807) :
    Calls Tryd.prog 45 #[.string (bs l)] w fun e w' => e = .returned (.int .i64 ((l.count 10 : Nat) : Int)) ∧ w = w' := by
  have hz := bs_size l
  go_enter Tryd.func45, Tryd.ntmps45
  go_wp2_with fail
  go_loop [3, 4] (fun n i => ∃ k : Nat, k ≤ l.length ∧ i = .int .i64 k ∧ n = .int .i64 ((l.take k).count 10 : Nat)) (fun _ i => l.length - (intOf i).toNat)
  case atStart => exact ⟨0, by omega, rfl, rfl⟩
  case round =>
    obtain ⟨k, hk, rfl, rfl⟩ := hrel
    by_cases hin : k < l.length
    · have hin' : k < (bs l).size := by omega
      have r1 : (0 : Int) ≤ k := by omega
      have r2 : (k : Int) < ((bs l).size : Int) := by omega
      obtain ⟨c, hc⟩ : ∃ c, (bs l)[k]'hin' = c := ⟨_, rfl⟩
      have hlc : l[k]? = some c := by
        have := byte_at (bs l) hin'
        rw [data_bs, hc] at this
        exact this
      have HST : (l.take (k + 1)).count 10 = (l.take k).count 10 + (if c = 10 then 1 else 0) := by
        rw [List.take_add_one, hlc, List.count_append]
        simp [List.count_cons]
      have hcl : (l.take k).count 10 ≤ k := Nat.le_trans List.count_le_length (by simp; omega)
      generalize (l.take k).count 10 = n at *
      cases hq : ((c.toNat : Int) == 10) with
      | true =>
        have HN := Lib.hid (show (l.take (k + 1)).count 10 = n + 1 by
          rw [HST, if_pos]
          apply UInt8.toNat_inj.1
          have := eq_of_beq hq
          show _ = 10
          omega)
        clear HST
        go_wp2_with fail
        exact ⟨⟨k + 1, by omega, by go_num, by rw [HN.out]; go_num⟩, by simp [intOf]; omega⟩
      | false =>
        have HN := Lib.hid (show (l.take (k + 1)).count 10 = n by
          rw [HST, if_neg]
          · rfl
          · intro e; rw [e] at hq; simp at hq)
        clear HST
        go_wp2_with fail
        exact ⟨⟨k + 1, by omega, by go_num, by rw [HN.out]⟩, by simp [intOf]; omega⟩
    · obtain rfl : k = l.length := by omega
      rw [List.take_length]
      go_wp2_with fail
      go_ret
      exact ⟨rfl, rfl⟩

theorem last_at {l : List UInt8} (h : l.isEmpty = false) : ∃ (b : UInt8) (hb : (bs l).size - 1 < (bs l).size), (bs l)[(bs l).size - 1]'hb = b ∧ Lib.hasSuffix l [10] = ((b.toNat : Int) == 10) := by
  have hpos : 0 < l.length := by cases l with | nil => simp at h | cons a r => simp
  have hz := bs_size l
  have hb : (bs l).size - 1 < (bs l).size := by omega
  refine ⟨_, hb, rfl, ?_⟩
  have hat := byte_at (bs l) hb
  rw [data_bs] at hat
  generalize (bs l)[(bs l).size - 1]'hb = b at hat ⊢
  rw [hz] at hat
  have hl : l = l.dropLast ++ [b] := by
    have h1 : l ≠ [] := by intro e; rw [e] at hpos; simp at hpos
    have h2 : l.getLast h1 = b := by
      rw [List.getLast_eq_getElem]
      rw [List.getElem?_eq_getElem (by omega)] at hat
      exact Option.some.inj hat
    rw [← h2]; exact (List.dropLast_concat_getLast h1).symm
  rw [show ((b.toNat : Int) == 10) = (b == UInt8.ofNat 10) from (u8_eq b 10 (by decide)).symm]
  unfold Lib.hasSuffix List.isSuffixOf
  rw [hl, List.reverse_append]
  show ((10 == b) && List.isPrefixOf [] l.dropLast.reverse) = (b == 10)
  rw [List.isPrefixOf, Bool.and_true, Bool.eq_iff_iff, beq_iff_eq, beq_iff_eq]
  exact eq_comm

set_option maxRecDepth 100000 in
set_option maxHeartbeats 2000000 in
theorem rone_any (c : Cm) (hk : c.kind < 256) (A : Option Addr) (cap : Nat) (w : World) (hs : Sm c) :
    Calls Tryd.prog 28 #[.agg #[.int .u8 c.kind, .string (bs c.name), .string (bs c.text), .slice A c.nums.length cap]] w fun e w' => e = .returned (.bool (okC c)) ∧ Below w.heap.size w w' := by
  obtain ⟨hsn, hst, hsk⟩ := hs
  have b1 := below_box w (Obj.cells #[.int .u8 c.kind, .string (bs c.name), .string (bs c.text), .slice A c.nums.length cap] 45)
  have cb := bx_new w #[.int .u8 c.kind, .string (bs c.name), .string (bs c.text), .slice A c.nums.length cap] 45
  have HOK := Lib.hid (okC.eq_def c)
  have HOF := Lib.hid (fun W => rof_any c.kind hk W)
  cases hf : findK c.kind with
  | none =>
    have HO := Lib.hid (show okC c = false by rw [HOK.out, hf])
    have HF := Lib.hid hf
    clear hf
    go_enter Tryd.func28, Tryd.ntmps28
    go_wp2_with fail
    generalize w.alloc _ = W at b1 cb ⊢
    refine (HOF.out W).mono ?_
    rintro e w2 ⟨he, _, hb2⟩
    obtain rfl := he HF.out
    have q2 := below_step b1 b1.size hb2
    have bb := below_box w2 (Obj.cells #[.string ⟨#[]⟩, .bool false, .bool false, .int .i64 0] 79)
    have q3 := below_step q2 q2.size bb
    clear hb2 bb b1
    go_wp2_with fail
    go_ret
    exact ⟨ret_bool HO.out.symm, q3⟩
  | some s =>
    rw [hf] at HOK
    have HF := Lib.hid hf
    have HNS := Lib.hid (shp_all s (findK_some hf).1).2.2.2.2.1
    clear hf
    go_enter Tryd.func28, Tryd.ntmps28
    go_wp2_with fail
    generalize w.alloc _ = W at b1 cb ⊢
    refine (HOF.out W).mono ?_
    rintro e w2 ⟨_, he, hb2⟩
    obtain rfl := he s HF.out
    have q2 := Lib.hid (below_step b1 b1.size hb2)
    have cb2 := cb.below hb2
    have bb := below_box w2 (Obj.cells #[.string (bs s.word), .bool s.name, .bool s.text, .int .i64 s.nums] 79)
    have sb := bx_new w2 #[.string (bs s.word), .bool s.name, .bool s.text, .int .i64 s.nums] 79
    have q3 := Lib.hid (below_step q2.out q2.out.size bb)
    have hlt2 := cb2.lt
    have cb3 := cb2.below bb
    clear b1 cb hb2 bb q2 he cb2
    have ze := empty_bs c.name
    have te := empty_bs c.text
    generalize s.name = sn at *
    generalize s.text = st at *
    generalize s.nums = sm at *
    generalize s.word = sw at *
    have HOK := Lib.hid (show okC c = if (sn && !nmB c.name || !sn && !c.name.isEmpty) = true then false else if (decide (sm ≠ -1 ∧ (c.nums.length : Int) ≠ sm) || decide (4096 < c.nums.length)) = true then false else if st = false then c.text.isEmpty else decide (c.text.length ≤ 65536) && (c.text.isEmpty || Lib.hasSuffix c.text [10]) from HOK.out)
    go_upto_region 2 with fail
    generalize w2.alloc _ = W3 at q3 cb3 sb ⊢
    obtain ⟨a0, a1, a2, a3, _⟩ := cb3.four
    obtain ⟨b0, b1, b2, b3, _⟩ := sb.four
    have hlt3 := sb.lt
    cases sn with
    | true =>
      have HNM := Lib.hid (fun W => rname_any c.name W hsn)
      cases hn : c.name.isEmpty with
      | true =>
        have HO := Lib.hid (show okC c = false by rw [HOK.out, List.isEmpty_iff.1 hn]; rfl)
        rw [hn] at ze
        go_wp2_with fail
        go_ret
        exact ⟨ret_bool HO.out.symm, q3.out⟩
      | false =>
        rw [hn] at ze
        clear hn
        unfold RetName at HNM
        generalize nmB c.name = nm at *
        go_wp2_with fail
        refine (HNM.out _).mono ?_
        rintro e w4 ⟨rfl, hb4⟩
        have q4 := Lib.hid (below_step q3.out q3.out.size hb4)
        obtain ⟨a0, a1, a2, a3, _⟩ := (cb3.below hb4).four
        obtain ⟨b0, b1, b2, b3, _⟩ := (sb.below hb4).four
        have hlt4 := (sb.below hb4).lt
        clear hb4 q3 cb3 sb
        cases nm with
        | false =>
          have HO := Lib.hid (show okC c = false by rw [HOK.out]; simp)
          go_wp2_with fail
          go_ret
          exact ⟨ret_bool HO.out.symm, q4.out⟩
        | true =>
          have HO1 := Lib.hid (show okC c = if (decide (sm ≠ -1 ∧ (c.nums.length : Int) ≠ sm) || decide (4096 < c.nums.length)) = true then false else if st = false then c.text.isEmpty else decide (c.text.length ≤ 65536) && (c.text.isEmpty || Lib.hasSuffix c.text [10]) by rw [HOK.out, if_neg (by simp)])
          clear HOK
          have hs1 : (sm = -1 ∧ decide (0 ≤ sm) = false) ∨ (0 ≤ sm ∧ decide (0 ≤ sm) = true ∧ (c.nums.length : Int) ≠ sm ∧ ((c.nums.length : Int) != sm) = true) ∨ (0 ≤ sm ∧ decide (0 ≤ sm) = true ∧ (c.nums.length : Int) = sm ∧ ((c.nums.length : Int) != sm) = false) := by
            by_cases h1 : 0 ≤ sm
            · by_cases h2 : (c.nums.length : Int) = sm
              · exact .inr (.inr ⟨h1, by simpa using h1, h2, by simpa using h2⟩)
              · exact .inr (.inl ⟨h1, by simpa using h1, h2, by simpa using h2⟩)
            · exact .inl ⟨by have := HNS.out; omega, by simpa using h1⟩
          have hs2 : 4096 < c.nums.length ∨ ¬ 4096 < c.nums.length := Classical.em _
          rcases hs1 with ⟨g1, g2⟩ | ⟨g1, g2, g3, g4⟩ | ⟨g1, g2, g3, g4⟩
          all_goals
            rcases hs2 with h4 | h4
            all_goals
              first
                | (have HO := Lib.hid (show okC c = false by rw [HO1.out, if_pos (by simp; omega)])
                   clear HO1
                   have G1 := Lib.hid g1
                   try (have G3 := Lib.hid g3; clear g3)
                   go_wp2_with fail
                   go_ret
                   exact ⟨ret_bool HO.out.symm, q4.out⟩)
                | (have HO2 := Lib.hid (HO1.out.trans (if_neg (by simp; omega)))
                   clear HO1
                   have G1 := Lib.hid g1
                   try (have G3 := Lib.hid g3; clear g3)
                   cases st with
                   | false =>
                     have HO := Lib.hid (HO2.out.trans (if_pos rfl))
                     clear HO2
                     go_wp2_with fail
                     go_ret
                     exact ⟨ret_bool HO.out.symm, q4.out⟩
                   | true =>
                     have HO3 := Lib.hid (HO2.out.trans (if_neg (by simp)))
                     clear HO2
                     by_cases h65 : c.text.length ≤ 65536
                     · have HO4 := Lib.hid (HO3.out.trans (by simp [h65] : _ = (c.text.isEmpty || Lib.hasSuffix c.text [10])))
                       clear HO3
                       have hz : ((bs c.text).size : Int) ≤ 65536 := by rw [bs_size]; omega
                       cases hx : c.text.isEmpty with
                       | true =>
                         have HO := Lib.hid (HO4.out.trans (by rw [hx]; rfl : _ = true))
                         rw [hx] at te
                         clear hx HO4
                         go_wp2_with fail
                         go_ret
                         exact ⟨ret_bool HO.out.symm, q4.out⟩
                       | false =>
                         have HO := Lib.hid (HO4.out.trans (by rw [hx]; rfl : _ = Lib.hasSuffix c.text [10]))
                         obtain ⟨bl, hbi, hb1, hb2⟩ := last_at hx
                         rw [hx] at te
                         clear hx HO4
                         have r1 : (0 : Int) ≤ ((bs c.text).size : Int) - 1 := by omega
                         have r2 : ((bs c.text).size : Int) - 1 < ((bs c.text).size : Int) := by omega
                         go_wp2_with fail
                         go_ret
                         exact ⟨ret_bool (by rw [HO.out, hb2, ← hb1]), q4.out⟩
                     · have HO := Lib.hid (HO3.out.trans (by simp [h65] : _ = false))
                       clear HO3
                       have hz : ¬ ((bs c.text).size : Int) ≤ 65536 := by rw [bs_size]; omega
                       go_wp2_with fail
                       go_ret
                       exact ⟨ret_bool HO.out.symm, q4.out⟩)
    | false =>
      clear cb3 sb
      cases hn : c.name.isEmpty with
      | false =>
        have HO := Lib.hid (show okC c = false by rw [HOK.out, hn]; simp)
        rw [hn] at ze
        go_wp2_with fail
        go_ret
        exact ⟨ret_bool HO.out.symm, q3.out⟩
      | true =>
        have HO1 := Lib.hid (show okC c = if (decide (sm ≠ -1 ∧ (c.nums.length : Int) ≠ sm) || decide (4096 < c.nums.length)) = true then false else if st = false then c.text.isEmpty else decide (c.text.length ≤ 65536) && (c.text.isEmpty || Lib.hasSuffix c.text [10]) by rw [HOK.out, hn, if_neg (by simp)])
        rw [hn] at ze
        clear HOK hn
        have hs1 : (sm = -1 ∧ decide (0 ≤ sm) = false) ∨ (0 ≤ sm ∧ decide (0 ≤ sm) = true ∧ (c.nums.length : Int) ≠ sm ∧ ((c.nums.length : Int) != sm) = true) ∨ (0 ≤ sm ∧ decide (0 ≤ sm) = true ∧ (c.nums.length : Int) = sm ∧ ((c.nums.length : Int) != sm) = false) := by
          by_cases h1 : 0 ≤ sm
          · by_cases h2 : (c.nums.length : Int) = sm
            · exact .inr (.inr ⟨h1, by simpa using h1, h2, by simpa using h2⟩)
            · exact .inr (.inl ⟨h1, by simpa using h1, h2, by simpa using h2⟩)
          · exact .inl ⟨by have := HNS.out; omega, by simpa using h1⟩
        have hs2 : 4096 < c.nums.length ∨ ¬ 4096 < c.nums.length := Classical.em _
        rcases hs1 with ⟨g1, g2⟩ | ⟨g1, g2, g3, g4⟩ | ⟨g1, g2, g3, g4⟩
        all_goals
          rcases hs2 with h4 | h4
          all_goals
            first
              | (have HO := Lib.hid (show okC c = false by rw [HO1.out, if_pos (by simp; omega)])
                 clear HO1
                 have G1 := Lib.hid g1
                 try (have G3 := Lib.hid g3; clear g3)
                 go_wp2_with fail
                 go_ret
                 exact ⟨ret_bool HO.out.symm, q3.out⟩)
              | (have HO2 := Lib.hid (HO1.out.trans (if_neg (by simp; omega)))
                 clear HO1
                 have G1 := Lib.hid g1
                 try (have G3 := Lib.hid g3; clear g3)
                 cases st with
                 | false =>
                   have HO := Lib.hid (HO2.out.trans (if_pos rfl))
                   clear HO2
                   go_wp2_with fail
                   go_ret
                   exact ⟨ret_bool HO.out.symm, q3.out⟩
                 | true =>
                   have HO3 := Lib.hid (HO2.out.trans (if_neg (by simp)))
                   clear HO2
                   by_cases h65 : c.text.length ≤ 65536
                   · have HO4 := Lib.hid (HO3.out.trans (by simp [h65] : _ = (c.text.isEmpty || Lib.hasSuffix c.text [10])))
                     clear HO3
                     have hz : ((bs c.text).size : Int) ≤ 65536 := by rw [bs_size]; omega
                     cases hx : c.text.isEmpty with
                     | true =>
                       have HO := Lib.hid (HO4.out.trans (by rw [hx]; rfl : _ = true))
                       rw [hx] at te
                       clear hx HO4
                       go_wp2_with fail
                       go_ret
                       exact ⟨ret_bool HO.out.symm, q3.out⟩
                     | false =>
                       have HO := Lib.hid (HO4.out.trans (by rw [hx]; rfl : _ = Lib.hasSuffix c.text [10]))
                       obtain ⟨bl, hbi, hb1, hb2⟩ := last_at hx
                       rw [hx] at te
                       clear hx HO4
                       have r1 : (0 : Int) ≤ ((bs c.text).size : Int) - 1 := by omega
                       have r2 : ((bs c.text).size : Int) - 1 < ((bs c.text).size : Int) := by omega
                       go_wp2_with fail
                       go_ret
                       exact ⟨ret_bool (by rw [HO.out, hb2, ← hb1]), q3.out⟩
                   · have HO := Lib.hid (HO3.out.trans (by simp [h65] : _ = false))
                     clear HO3
                     have hz : ¬ ((bs c.text).size : Int) ≤ 65536 := by rw [bs_size]; omega
                     go_wp2_with fail
                     go_ret
                     exact ⟨ret_bool HO.out.symm, q3.out⟩)

end Go.Proofs.YtklljdjeobifiaaDoor
