/-
  The reference's cut, words and number.
-/
import Derived.Test.YtklljdjeobifiaaDoorScrRNm
namespace Go.Proofs.YtklljdjeobifiaaDoor
open Go.ChangeShapes Go.WideShapes Go.ChangeAt Go.RowKit Go.Sort Go.Maps

/-- What cut answers. -/
def RetCut (l : List UInt8) (w : World) (e : Ending) (w' : World) : Prop :=
  ((cutL l = none ∧ e = .returned (.tuple #[.string (bs l), .string ⟨#[]⟩, .bool false])) ∨ (∃ a r, cutL l = some (a, r) ∧ e = .returned (.tuple #[.string (bs a), .string (bs r), .bool true]))) ∧ Below w.heap.size w w'
theorem byte_bs {l : List UInt8} {k : Nat} (h : k < (bs l).size) {c : UInt8} (hc : (bs l)[k]'h = c) : l[k]? = some c := by
  have := byte_at (bs l) h
  rw [data_bs, hc] at this
  exact this
theorem u8_ten {c : UInt8} {n : Nat} (hn : n < 256) (h : ((c.toNat : Int) == (n : Int)) = true) : c = UInt8.ofNat n := by rw [← u8_eq c n hn] at h; exact eq_of_beq h
theorem u8_nten {c : UInt8} {n : Nat} (hn : n < 256) (h : ((c.toNat : Int) == (n : Int)) = false) : c ≠ UInt8.ofNat n := by
  rw [← u8_eq c n hn] at h
  intro e; rw [e] at h; simp at h
theorem cut_here {l : List UInt8} {k : Nat} (hall : ∀ j x, j < k → l[j]? = some x → x ≠ 10) (h : l[k]? = some 10) : cutL l = some (l.take k, l.drop (k + 1)) := by
  have hk := (List.getElem?_eq_some_iff.1 h).1
  have e : l = l.take k ++ 10 :: l.drop (k + 1) := by
    have h2 := List.drop_eq_getElem_cons hk
    rw [(List.getElem?_eq_some_iff.1 h).2] at h2
    rw [← h2, List.take_append_drop]
  have := cutL_app (a := l.take k) (r := l.drop (k + 1)) (fun b hb => by
    obtain ⟨j, hj⟩ := List.getElem?_of_mem hb
    have hjk : j < k := by have := (List.getElem?_eq_some_iff.1 hj).1; simp at this; omega
    rw [List.getElem?_take_of_lt hjk] at hj
    exact hall j b hjk hj)
  rw [← e] at this
  exact this
theorem rcut_any (l : List UInt8) (w : World) (hl : l.length ≤ 4611686018427387904) : Calls Tryd.prog 32 #[.string (bs l)] w (RetCut l w) := by
  have hz := bs_size l
  go_enter Tryd.func32, Tryd.ntmps32
  go_wp2_with fail
  go_loop [5] (fun i => ∃ k : Nat, k ≤ l.length ∧ i = .int .i64 k ∧ Hid (∀ j x, j < k → l[j]? = some x → x ≠ 10)) (fun i => l.length - (intOf i).toNat)
  case atStart => exact ⟨0, by omega, rfl, fun j x hj => by omega⟩
  case round =>
    obtain ⟨k, hk, rfl, hall⟩ := hrel
    by_cases hin : k < l.length
    · have hin' : k < (bs l).size := by omega
      have r1 : (0 : Int) ≤ k := by omega
      have r2 : (k : Int) < ((bs l).size : Int) := by omega
      have r3 : (k : Int) ≤ ((bs l).size : Int) := by omega
      have r4 : (k : Int) + 1 ≤ ((bs l).size : Int) := by omega
      obtain ⟨c, hc⟩ : ∃ c, (bs l)[k]'hin' = c := ⟨_, rfl⟩
      have HLC := Lib.hid (byte_bs hin' hc)
      cases hq : ((c.toNat : Int) == 10) with
      | true =>
        have HE := Lib.hid (cut_here hall.out (by rw [HLC.out, u8_ten (n := 10) (by decide) hq]; rfl))
        have HX1 := Lib.hid (show (bs l).extract 0 k = bs (l.take k) by rw [bs_ext]; congr 1 <;> simp)
        have HX2 := Lib.hid (show (bs l).extract (k + 1) l.length = bs (l.drop (k + 1)) by rw [bs_ext, List.extract_eq_take_drop, List.take_of_length_le (by simp)])
        go_upto_region 5 with fail
        go_region
        go_wp2_with fail
        exact bodyPost_ret (v := .tuple #[.string ((bs l).extract 0 k), .string ((bs l).extract (k + 1) l.length), .bool true]) (by simp [results, Tryd.results32]) rfl ⟨.inr ⟨_, _, HE.out, by rw [HX1.out, HX2.out]⟩, belowDrawn (Below.refl _ _)⟩
      | false =>
        have HN := Lib.hid (fun (j : Nat) (x : UInt8) (hj : j < k + 1) (hx : l[j]? = some x) => show x ≠ 10 from by
          by_cases e : j = k
          · subst e; rw [HLC.out] at hx; cases hx; exact u8_nten (n := 10) (by decide) hq
          · exact hall.out j x (by omega) hx)
        clear hall
        go_wp2_with fail
        exact ⟨⟨k + 1, by omega, by go_num, HN⟩, by simp [intOf]; omega⟩
    · have HE := Lib.hid (cutL_none.2 fun b hb => by
        obtain ⟨j, hj⟩ := List.getElem?_of_mem hb
        exact hall.out j b (by have := (List.getElem?_eq_some_iff.1 hj).1; omega) hj)
      clear hall
      go_wp2_with fail
      exact bodyPost_ret (v := .tuple #[.string (bs l), .string ⟨#[]⟩, .bool false]) (by simp [results, Tryd.results32]) rfl ⟨.inl ⟨HE.out, rfl⟩, Below.refl _ _⟩

/-! ### Words -/
theorem splitL_sp : ∀ (p : List UInt8), splitL (p ++ [32]) = splitL p ++ [[]]
  | [] => rfl
  | b :: r => by
    rw [List.cons_append, splitL, splitL, splitL_sp r]
    by_cases hb : b = 32
    · rw [if_pos hb, if_pos hb]; rfl
    · rw [if_neg hb, if_neg hb]
      cases h : splitL r with
      | nil => exact absurd h (splitL_ne r)
      | cons a q => rfl
theorem splitL_ch : ∀ (p : List UInt8) (c : UInt8), c ≠ 32 → ∃ ws x, splitL p = ws ++ [x] ∧ splitL (p ++ [c]) = ws ++ [x ++ [c]]
  | [], c, hc => ⟨[], [], rfl, by rw [List.nil_append, splitL, if_neg hc]; rfl⟩
  | b :: r, c, hc => by
    obtain ⟨ws, x, h1, h2⟩ := splitL_ch r c hc
    rw [List.cons_append, splitL, splitL, h1, h2]
    by_cases hb : b = 32
    · rw [if_pos hb, if_pos hb]; exact ⟨[] :: ws, x, rfl, rfl⟩
    · rw [if_neg hb, if_neg hb]
      cases ws with
      | nil => exact ⟨[], b :: x, rfl, rfl⟩
      | cons a q => exact ⟨(b :: a) :: q, x, rfl, rfl⟩
theorem splitL_len2 : ∀ (p : List UInt8), (splitL p).length ≤ p.length + 1
  | [] => by simp [splitL]
  | b :: r => by
    have ih := splitL_len2 r
    rw [splitL]
    by_cases hb : b = 32
    · rw [if_pos hb]; simp; omega
    · rw [if_neg hb]
      cases h : splitL r with
      | nil => exact absurd h (splitL_ne r)
      | cons a q => rw [h] at ih; simp [consH] at *; omega
theorem split_word : ∀ (p : List UInt8), ∀ x ∈ splitL p, x.length ≤ p.length
  | [], x, h => by simp [splitL] at h; subst h; simp
  | b :: r, x, h => by
    have ih := split_word r
    rw [splitL] at h
    by_cases hb : b = 32
    · rw [if_pos hb] at h
      rcases List.mem_cons.1 h with h | h
      · subst h; simp
      · have := ih x h; simp; omega
    · rw [if_neg hb] at h
      cases hs : splitL r with
      | nil => exact absurd hs (splitL_ne r)
      | cons a q =>
        rw [hs] at h ih
        rcases List.mem_cons.1 h with h | h
        · subst h; have := ih a (by simp); simp; omega
        · have := ih x (by simp [h]); simp; omega
def RetWords (l : List UInt8) (w : World) (e : Ending) (w' : World) : Prop := ∃ A c, e = .returned (.slice A (splitL l).length c) ∧ (splitL l).length ≤ c ∧ StrsAt w' A ((splitL l).map bs) ∧ Below w.heap.size w w'
/-- The last word becomes longer. -/
theorem WA.last {W wc : World} {g cap : Nat} {ws : List (List UInt8)} {x y : List UInt8} (h : WA W wc (.slice (some ⟨g, 0, none⟩) (ws.length + 1) cap) (ws ++ [x])) (hg : W.heap.size ≤ g) : WA W (wc.setCell ⟨g, ws.length, none⟩ (.string (bs y))) (.slice (some ⟨g, 0, none⟩) (ws.length + 1) cap) (ws ++ [y]) := by
  have h1 : wc.ownsRow W.heap.size 9 1 (.slice (some ⟨g, 0, none⟩) (ws.length + 1) cap) (ws.length + 1) ((List.map bs (ws ++ [x])).map Value.string) := by
    have := h.2
    rw [show (ws ++ [x]).length = ws.length + 1 by simp] at this
    exact this
  have h2 := (h1.stored ws.length (.string (bs y))).1
  have e : ((List.map bs (ws ++ [x])).map Value.string).set ws.length (.string (bs y)) = (List.map bs (ws ++ [y])).map Value.string := by
    rw [List.map_append, List.map_append, List.map_append, List.map_append, List.set_append_right _ _ (by simp)]
    simp
  rw [e] at h2
  refine ⟨h.1.setCell (p := ⟨g, ws.length, none⟩) hg _, ?_⟩
  rw [show (ws ++ [y]).length = ws.length + 1 by simp]
  exact h2

set_option maxRecDepth 100000 in
set_option maxHeartbeats 2000000 in
theorem rwords_any (l : List UInt8) (w : World) (hl : l.length ≤ 4294967296) : Calls Tryd.prog 49 #[.string (bs l)] w (RetWords l w) := by
  have hz := bs_size l
  obtain ⟨i0, hi0, hz0, hz1, hz2⟩ := info_parts info_str
  have HI := Lib.hid (And.intro hi0 (And.intro hz0 (And.intro hz1 hz2)))
  have HW0 := Lib.hid (WA.new w [])
  clear hi0 hz0 hz1 hz2
  go_enter Tryd.func49, Tryd.ntmps49
  go_wp2_with fail
  go_loopw [3, 4] (fun v i wr => ∃ k : Nat, k ≤ l.length ∧ i = .int .i64 k ∧ Hid (WA w wr v (splitL (l.take k)))) (fun _ i _ => l.length - (intOf i).toNat)
  case atStart => exact ⟨0, by omega, rfl, HW0⟩
  case round =>
    obtain ⟨k, hk, rfl, hR⟩ := hrel
    by_cases hin : k < l.length
    · have hin' : k < (bs l).size := by omega
      have r1 : (0 : Int) ≤ k := by omega
      have r2 : (k : Int) < ((bs l).size : Int) := by omega
      obtain ⟨c, hc⟩ : ∃ c, (bs l)[k]'hin' = c := ⟨_, rfl⟩
      have HLC := Lib.hid (byte_bs hin' hc)
      have HTK := Lib.hid (show l.take (k + 1) = l.take k ++ [c] by rw [List.take_add_one, HLC.out]; rfl)
      have hsl := splitL_len2 (l.take k)
      rw [List.length_take] at hsl
      cases hq : ((c.toNat : Int) == 32) with
      | true =>
        have HE := Lib.hid (show splitL (l.take (k + 1)) = splitL (l.take k) ++ [[]] by rw [HTK.out, u8_ten (n := 32) (by decide) hq]; exact splitL_sp _)
        have b4 := below_box wr (Obj.cells #[.string ⟨#[]⟩] 9)
        have HO := Lib.hid (hR.out.below b4)
        have hO2 := HO.out.2
        obtain ⟨Av, cv, ev, _, _⟩ := WA.form hR.out
        subst ev
        have HOW := Lib.hid hO2
        clear b4 hR hO2
        go_wp2_with (at_builtin; go_loud (refine wpList_app _ rfl (.tmp 16) (.tmp 17) 54 rfl w.heap.size 9 i0 (.string ⟨#[]⟩) 1 16 Tryd.underlying54 HI.out.1 HI.out.2.1 HI.out.2.2.1 HI.out.2.2.2 rfl (by decide) _ (splitL (l.take k)).length _ rfl HOW.out (some ⟨wr.heap.size, 0, none⟩) 1 1 [.string ⟨#[]⟩] rfl rfl (cells_newU wr rfl _ _) (one_str _) (by unfold maxLen; omega) (by omega) (by have := HO.out.1.size; omega) ?_; intro v' w6 hown' hgrow _; have NX := Lib.hid (HO.out.push [] hgrow hown'); clear hown' hgrow))
        exact ⟨⟨k + 1, by omega, by go_num, by rw [HE.out]; exact NX⟩, by simp [intOf]; omega⟩
      | false =>
        obtain ⟨ws, x, hw1, hw2⟩ := splitL_ch (l.take k) c (u8_nten (n := 32) (by decide) hq)
        have HE := Lib.hid (show splitL (l.take (k + 1)) = ws ++ [x ++ [c]] by rw [HTK.out]; exact hw2)
        have hxl := split_word (l.take k) x (by rw [hw1]; simp)
        rw [List.length_take] at hxl
        rw [hw1] at hR hsl
        obtain ⟨Av, cv, ev, hc1, hc2⟩ := WA.form hR.out
        obtain ⟨g, rfl⟩ := hc2 (by simp)
        have hsz : (ws ++ [x]).length = ws.length + 1 := by simp
        rw [hsz] at ev hc1 hsl
        subst ev
        have hge : w.heap.size ≤ g := own_block_geB hR.out.2 g rfl
        have c0 : wr.cell? ⟨g, ws.length, none⟩ = some (.string (bs x)) := by
          obtain ⟨b, o, e, h1⟩ := hR.out.strs ws.length (bs x) (by simp)
          cases e
          simpa using h1
        have hown1 := hR.out.2
        rw [hsz] at hown1
        have c0f := hown1.frozenAt ws.length
        clear hown1
        have hlt := block_lt_of_cell c0
        have HNX := Lib.hid (hR.out.last (y := x ++ [c]) hge)
        have hz1 := bs_size x
        have HAP := Lib.hid (show bs x ++ (bs l).extract k (k + 1) = bs (x ++ [c]) by
          rw [bs_ext, bs_app]
          have h3 : l.drop k = c :: l.drop (k + 1) := by
            rw [List.drop_eq_getElem_cons hin]
            have := HLC.out
            rw [List.getElem?_eq_getElem hin] at this
            rw [Option.some.inj this]
          rw [List.extract_eq_take_drop, h3, Nat.add_sub_cancel_left]
          rfl)
        have r3 : (0 : Int) ≤ (ws.length : Int) := by omega
        have r4 : (ws.length : Int) < (ws.length : Int) + 1 := by omega
        have r5 : (k : Int) + 1 ≤ ((bs l).size : Int) := by omega
        have r6 : (k : Int) ≤ (k : Int) + 1 := by omega
        have r7 : (k : Int) + 1 ≤ (l.length : Int) := by omega
        have hwl : ws.length ≤ 4294967296 := by omega
        have hex : ((bs l).extract k (k + 1)).size = 1 := by rw [bs_ext, bs_size, List.extract_eq_take_drop]; simp; omega
        clear hw1 hw2 hsz
        go_upto_region 7 with fail
        go_region
        go_wp2_with fail
        rw [HAP.out]
        exact ⟨⟨k + 1, by omega, by go_num, by rw [HE.out]; exact ⟨belowDrawn HNX.out.1, HNX.out.2⟩⟩, by simp [intOf]; omega⟩
    · obtain rfl : k = l.length := by omega
      rw [List.take_length] at hR
      obtain ⟨Av, cv, rfl, hc1, _⟩ := WA.form hR.out
      have HS := Lib.hid hR.out.strs
      go_wp2_with fail
      go_ret
      exact ⟨Av, cv, rfl, hc1, HS.out, hR.out.1⟩

/-! ### Numbers -/
def numF (ng : Bool) (d : List UInt8) : Option Int := if canD d = true ∧ (ng = true → valD d ≠ 0) ∧ valD d ≤ (if ng = true then 9223372036854775808 else 9223372036854775807) then some (if ng = true then -(valD d : Int) else (valD d : Int)) else none
theorem numO_cons (c : UInt8) (r : List UInt8) : numO (c :: r) = if c = 45 then numF true r else numF false (c :: r) := by
  by_cases h : c = 45
  · subst h
    rw [if_pos rfl, numO_neg]
    unfold numF
    simp
  · rw [if_neg h, numO_pos h]
    unfold numF
    simp
theorem dec_len : ∀ (k u : Nat), 0 < k → u < 10 ^ k → (Lib.decDigits u).length ≤ k
  | 0, _, h, _ => absurd h (by omega)
  | k + 1, u, _, h => by
    by_cases hu : u < 10
    · rw [dec_small hu]; simp
    · rw [dec_big hu, List.length_append]
      have hk : 0 < k := by
        rcases Nat.eq_zero_or_pos k with e | e
        · subst e; simp at h; omega
        · exact e
      have := dec_len k (u / 10) hk (by rw [Nat.pow_succ] at h; omega)
      simp; omega
theorem valD_app (p : List UInt8) : ∀ (n : Nat) (q : List UInt8), q.length ≤ n → valD p ≤ valD (p ++ q)
  | n, [], _ => by simp
  | 0, a :: q, h => by simp at h
  | n + 1, a :: q, h => by
    have h1 := valD_app (p ++ [a]) n q (by simp at h; omega)
    rw [valD_snoc] at h1
    rw [show p ++ a :: q = p ++ [a] ++ q by simp]
    omega
theorem valD_take (d : List UInt8) (k : Nat) : valD (d.take k) ≤ valD d := by
  have := valD_app (d.take k) _ (d.drop k) (Nat.le_refl _)
  rw [List.take_append_drop] at this
  exact this
theorem numF_long {ng : Bool} {d : List UInt8} (h : 19 < d.length) : numF ng d = none := by
  unfold numF
  rw [if_neg]
  rintro ⟨h1, _, h3⟩
  have hd := can_dec _ d (Nat.le_refl _) h1
  have : ¬ valD d < 10 ^ 19 := fun h4 => by
    have := dec_len 19 (valD d) (by decide) h4
    rw [hd] at this
    omega
  have h5 : valD d ≤ 9223372036854775808 := by split at h3 <;> omega
  omega
theorem numF_bad {ng : Bool} {d : List UInt8} {k : Nat} {c : UInt8} (h : d[k]? = some c) (hc : digB c = false) : numF ng d = none := by
  unfold numF
  rw [if_neg]
  rintro ⟨h1, _⟩
  unfold canD at h1
  simp only [Bool.and_eq_true, List.all_eq_true] at h1
  have := h1.1.2 c (List.mem_of_getElem? h)
  rw [hc] at this; cases this
theorem numF_over {ng : Bool} {d : List UInt8} {k : Nat} (h : 9223372036854775808 < valD (d.take k)) : numF ng d = none := by
  unfold numF
  rw [if_neg]
  rintro ⟨_, _, h3⟩
  have := valD_take d k
  split at h3 <;> omega
theorem numF_nil (ng : Bool) : numF ng [] = none := by unfold numF canD; simp
theorem numF_zero {ng : Bool} {q : List UInt8} (h : ng = true ∨ q ≠ []) : numF ng (48 :: q) = none := by
  unfold numF
  rw [if_neg]
  rintro ⟨h1, h2, _⟩
  cases q with
  | nil =>
    rcases h with h | h
    · exact h2 h (by rfl)
    · exact h rfl
  | cons a r =>
    unfold canD at h1
    simp at h1
theorem canD_of {a : UInt8} {q : List UInt8} (hall : (a :: q).all digB = true) (h : a ≠ 48 ∨ q = []) : canD (a :: q) = true := by
  unfold canD
  rw [hall]
  rcases h with h | h
  · simp [h]
  · subst h; simp
theorem valD_pos {a : UInt8} {q : List UInt8} (h : canD (a :: q) = true) (ha : a ≠ 48) : valD (a :: q) ≠ 0 := fun e => by
  have hd := can_dec _ (a :: q) (Nat.le_refl _) h
  rw [e, dec_small (by decide)] at hd
  injection hd with h1 h2
  exact ha h1.symm
def RetNum (o : Option Int) (w : World) (e : Ending) (w' : World) : Prop := ((∃ v, o = some v ∧ e = .returned (.tuple #[.int .i64 v, .bool true])) ∨ (o = none ∧ ∃ z, e = .returned (.tuple #[.int .i64 z, .bool false]))) ∧ w' = w
theorem neg_quo {v dd : Nat} (hd : dd ≤ 9) : (-(v : Int) < (-9223372036854775808 + (dd : Int)).tdiv 10) ↔ 9223372036854775808 < 10 * v + dd := by
  have h1 : (-9223372036854775808 + (dd : Int)) = -((9223372036854775808 - dd : Nat) : Int) := by omega
  rw [h1, Int.neg_tdiv, Int.tdiv_eq_ediv_of_nonneg (by omega)]
  omega

set_option maxRecDepth 100000 in
set_option maxHeartbeats 2000000 in
theorem rnumber_any (l : List UInt8) (w : World) (hl : l.length ≤ 4294967296) : Calls Tryd.prog 50 #[.string (bs l)] w (RetNum (numO l) w) := by
  cases l with
  | nil =>
    have hz : (bs []).size = 0 := rfl
    go_enter Tryd.func50, Tryd.ntmps50
    go_wp2_with fail
    go_ret2
    exact ⟨.inr ⟨numO_nil, 0, rfl⟩, rfl⟩
  | cons c r =>
    have hz := bs_size (c :: r)
    have hz' : (bs (c :: r)).size = r.length + 1 := by rw [hz]; simp
    have h0 : 0 < (bs (c :: r)).size := by omega
    have hc0 : (bs (c :: r))[0]'h0 = c := by
      have := byte_at (bs (c :: r)) h0
      rw [data_bs] at this
      simpa using this.symm
    have r0 : (0 : Int) < ((bs (c :: r)).size : Int) := by omega
    have r1 : (1 : Int) ≤ ((bs (c :: r)).size : Int) := by omega
    have HX := Lib.hid (show (bs (c :: r)).extract 1 (r.length + 1) = bs r by rw [bs_ext, List.extract_eq_take_drop]; congr 1 <;> simp)
    obtain ⟨ng, hng⟩ : ∃ b, ((c.toNat : Int) == 45) = b := ⟨_, rfl⟩
    obtain ⟨d, hd⟩ : ∃ d, (if ng = true then r else c :: r) = d := ⟨_, rfl⟩
    have HN := Lib.hid (show numO (c :: r) = numF ng d by
      rw [numO_cons, ← hd]
      cases ng with
      | true => rw [if_pos (show c = 45 from u8_ten (n := 45) (by decide) hng)]; rfl
      | false => rw [if_neg (show ¬ c = 45 from u8_nten (n := 45) (by decide) hng)]; rfl)
    have HD := Lib.hid hd
    have hdl : d.length ≤ 4294967296 := by rw [← hd]; simp at hl; cases ng <;> simp <;> omega
    clear hd hz
    go_enter Tryd.func50, Tryd.ntmps50
    rw [HN.out]
    go_upto_if 16 with fail
    go_cut [0] from 17 to 18 (fun s wc => s = .string (bs d) ∧ wc = w)
    case first =>
      cases ng with
      | true =>
        have HD2 := Lib.hid (show r = d from HD.out)
        go_wp2_with fail
        go_meet
        exact ⟨by rw [HX.out, HD2.out], rfl⟩
      | false =>
        have HD2 := Lib.hid (show c :: r = d from HD.out)
        go_wp2_with fail
        go_meet
        exact ⟨by rw [HD2.out], rfl⟩
    case rest =>
      obtain ⟨rfl, rfl⟩ := hcut
      clear HX HD HN hz' h0 hc0 r0 r1 hng
      cases d with
      | nil =>
        have hz : (bs []).size = 0 := rfl
        go_wp2_with fail
        go_ret2
        exact ⟨.inr ⟨numF_nil ng, 0, rfl⟩, rfl⟩
      | cons a q =>
        have hz := bs_size (a :: q)
        have hz' : (bs (a :: q)).size = q.length + 1 := by rw [hz]; simp
        have h0 : 0 < (bs (a :: q)).size := by omega
        have hc0 : (bs (a :: q))[0]'h0 = a := by
          have := byte_at (bs (a :: q)) h0
          rw [data_bs] at this
          simpa using this.symm
        have r0 : (0 : Int) < ((bs (a :: q)).size : Int) := by omega
        clear hz
        by_cases h19 : 19 < q.length + 1
        · have HE := Lib.hid (numF_long (ng := ng) (d := a :: q) (by simpa using h19))
          go_wp2_with fail
          go_ret2
          exact ⟨.inr ⟨HE.out, 0, rfl⟩, rfl⟩
        have hq19 : q.length ≤ 18 := by omega
        obtain ⟨za, hza⟩ : ∃ b, ((a.toNat : Int) == 48) = b := ⟨_, rfl⟩
        obtain ⟨qb, hqb⟩ : ∃ b, decide (1 < (q.length : Int) + 1) = b := ⟨_, rfl⟩
        have HZA := Lib.hid hza
        have HQB := Lib.hid hqb
        have e1 : decide ((q.length : Int) + 1 < 1) = false := decide_eq_false (by omega)
        have e2 : decide (19 < (q.length : Int) + 1) = false := decide_eq_false (by omega)
        go_upto_region 4 with fail
        go_cut [39] from 19 to 38 (fun v wd => v = .bool (za && (ng || qb)) ∧ wd = wc)
        case first =>
          cases za
          · go_wp2_with fail
            all_goals
              go_meet
              exact ⟨by first | rfl | (simp [e1, e2]; done), rfl⟩
          · cases ng
            · go_wp2_with fail
              all_goals
                go_meet
                exact ⟨by first | rfl | (rw [← HQB.out]; simp [e1, e2]; done), rfl⟩
            · go_wp2_with fail
              all_goals
                go_meet
                exact ⟨by first | rfl | (simp [e1, e2]; done), rfl⟩
        case rest =>
          obtain ⟨rfl, rfl⟩ := hcut
          clear hza hqb
          cases hbad : (za && (ng || qb)) with
          | true =>
            have HE := Lib.hid (show numF ng (a :: q) = none by
              simp only [Bool.and_eq_true, Bool.or_eq_true] at hbad
              have ha : a = 48 := u8_ten (n := 48) (by decide) (HZA.out.trans hbad.1)
              subst ha
              refine numF_zero (hbad.2.imp id fun h e => ?_)
              have := HQB.out.trans h
              rw [e] at this
              simp at this)
            clear hbad
            go_wp2_with fail
            go_ret2
            exact ⟨.inr ⟨HE.out, 0, rfl⟩, rfl⟩
          | false =>
            have HG := Lib.hid (show a ≠ 48 ∨ (ng = false ∧ q = []) from by
              cases za with
              | false => exact .inl (u8_nten (n := 48) (by decide) HZA.out)
              | true =>
                cases ng with
                | true => cases hbad
                | false =>
                  cases qb with
                  | true => cases hbad
                  | false =>
                    have := HQB.out
                    simp at this
                    exact .inr ⟨rfl, List.length_eq_zero_iff.1 (by omega)⟩)
            clear hbad HZA HQB r0 hc0 h0
            clear e1 e2
            generalize hd : a :: q = d at *
            have HDD := Lib.hid hd
            have hz : (bs d).size = d.length := bs_size d
            have hd19 : d.length ≤ 19 := by rw [← hd]; simp only [List.length_cons]; omega
            clear hd hz' h19 hq19
            go_wp2_with fail
            go_loop [5, 6] (fun n i => ∃ (k v : Nat), k ≤ d.length ∧ i = .int .i64 k ∧ n = .int .i64 (-(v : Int)) ∧ v ≤ 9223372036854775808 ∧ Hid (v = valD (d.take k)) ∧ Hid (∀ j x, j < k → d[j]? = some x → digB x = true)) (fun _ i => d.length - (intOf i).toNat)
            case atStart => exact ⟨0, 0, by omega, rfl, rfl, by omega, rfl, fun j x hj => by omega⟩
            case round =>
              obtain ⟨k, v, hk, rfl, rfl, hv, HV, hall⟩ := hrel
              by_cases hin : k < d.length
              · have hin' : k < (bs d).size := by omega
                have r1 : (0 : Int) ≤ k := by omega
                have r2 : (k : Int) < ((bs d).size : Int) := by omega
                obtain ⟨c, hc⟩ : ∃ c, (bs d)[k]'hin' = c := ⟨_, rfl⟩
                have HLC := Lib.hid (byte_bs hin' hc)
                have HST := Lib.hid (show valD (d.take (k + 1)) = valD (d.take k) * 10 + (c.toNat - 48) by
                  rw [List.take_add_one, HLC.out]; exact valD_snoc _ _)
                by_cases c0 : c.toNat < 48
                · have HE := Lib.hid (numF_bad (ng := ng) HLC.out (show digB c = false by unfold digB; simp; omega))
                  go_wp2_with fail
                  go_ret2
                  exact ⟨.inr ⟨HE.out, 0, rfl⟩, rfl⟩
                by_cases c9 : 57 < c.toNat
                · have HE := Lib.hid (numF_bad (ng := ng) HLC.out (show digB c = false by unfold digB; simp; omega))
                  go_wp2_with fail
                  go_ret2
                  exact ⟨.inr ⟨HE.out, 0, rfl⟩, rfl⟩
                obtain ⟨dd, hdd⟩ : ∃ dd, c.toNat = 48 + dd := ⟨c.toNat - 48, by omega⟩
                have hd9 : dd ≤ 9 := by omega
                have HVN := Lib.hid (show valD (d.take (k + 1)) = v * 10 + dd by rw [HST.out, ← HV.out]; omega)
                have hsub : (48 + (dd : Int) - 48) = dd := by omega
                have HNQ := neg_quo (v := v) (dd := dd) hd9
                have HDG := Lib.hid (fun (j : Nat) (x : UInt8) (hj : j < k + 1) (hx : d[j]? = some x) => show digB x = true from by
                  by_cases e : j = k
                  · subst e; rw [HLC.out] at hx; cases hx; unfold digB; simp; omega
                  · exact hall.out j x (by omega) hx)
                clear hall c0 c9 HST
                by_cases hov : 9223372036854775808 < 10 * v + dd
                · have HE := Lib.hid (numF_over (ng := ng) (d := d) (k := k + 1) (by rw [HVN.out]; omega))
                  have hlt := HNQ.2 hov
                  clear HNQ hov
                  go_wp2_with fail
                  go_ret2
                  exact ⟨.inr ⟨HE.out, 0, rfl⟩, rfl⟩
                · have hlt := fun h => hov (HNQ.1 h)
                  clear HNQ
                  have w1 : 10 * (v : Int) + dd ≤ 9223372036854775808 := by omega
                  go_wp2_with fail
                  exact ⟨⟨k + 1, v * 10 + dd, by omega, by go_num, by go_num, by omega, HVN.out.symm, HDG⟩, by simp [intOf]; omega⟩
              · obtain rfl : k = d.length := by omega
                have hcan := Lib.hid (show canD d = true by
                  rw [← HDD.out]
                  refine canD_of ?_ (HG.out.imp id And.right)
                  rw [HDD.out, List.all_eq_true]
                  intro x hx
                  obtain ⟨j, hj⟩ := List.getElem?_of_mem hx
                  exact hall.out j x (by have := (List.getElem?_eq_some_iff.1 hj).1; omega) hj)
                have HV2 := Lib.hid (show v = valD d by rw [HV.out, List.take_length])
                clear hall HV
                cases ng with
                | true =>
                  have HE := Lib.hid (show numF true d = some (-(v : Int)) by
                    have ha : a ≠ 48 := HG.out.elim id fun h => by cases h.1
                    have hp := valD_pos (a := a) (q := q) (by rw [HDD.out]; exact hcan.out) ha
                    rw [HDD.out] at hp
                    unfold numF
                    rw [if_pos ⟨hcan.out, fun _ => hp, by rw [← HV2.out]; simpa using hv⟩, HV2.out]
                    rfl)
                  go_wp2_with fail
                  go_ret2
                  exact ⟨.inl ⟨_, HE.out, rfl⟩, rfl⟩
                | false =>
                  by_cases hmx : v ≤ 9223372036854775807
                  · have HE := Lib.hid (show numF false d = some (v : Int) by
                      unfold numF
                      rw [if_pos ⟨hcan.out, (fun h => (by cases h)), (by rw [← HV2.out]; simpa using hmx)⟩, HV2.out]
                      rfl)
                    go_wp2_with fail
                    go_ret2
                    exact ⟨.inl ⟨_, HE.out, by simp⟩, rfl⟩
                  · obtain rfl : v = 9223372036854775808 := by omega
                    have HE := Lib.hid (show numF false d = none by
                      unfold numF
                      rw [if_neg]
                      rintro ⟨_, _, h3⟩
                      rw [← HV2.out] at h3
                      simp at h3)
                    have hw : wrap64 9223372036854775808 = -9223372036854775808 := by decide +kernel
                    go_wp2_with fail
                    go_ret2
                    exact ⟨.inr ⟨HE.out, _, rfl⟩, rfl⟩

end Go.Proofs.YtklljdjeobifiaaDoor
