/-
  The reference's Valid, Text and Format; ScriptFormats: the walk.
-/
import Derived.Test.YtklljdjeobifiaaDoorScrROne
import Derived.Test.YtklljdjeobifiaaDoorScrGreat
namespace Go.Proofs.YtklljdjeobifiaaDoor
open Go.ChangeShapes Go.WideShapes Go.ChangeAt Go.RowKit Go.Sort Go.Maps

set_option maxRecDepth 100000 in
set_option maxHeartbeats 1000000 in
theorem rvalidL_any (l : List Cm) (A : Option Addr) (cap : Nat) (w : World) (hL : CmsAt w A l) (hl : l.length ≤ 9223372036854775807) (hs : ∀ c ∈ l, Sm c) (hk8 : ∀ c ∈ l, c.kind < 256) :
    Calls Tryd.prog 15 #[.slice A l.length cap] w fun e w' => e = .returned (.bool (okL l)) ∧ Below w.heap.size w w' := by
  have HL := Lib.hid hL
  have HS := Lib.hid hs
  have HK8 := Lib.hid hk8
  clear hL hs hk8
  go_enter Tryd.func15, Tryd.ntmps15
  go_wp2_with fail
  go_loopw [3] (fun i wr => ∃ k : Nat, k ≤ l.length ∧ i = .int .i64 k ∧ Hid (∀ j c, j < k → l[j]? = some c → okC c = true) ∧ Hid (Below w.heap.size w wr)) (fun i _ => l.length - (intOf i).toNat)
  case atStart => exact ⟨0, by omega, rfl, fun j c hj => by omega, Below.refl _ _⟩
  case round =>
    obtain ⟨k, hk, rfl, hall, hb⟩ := hrel
    by_cases hin : k < l.length
    · obtain ⟨b, o, rfl, hc⟩ := (HL.out.mono hb.out).at_ hin
      have HG := Lib.hid (List.getElem?_eq_getElem hin)
      have HSM := Lib.hid (HS.out _ (List.getElem_mem hin))
      have HKM := Lib.hid (HK8.out _ (List.getElem_mem hin))
      generalize l[k] = c at *
      obtain ⟨c0, c1, c2, A', cp, c3, _⟩ := hc
      have hlt := block_lt_of_cell c0
      have r1 : (0 : Int) ≤ k := by omega
      have r2 : (k : Int) < l.length := by omega
      go_wp2_with fail
      refine (rone_any c HKM.out A' cp wr HSM.out).mono ?_
      rintro e w3 ⟨rfl, hb3⟩
      have q3 := Lib.hid (below_step hb.out hb.out.size hb3)
      clear hb3
      cases hok : okC c with
      | false =>
        have HF := Lib.hid (show okL l = false by
          unfold okL
          rw [show l.all okC = false from List.all_eq_false.2 ⟨c, List.mem_of_getElem? HG.out, by rw [hok]; simp⟩, Bool.and_false])
        clear hok
        go_wp2_with fail
        go_ret
        exact ⟨ret_bool HF.out.symm, q3.out⟩
      | true =>
        have HN := Lib.hid (fun (j : Nat) (d : Cm) (hj : j < k + 1) (hd : l[j]? = some d) => show okC d = true from by
          by_cases e : j = k
          · subst e; rw [HG.out] at hd; cases hd; exact hok
          · exact hall.out j d (by omega) hd)
        clear hok hall
        go_wp2_with fail
        exact ⟨⟨k + 1, by omega, by go_num, HN, q3⟩, by simp [intOf]; omega⟩
    · have HT := Lib.hid (show okL l = decide (l.length ≤ 1000) by
        unfold okL
        rw [show l.all okC = true from List.all_eq_true.2 fun c hc => by obtain ⟨j, hj⟩ := List.getElem?_of_mem hc; exact hall.out j c (by have := (List.getElem?_eq_some_iff.1 hj).1; omega) hj, Bool.and_true])
      clear hall
      by_cases h1000 : l.length ≤ 1000
      · have HT2 := Lib.hid (HT.out.trans (decide_eq_true h1000))
        go_wp2_with fail
        go_ret
        exact ⟨ret_bool (by rw [HT2.out]; exact decide_eq_true (by omega)), hb.out⟩
      · have HT2 := Lib.hid (HT.out.trans (decide_eq_false h1000))
        go_wp2_with fail
        go_ret
        exact ⟨ret_bool (by rw [HT2.out]; exact decide_eq_false (by omega)), hb.out⟩

/-! ### Text -/
theorem ret_str {a b : ByteArray} (h : a = b) : Ending.returned (.string a) = .returned (.string b) := by rw [h]
theorem join_snoc : ∀ (ws : List (List UInt8)) (x : List UInt8), ws ≠ [] → Lib.join (ws ++ [x]) [32] = Lib.join ws [32] ++ 32 :: x
  | [], _, h => absurd rfl h
  | [w], x, _ => by rw [List.singleton_append, join_cons, join_one, join_one]
  | w :: v :: r, x, _ => by
    have ih := join_snoc (v :: r) x (by simp)
    rw [List.cons_append, List.cons_append, join_cons, ← List.cons_append, ih, join_cons]
    simp
theorem bs_sp (a b : List UInt8) : bs a ++ ({ data := #[32] } : ByteArray) ++ bs b = bs (a ++ 32 :: b) := by
  rw [show ({ data := #[32] } : ByteArray) = bs [32] from rfl, bs_app, bs_app]; simp
theorem bs_lf (a b : List UInt8) : bs a ++ ({ data := #[10] } : ByteArray) ++ bs b = bs (a ++ 10 :: b) := by
  rw [show ({ data := #[10] } : ByteArray) = bs [10] from rfl, bs_app, bs_app]; simp
theorem join_ws (s : Shp) (c : Cm) (j : Nat) (h : j < c.nums.length) : Lib.join (preW s c ++ (c.nums.take (j + 1)).map Lib.itoa) [32] = Lib.join (preW s c ++ (c.nums.take j).map Lib.itoa) [32] ++ 32 :: Lib.itoa c.nums[j] := by
  rw [← nums_step (preW s c) h, join_snoc]
  unfold preW
  simp
theorem okC_small {c : Cm} (h : okC c = true) : c.name.length ≤ 16 ∧ c.text.length ≤ 65536 ∧ c.nums.length ≤ 4096 := by
  obtain ⟨s, hs⟩ := okC_iff.1 h
  refine ⟨?_, ?_, hs.m⟩
  · cases hn : s.name with
    | true => exact nm_len (hs.n1 hn)
    | false => rw [hs.n2 hn]; simp
  · cases ht : s.text with
    | true => exact (hs.t2 ht).1
    | false => rw [hs.t1 ht]; simp
theorem pre_len {s : Shp} {c : Cm} (hs : s ∈ shpL) (hc : okC c = true) (hf : Fits c) (j : Nat) : (Lib.join (preW s c ++ (c.nums.take j).map Lib.itoa) [32]).length ≤ 100000 := by
  have h1 := joinW_len (preW s c ++ (c.nums.take j).map Lib.itoa)
  have h2 := nums_len (c.nums.take j) (fun n hn => hf n (List.mem_of_mem_take hn))
  have h3 := okC_small hc
  have h4 := shp_len s hs
  have h5 : (c.nums.take j).length ≤ 4096 := by rw [List.length_take]; omega
  have h6 : ((preW s c).map fun w => w.length + 1).sum ≤ 10 + 17 := by
    unfold preW
    rw [List.map_append, List.sum_append]
    have a1 : ((if s.name = true then [c.name] else []).map fun w => w.length + 1).sum ≤ 17 := by split <;> simp; omega
    simp only [List.map_cons, List.map_nil, List.sum_cons, List.sum_nil]
    omega
  rw [List.map_append, List.sum_append] at h1
  omega
theorem fmtC_some {s : Shp} {c : Cm} (h : findK c.kind = some s) : fmtC c = Lib.join (wordsC s c) [32] ++ 10 :: c.text := by unfold fmtC; rw [h]

set_option maxRecDepth 100000 in
set_option maxHeartbeats 2000000 in
theorem rtext_any (c : Cm) (hk : c.kind < 256) (A : Option Addr) (cap : Nat) (w : World) (hok : okC c = true) (hf : Fits c) (hN : IntsAt w A c.nums) (hW : Wld w) :
    Calls Tryd.prog 30 #[.agg #[.int .u8 c.kind, .string (bs c.name), .string (bs c.text), .slice A c.nums.length cap]] w fun e w' => e = .returned (.string (bs (fmtC c))) ∧ Below w.heap.size w w' := by
  have b1 := below_box w (Obj.cells #[.int .u8 c.kind, .string (bs c.name), .string (bs c.text), .slice A c.nums.length cap] 45)
  have cb := bx_new w #[.int .u8 c.kind, .string (bs c.name), .string (bs c.text), .slice A c.nums.length cap] 45
  have HOF := Lib.hid (fun W => rof_any c.kind hk W)
  have HN := Lib.hid hN
  have HWl := Lib.hid hW
  have HFT := Lib.hid hf
  obtain ⟨s, hs⟩ := okC_iff.1 hok
  have HF := Lib.hid hs.f
  have HM := Lib.hid hs.mem.1
  have HSM := Lib.hid (okC_small hok)
  have HFC := Lib.hid (fmtC_some hs.f)
  have HPL := Lib.hid (fun j => pre_len hs.mem.1 hok hf j)
  clear hN hW hf hs hok
  go_enter Tryd.func30, Tryd.ntmps30
  go_wp2_with fail
  generalize w.alloc _ = W at b1 cb ⊢
  refine (HOF.out W).mono ?_
  rintro e w2 ⟨_, he, hb2⟩
  obtain rfl := he s HF.out
  have q2 := Lib.hid (below_step b1 b1.size hb2)
  have cb2 := cb.below hb2
  have bb := below_box w2 (Obj.cells #[.string (bs s.word), .bool s.name, .bool s.text, .int .i64 s.nums] 79)
  have sb := bx_new w2 #[.string (bs s.word), .bool s.name, .bool s.text, .int .i64 s.nums] 79
  have q3 := Lib.hid (below_step q2.out q2.out.size bb)
  have hlt2 := cb2.lt
  have cb3 := cb2.below bb
  clear b1 cb hb2 bb q2 he cb2
  go_upto_region 2 with fail
  generalize w2.alloc _ = W3 at q3 cb3 sb ⊢
  have CB := Lib.hid cb3
  have SB := Lib.hid sb
  obtain ⟨a0, a1, a2, a3, _⟩ := cb3.four
  obtain ⟨b0, b1, b2, b3, _⟩ := sb.four
  have hlt3 := sb.lt
  have hz1 := bs_size s.word
  have hz2 := bs_size c.name
  have hz3 := bs_size c.text
  have hw9 : s.word.length ≤ 9 := shp_len s HM.out
  obtain ⟨hn16, ht6, hm4⟩ := id HSM.out
  have HPT := Lib.hid (show s.name = true → Lib.join (preW s c ++ (c.nums.take 0).map Lib.itoa) [32] = s.word ++ 32 :: c.name by
    intro e
    unfold preW
    rw [if_pos e, List.take_zero, List.map_nil, List.append_nil, List.singleton_append, join_cons, join_one])
  have HPF := Lib.hid (show s.name = false → Lib.join (preW s c ++ (c.nums.take 0).map Lib.itoa) [32] = s.word by
    intro e
    unfold preW
    rw [if_neg (by rw [e]; simp), List.take_zero, List.map_nil, List.append_nil, List.append_nil, join_one])
  generalize s.name = sn at *
  go_upto_if 16 with fail
  go_cut [5] from 17 to 21 (fun v wc => v = .string (bs (Lib.join (preW s c ++ (c.nums.take 0).map Lib.itoa) [32])) ∧ wc = W3)
  case first =>
    cases sn with
    | true =>
      have HE := Lib.hid (HPT.out rfl)
      clear HPT HPF
      go_wp2_with fail
      go_meet
      exact ⟨by rw [HE.out, bs_sp], rfl⟩
    | false =>
      have HE := Lib.hid (HPF.out rfl)
      clear HPT HPF
      go_wp2_with fail
      go_meet
      exact ⟨by rw [HE.out], rfl⟩
  case rest =>
    obtain ⟨rfl, rfl⟩ := hcut
    clear a0 a1 a2 a3 b0 b1 b2 b3 hz1 hz2 hw9
    go_wp2_with fail
    go_loopw [5, 6] (fun v i wr => ∃ j : Nat, j ≤ c.nums.length ∧ i = .int .i64 j ∧ v = .string (bs (Lib.join (preW s c ++ (c.nums.take j).map Lib.itoa) [32])) ∧ Hid (Below wc.heap.size wc wr)) (fun _ i _ => c.nums.length - (intOf i).toNat)
    case atStart => exact ⟨0, by omega, rfl, rfl, Below.refl _ _⟩
    case round =>
      obtain ⟨j, hj, rfl, rfl, hb⟩ := hrel
      have qr := Lib.hid (below_step q3.out q3.out.size hb.out)
      have HWr := Lib.hid (HWl.out.below qr.out)
      obtain ⟨a0, a1, a2, a3, _⟩ := (CB.out.below hb.out).four
      obtain ⟨b0, b1, b2, b3, _⟩ := (SB.out.below hb.out).four
      have hl1 := (CB.out.below hb.out).lt
      have hl2 := (SB.out.below hb.out).lt
      by_cases hin : j < c.nums.length
      · obtain ⟨b, o, hA, hc⟩ := (HN.out.mono qr.out).at_ hin
        have HST := Lib.hid (join_ws s c j hin)
        have hfit := HFT.out _ (List.getElem_mem hin)
        have HIT := Lib.hid (fun W hw => itoa_any c.nums[j] W hw hfit.1 hfit.2)
        have hil := itoa_len hfit.1 hfit.2
        have hpl := HPL.out j
        generalize c.nums[j] = y at *
        have hz4 := bs_size (Lib.join (preW s c ++ (c.nums.take j).map Lib.itoa) [32])
        have hz5 := bs_size (Lib.itoa y)
        generalize Lib.join (preW s c ++ (c.nums.take j).map Lib.itoa) [32] = X at *
        generalize Lib.itoa y = Y at *
        have r1 : (0 : Int) ≤ j := by omega
        have r2 : (j : Int) < c.nums.length := by omega
        subst hA
        have hlt := block_lt_of_cell hc
        go_wp2_with fail
        refine (HIT.out wr HWr.out).mono ?_
        rintro e w5 ⟨rfl, hb5⟩
        have q5 := Lib.hid (below_step hb.out hb.out.size hb5)
        clear hb5
        go_wp2_with fail
        exact ⟨⟨j + 1, by omega, by go_num, by rw [HST.out, bs_sp], q5⟩, by simp [intOf]; omega⟩
      · obtain rfl : j = c.nums.length := by omega
        have hpl := HPL.out c.nums.length
        rw [List.take_length] at *
        have HWC := Lib.hid (wordsC_eq s c)
        have hz4 := bs_size (Lib.join (preW s c ++ c.nums.map Lib.itoa) [32])
        have HNE := Lib.hid (show preW s c ++ c.nums.map Lib.itoa ≠ [] by
          unfold preW
          simp)
        have HX := Lib.hid (show s.text = false → Lib.join (wordsC s c) [32] = Lib.join (preW s c ++ c.nums.map Lib.itoa) [32] by
          intro e; rw [HWC.out, if_neg (by rw [e]; simp), List.append_nil])
        have HY := Lib.hid (show s.text = true → Lib.join (wordsC s c) [32] = Lib.join (preW s c ++ c.nums.map Lib.itoa) [32] ++ 32 :: Lib.itoa (c.text.count 10 : Nat) by
          intro e; rw [HWC.out, if_pos e, join_snoc _ _ HNE.out])
        clear HWC HNE
        generalize Lib.join (preW s c ++ c.nums.map Lib.itoa) [32] = X at *
        cases hst : s.text with
        | false =>
          rw [hst] at b2
          have HE := Lib.hid (HX.out hst)
          clear HX HY
          go_wp2_with fail
          go_ret
          exact ⟨ret_str (by rw [HFC.out, HE.out, bs_lf]), qr.out⟩
        | true =>
          rw [hst] at b2
          have HE := Lib.hid (HY.out hst)
          clear HX HY
          have hcn := List.count_le_length (a := (10 : UInt8)) (l := c.text)
          have HLN := Lib.hid (fun W => rlines_any c.text W (by omega))
          have HIT := Lib.hid (fun W hw => itoa_any (c.text.count 10 : Nat) W hw (by omega) (by omega))
          have hil := itoa_len (v := (c.text.count 10 : Nat)) (by omega) (by omega)
          have hz5 := bs_size (Lib.itoa (c.text.count 10 : Nat))
          generalize c.text.count 10 = nl at *
          generalize Lib.itoa (nl : Int) = Y at *
          go_wp2_with fail
          refine (HLN.out _).mono ?_
          rintro e w5 ⟨rfl, rfl⟩
          go_wp2_with fail
          refine (HIT.out _ HWr.out).mono ?_
          rintro e w6 ⟨rfl, hb6⟩
          have q6 := Lib.hid (below_step qr.out qr.out.size hb6)
          obtain ⟨a0, a1, a2, a3, _⟩ := (CB.out.below (below_step hb.out hb.out.size hb6)).four
          clear hb6
          go_wp2_with fail
          go_ret
          exact ⟨ret_str (by rw [HFC.out, HE.out, bs_sp, bs_lf]), q6.out⟩

set_option maxRecDepth 100000 in
set_option maxHeartbeats 1000000 in
theorem rformat_any (l : List Cm) (A : Option Addr) (cap : Nat) (w : World) (hL : CmsAt w A l) (hok : okL l = true) (hf : ∀ c ∈ l, Fits c) (hk8 : ∀ c ∈ l, c.kind < 256) (hW : Wld w) :
    Calls Tryd.prog 17 #[.slice A l.length cap] w fun e w' => e = .returned (.string (bs (fmtL l))) ∧ Below w.heap.size w w' := by
  have HL := Lib.hid hL
  have HF := Lib.hid hf
  have HK8 := Lib.hid hk8
  have HO := Lib.hid (okL_all hok)
  have HWl := Lib.hid hW
  have hl := okL_len hok
  have HBD := Lib.hid (okL_bnd hok hf)
  clear hL hf hk8 hok hW
  go_enter Tryd.func17, Tryd.ntmps17
  go_wp2_with fail
  go_loopw [3, 4] (fun v i wr => ∃ k : Nat, k ≤ l.length ∧ i = .int .i64 k ∧ v = .string (bs (fmtL (l.take k))) ∧ Hid (Below w.heap.size w wr)) (fun _ i _ => l.length - (intOf i).toNat)
  case atStart => exact ⟨0, by omega, rfl, rfl, Below.refl _ _⟩
  case round =>
    obtain ⟨k, hk, rfl, rfl, hb⟩ := hrel
    by_cases hin : k < l.length
    · obtain ⟨b, o, rfl, hc⟩ := (HL.out.mono hb.out).at_ hin
      have HST := Lib.hid (fmt_step hin)
      have hpt := fmt_part hin
      have hbd := HBD.out
      have HOM := Lib.hid (HO.out _ (List.getElem_mem hin))
      have HFM := Lib.hid (HF.out _ (List.getElem_mem hin))
      have HKM := Lib.hid (HK8.out _ (List.getElem_mem hin))
      generalize l[k] = c at *
      obtain ⟨c0, c1, c2, A', cp, c3, hi⟩ := hc
      have HRT := Lib.hid (rtext_any c HKM.out A' cp wr HOM.out HFM.out hi (HWl.out.below hb.out))
      have hz1 := bs_size (fmtL (l.take k))
      have hz2 := bs_size (fmtC c)
      have HAP := Lib.hid (bs_app (fmtL (l.take k)) (fmtC c))
      generalize fmtL (l.take k) = X at *
      generalize fmtC c = Y at *
      have hlt := block_lt_of_cell c0
      have r1 : (0 : Int) ≤ k := by omega
      have r2 : (k : Int) < l.length := by omega
      clear hi
      go_wp2_with fail
      refine HRT.out.mono ?_
      rintro e w3 ⟨rfl, hb3⟩
      have q3 := Lib.hid (below_step hb.out hb.out.size hb3)
      clear hb3 HRT c0 c1 c2 c3
      go_wp2_with fail
      exact ⟨⟨k + 1, by omega, by go_num, by rw [HST.out, HAP.out], q3⟩, by simp [intOf]; omega⟩
    · obtain rfl : k = l.length := by omega
      rw [List.take_length]
      go_wp2_with fail
      go_ret
      exact ⟨rfl, hb.out⟩

set_option maxRecDepth 100000 in
set_option maxHeartbeats 1000000 in
theorem scriptFormats_walk (l : List Cm) (A : Option Addr) (cap : Nat) (w : World) (hL : CmsAt w A l) (hl : l.length ≤ 9223372036854775807) (hs : ∀ c ∈ l, Sm c) (hf : ∀ c ∈ l, Fits c) (hk8 : ∀ c ∈ l, c.kind < 256) (hW : Wld w) :
    Calls Tryd.prog 3 #[.slice A l.length cap] w fun e w' => e = .returned (.bool true) ∧ Below w.heap.size w w' := by
  have HWl := Lib.hid hW
  have HL := Lib.hid hL
  have HS := Lib.hid hs
  have HF := Lib.hid hf
  have HK8 := Lib.hid hk8
  have HAW := Lib.hid (awake_any w hW)
  clear hW hL hs hf hk8
  go_enter Tryd.func3, Tryd.ntmps3
  go_wp2_with fail
  refine HAW.out.mono ?_
  rintro e W1 ⟨rfl, hb1⟩
  have q1 := Lib.hid hb1
  have HW1 := Lib.hid (HWl.out.below hb1)
  have HL1 := Lib.hid (HL.out.mono hb1)
  have HG := Lib.hid (great_any l A cap W1 HL1.out hl HS.out)
  clear hb1 HAW
  go_wp2_with fail
  refine HG.out.mono ?_
  rintro e W2 ⟨b, rfl, hbt, hb2⟩
  have q2 := Lib.hid (below_step q1.out q1.out.size hb2)
  have HW2 := Lib.hid (HW1.out.below hb2)
  have HL2 := Lib.hid (HL1.out.mono hb2)
  clear hb2 HG
  cases b with
  | true =>
    clear hbt
    go_wp2_with fail
    go_ret
    exact ⟨rfl, q2.out⟩
  | false =>
  have hlen : l.length ≤ 1010 := by
    rcases Nat.lt_or_ge 1010 l.length with h | h
    · have := hbt h; cases this
    · exact h
  clear hbt
  have HGV := Lib.hid (given_any l A cap W2 HL2.out (by omega))
  go_wp2_with fail
  refine HGV.out.mono ?_
  rintro e W3 ⟨A3, c3, rfl, hC3, hb3⟩
  have q3 := Lib.hid (below_step q2.out q2.out.size hb3)
  have HW3 := Lib.hid (HW2.out.below hb3)
  have HL3 := Lib.hid (HL2.out.mono hb3)
  have HFM := Lib.hid (formatV_any l A3 c3 W3 hC3 hl HS.out HF.out HW3.out)
  clear hb3 HGV hC3
  go_wp2_with fail
  refine HFM.out.mono ?_
  rintro e W4 ⟨rfl, hb4⟩
  have q4 := Lib.hid (below_step q3.out q3.out.size hb4)
  have HW4 := Lib.hid (HW3.out.below hb4)
  have HL4 := Lib.hid (HL3.out.mono hb4)
  have HRV := Lib.hid (rvalidL_any l A cap W4 HL4.out hl HS.out HK8.out)
  clear hb4 HFM
  obtain ⟨sa, ea, hsa, hea, hor⟩ : ∃ (s : ByteArray) (e : Int), bs (if okL l = true then fmtL l else []) = s ∧ (if okL l = true then 0 else 3) = e ∧ ((okL l = true ∧ s = bs (fmtL l) ∧ e = 0) ∨ (okL l = false ∧ s = bs [] ∧ e = 3)) := by
    cases h : okL l
    · exact ⟨_, _, rfl, rfl, .inr ⟨rfl, rfl, rfl⟩⟩
    · exact ⟨_, _, rfl, rfl, .inl ⟨rfl, rfl, rfl⟩⟩
  rw [hsa, hea]
  have HOR := Lib.hid hor
  clear hsa hea hor
  go_wp2_with fail
  refine HRV.out.mono ?_
  rintro e W5 ⟨rfl, hb5⟩
  have q5 := Lib.hid (below_step q4.out q4.out.size hb5)
  have HW5 := Lib.hid (HW4.out.below hb5)
  have HL5 := Lib.hid (HL4.out.mono hb5)
  have HGV := Lib.hid (given_any l A cap W5 HL5.out (by omega))
  clear hb5 HRV
  go_wp2_with fail
  refine HGV.out.mono ?_
  rintro e W6 ⟨A6, c6, rfl, hC6, hb6⟩
  have q6 := Lib.hid (below_step q5.out q5.out.size hb6)
  have HW6 := Lib.hid (HW5.out.below hb6)
  have HL6 := Lib.hid (HL5.out.mono hb6)
  have HV := Lib.hid (validL_any l A6 c6 W6 hC6 hl HS.out)
  clear hb6 HGV hC6
  go_wp2_with fail
  refine HV.out.mono ?_
  rintro e W7 ⟨rfl, hb7⟩
  have q7 := Lib.hid (below_step q6.out q6.out.size hb7)
  have HW7 := Lib.hid (HW6.out.below hb7)
  have HL7 := Lib.hid (HL6.out.mono hb7)
  clear hb7 HV
  rcases HOR.out with ⟨ho, rfl, rfl⟩ | ⟨ho, rfl, rfl⟩
  · have HRF := Lib.hid (rformat_any l A cap W7 HL7.out ho HF.out HK8.out HW7.out)
    rw [ho]
    clear ho
    generalize fmtL l = X at *
    go_wp2_with fail
    refine HRF.out.mono ?_
    rintro e W8 ⟨rfl, hb8⟩
    have q8 := Lib.hid (below_step q7.out q7.out.size hb8)
    clear hb8 HRF
    go_wp2_with fail
    go_ret
    exact ⟨rfl, q8.out⟩
  · have ze : (bs []).toList.isEmpty = true := empty_bs []
    rw [ho]
    clear ho
    go_wp2_with fail
    go_ret
    exact ⟨rfl, q7.out⟩

end Go.Proofs.YtklljdjeobifiaaDoor
