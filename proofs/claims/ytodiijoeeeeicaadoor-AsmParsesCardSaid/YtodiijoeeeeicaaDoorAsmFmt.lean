/-
  The contract of asm.Format.
-/
import Derived.Test.YtodiijoeeeeicaaDoorAsmWr
import Derived.Deep.RegionLaw
import Derived.Deep.DeepCutAuto
namespace Go.Proofs.YtodiijoeeeeicaaDoor
open Go.ChangeShapes Go.WideShapes Go.ChangeAt Go.RowKit Go.Sort Go.Maps

/-! ### The text, as it is written -/
def opsW (x : Ins) (k : Nat) : List UInt8 := ((wdsI x k).map fun s => 32 :: s).flatten
theorem opsW_succ (x : Ins) (k : Nat) : opsW x (k + 1) = (opsW x k ++ [32]) ++ wrd ((clsL x.op).getD k 0) (opdI x k) := by
  unfold opsW wdsI
  rw [List.range_succ, List.map_append, List.map_append, List.flatten_append]; simp
theorem lineI_eq (x : Ins) : lineI x = mnem x.op ++ opsW x (clsL x.op).length := by
  unfold lineI opsW
  rw [Lib.join_cons]; rfl
theorem mnem_len (op : Nat) : (mnem op).length ≤ 20 := by
  by_cases h : op < 35
  · have := all35 (p := fun op => decide ((mnem op).length ≤ 20)) (by decide) h
    simpa using this
  · rw [mnem_hi h]; simp
theorem wrd_len {c : UInt8} {v : Int} (h : okW c v) (h0 : -9223372036854775808 ≤ v) (h1 : v ≤ 9223372036854775807) : (wrd c v).length ≤ 22 := by
  have hi := Lib.itoa_length_le v h0 h1
  unfold okW at h
  unfold wrd
  split
  · simp; omega
  · split
    · rename_i e
      rw [if_pos e] at h
      obtain ⟨i, rfl⟩ : ∃ i : Nat, v = i + 8 := ⟨(v - 8).toNat, by omega⟩
      have h16 : i < 16 := by omega
      unfold symb
      rw [if_pos (by omega), show (((i : Int) + 8).toNat - 8) = i by omega]
      rcases (show i = 0 ∨ i = 1 ∨ i = 2 ∨ i = 3 ∨ i = 4 ∨ i = 5 ∨ i = 6 ∨ i = 7 ∨ i = 8 ∨ i = 9 ∨ i = 10 ∨ i = 11 ∨ i = 12 ∨ i = 13 ∨ i = 14 ∨ i = 15 by omega) with h | h | h | h | h | h | h | h | h | h | h | h | h | h | h | h <;> (subst h; decide)
    · omega
theorem opsW_len {x : Ins} (h : vIns x = true) (hf : FitI x) : ∀ k, k ≤ (clsL x.op).length → (opsW x k).length ≤ 23 * k
  | 0, _ => by simp [opsW, wdsI]
  | k + 1, hk => by
    have := opsW_len h hf k (by omega)
    have := wrd_len (valid_okW h hf (show k < _ by omega)) (hf.opd k).1 (hf.opd k).2
    rw [opsW_succ]; simp only [List.length_append, List.length_cons, List.length_nil]; omega
theorem lineI_len {x : Ins} (h : vIns x = true) (hf : FitI x) : (lineI x).length ≤ 112 := by
  have := opsW_len h hf _ (Nat.le_refl _)
  have := (clsL_len x.op).2
  have := mnem_len x.op
  rw [lineI_eq, List.length_append]; omega
theorem fmtA_step {l : List Ins} {k : Nat} (h : k < l.length) : fmtA (l.take (k + 1)) = fmtA (l.take k) ++ (lineI l[k] ++ [10]) := by
  rw [List.take_succ_eq_append_getElem h, fmtA_app]
  unfold fmtA; simp
theorem fmtA_len {l : List Ins} (h : ∀ x ∈ l, vIns x = true ∧ FitI x) : ∀ k, k ≤ l.length → (fmtA (l.take k)).length ≤ 113 * k
  | 0, _ => by simp [fmtA]
  | k + 1, hk => by
    have := fmtA_len h k (by omega)
    obtain ⟨a, b⟩ := h _ (List.getElem_mem (show k < l.length by omega))
    have := lineI_len a b
    rw [fmtA_step (by omega), List.length_append, List.length_append]; simp; omega

/-! ### The walk -/
def FI (W w : World) (B bm : Nat) (l : List UInt8) : Prop := BF B B W w l ∧ MapF w bm 6 wrF ∧ bm ≠ B
theorem BF.lt {B b : Nat} {W w : World} {l : List UInt8} (h : BF B b W w l) : b < w.heap.size := by
  rcases h.2.1 with ⟨_, v, hk, _⟩ | ⟨_, v, hk, _⟩ <;> exact lt_of_block hk
theorem FI.self {W w : World} {B bm : Nat} {l : List UInt8} (h : FI W w B bm l) : FI w w B bm l := ⟨⟨Below.refl _ _, h.1.2.1, Lib.OthersKept.refl _ _ _⟩, h.2⟩
theorem FI.on {W w w' : World} {B bm : Nat} {l l' : List UInt8} (h : FI W w B bm l) (h2 : BF B B w w' l') : FI W w' B bm l' := ⟨h.1.trans h2, h.2.1.kept h2.2.2 (by simpa using h.2.2), h.2.2⟩
theorem FI.below {W w w' : World} {B bm : Nat} {l : List UInt8} (h : FI W w B bm l) (hb : Below w.heap.size w w') : FI W w' B bm l := ⟨h.1.below (Nat.le_of_lt h.1.lt) hb, h.2.1.below hb, h.2.2⟩
theorem FI.drew {W w : World} {B bm : Nat} {l : List UInt8} (h : FI W w B bm l) : FI W w.drew B bm l := ⟨h.1.drew, h.2⟩
theorem FI.trans {W w w' : World} {B bm : Nat} {l l' : List UInt8} (h : FI W w B bm l) (h2 : FI w w' B bm l') : FI W w' B bm l' := ⟨h.1.trans h2.1, h2.2⟩
theorem mapF_look {w : World} {b n : Nat} {raw : Int → Option Value} {t : TypeId} (ht : Tryd.prog.underlying t = some (.map 5 71)) (h : MapF w b n raw) (s : Int) (hs : (Lit.int .u8 s).wf = true) :
    (Instr.lookup t (.map (some b)) (.int .u8 s) false).run Tryd.prog w = .ok ((raw s).getD .nilFunc) w := by
  obtain ⟨D, h1, h3⟩ := h
  obtain ⟨v, ps, hrun, hv⟩ := h1.lookup bytKeyed ht (zeroFn w) (show fnR .nilFunc = some (.held .nilFunc, []) from rfl) (keyOf_int_mk Tryd.underlying5 hs)
  have he := h3 s
  unfold blit at he
  rw [he] at hv
  unfold fnR at hv
  have : v = (raw s).getD .nilFunc := (by simpa using hv : v = (raw s).getD .nilFunc ∧ ps = []).1
  rw [hrun, this]
theorem fnOf_cases (c : UInt8) : fnOf c = 55 ∨ fnOf c = 57 ∨ fnOf c = 56 := by
  unfold fnOf
  split
  · exact .inl rfl
  · split
    · exact .inr (.inl rfl)
    · exact .inr (.inr rfl)
theorem wf_u8 (c : UInt8) : (Lit.int .u8 (c.toNat : Int)).wf = true := by
  have := c.toNat_lt
  simp [Lit.wf, IntKind.min, IntKind.max, IntKind.signed, IntKind.bits]
  omega
def CutF (x : Ins) (W wc : World) (B bm : Nat) (p q : Value) (l : List UInt8) : Prop := p = .string (bs (clsL x.op)) ∧ (∃ b, q = .pointer (some ⟨b, 0, none⟩) ∧ b ≠ B ∧ wc.heap[b]? = some (Obj.cells #[.int .i64 x.a, .int .i64 x.b, .int .i64 x.c, .int .i64 x.d] 68)) ∧ FI W wc B bm l
def RetF (l : List Ins) (w : World) (e : Ending) (w' : World) : Prop :=
  e = .returned (.tuple #[.string (bs (if checkA l = 0 then fmtA l else [])), .int .i64 (checkA l)]) ∧ Below w.heap.size w w'

set_option maxRecDepth 100000 in
set_option maxHeartbeats 4000000 in
theorem format_any (l : List Ins) (A : Option Addr) (cap : Nat) (w : World) (hC : CodeAt w A l) (hY : Bytes l) (hF : ∀ x ∈ l, FitI x) (hT : Tab w) (hS : TabS w) (hW : Wld w) (hl : l.length ≤ 140737488355328) :
    Calls Tryd.prog 13 #[.slice A l.length cap] w (RetF l w) := by
  have HC := Lib.hid hC
  have HT := Lib.hid hT
  have HS := Lib.hid hS
  have HWl := Lib.hid hW
  have HCK := Lib.hid (check_any l A cap w hC hY hT hl)
  clear hC hT hS hW
  by_cases hk0 : checkA l = 0
  rotate_left
  · have HR := Lib.hid (fun (w' : World) (hb : Below w.heap.size w w') => show RetF l w (.returned (.tuple #[.string ⟨#[]⟩, .int .i64 (checkA l)])) w' from ⟨by rw [if_neg hk0]; rfl, hb⟩)
    have hne : (checkA l != 0) = true := bne_iff_ne.2 hk0
    clear hk0
    generalize checkA l = ce at *
    go_enter Tryd.func13, Tryd.ntmps13
    go_wp2_with fail
    refine HCK.out.mono ?_
    rintro e w1 ⟨rfl, hb1⟩
    go_wp2_with fail
    exact bodyPost_ret (v := .tuple #[.string ⟨#[]⟩, .int .i64 ce]) (by simp [results, Tryd.results13]) rfl (HR.out _ hb1)
  · obtain ⟨hn, hval⟩ := checkA_zero hk0
    have HR := Lib.hid (fun (w' : World) (hb : Below w.heap.size w w') => show RetF l w (.returned (.tuple #[.string (bs (fmtA l)), .int .i64 0])) w' from ⟨by rw [if_pos hk0, hk0], hb⟩)
    have HV := Lib.hid (show ∀ x ∈ l, vIns x = true ∧ FitI x from fun x hx => ⟨hval x hx, hF x hx⟩)
    rw [hk0] at HCK
    clear hk0 hval hF
    go_enter Tryd.func13, Tryd.ntmps13
    go_wp2_with fail
    refine HCK.out.mono ?_
    rintro e W1 ⟨rfl, hb1⟩
    have q1 := Lib.hid hb1
    have hw1 := hb1.size
    have hbf := Lib.hid (bf_new W1)
    clear hb1 HCK
    go_wp2_with fail
    generalize W1.alloc _ = W2 at hbf ⊢
    refine (writers_any W2).mono ?_
    rintro e W3 ⟨rfl, hm3, hb3⟩
    have hlt2 := hbf.out.lt
    have H3 := Lib.hid (show FI W1 W3 W1.heap.size W2.heap.size (fmtA (l.take 0)) from ⟨hbf.out.below (Nat.le_of_lt hlt2) hb3, hm3, by omega⟩)
    clear hm3 hb3 hbf
    go_wp2_with fail
    go_loopw [20] (fun i wr => ∃ k : Nat, k ≤ l.length ∧ i = .int .i64 k ∧ Hid (FI W1 wr W1.heap.size W2.heap.size (fmtA (l.take k)))) (fun i _ => l.length - (intOf i).toNat)
    case atStart => exact ⟨0, by omega, rfl, H3⟩
    case round =>
      obtain ⟨k, hk, rfl, hw⟩ := hrel
      have hlt := hw.out.1.lt
      have hlen := fmtA_len HV.out k hk
      have Q0 := Lib.hid (below_step q1.out hw1 hw.out.1.1)
      by_cases hin : k < l.length
      · obtain ⟨b, o, rfl, hi⟩ := (HC.out.mono Q0.out).at_ hin
        have hop := hY.at_ hin
        have HE := Lib.hid (fmtA_step hin)
        have hv := HV.out _ (List.getElem_mem hin)
        obtain ⟨c0, c1, c2, c3, c4⟩ := id hi
        generalize l[k] = x at *
        have r1 : (0 : Int) ≤ k := by omega
        have r2 : (k : Int) < l.length := by omega
        have hcl := (clsL_len x.op).2
        have hml := mnem_len x.op
        go_upto_region 9 with fail
        have HX1 : Hid ((wr.alloc (Obj.cells #[.int .u8 x.op, .int .i64 x.a, .int .i64 x.b, .int .i64 x.c, .int .i64 x.d] 43)).heap[wr.heap.size]? = some (Obj.cells #[.int .u8 x.op, .int .i64 x.a, .int .i64 x.b, .int .i64 x.c, .int .i64 x.d] 43)) := heap_alloc_new wr _
        have bwi := below_box wr (Obj.cells #[.int .u8 x.op, .int .i64 x.a, .int .i64 x.b, .int .i64 x.c, .int .i64 x.d] 43)
        have HWi := Lib.hid (hw.out.below bwi)
        have HTi := Lib.hid (HT.out.mono (below_step Q0.out Q0.out.size bwi))
        have Qi := Lib.hid (below_step Q0.out Q0.out.size bwi)
        clear c0 c1 c2 c3 c4 hi hw bwi
        generalize wr.alloc _ = Wi at HX1 HWi HTi Qi ⊢
        have HM := Lib.hid (mnemonic_any x.op hop Wi HTi.out)
        have HWS := Lib.hid (wsk_any W1.heap.size W1.heap.size (fmtA (l.take k)) (mnem x.op) Wi Wi HWi.out.self.1 (by omega) (Nat.le_of_lt HWi.out.1.lt))
        have d0 : Wi.cell? ⟨wr.heap.size, 0, none⟩ = some (.int .u8 x.op) := Bx.cell (cs := #[.int .u8 x.op, .int .i64 x.a, .int .i64 x.b, .int .i64 x.c, .int .i64 x.d]) ⟨_, HX1.out⟩ rfl
        go_upto_region 10 with (first
          | (go_at_call 23; refine HM.out.mono ?_; rintro e w5 ⟨rfl, rfl⟩)
          | (go_at_call 29; refine HWS.out.mono ?_; rintro e w6 ⟨rfl, bf6⟩; have BF6 := Lib.hid bf6; clear bf6))
        have hne1 : wr.heap.size ≠ W1.heap.size := by omega
        have HX6 := Lib.hid (BF6.out.2.2 _ _ HX1.out (by simpa using hne1) (by intro c fz e; cases e))
        have HW6 := Lib.hid (HWi.out.on BF6.out)
        obtain ⟨e0, e1, e2, e3, e4, _⟩ := Bx.five (show Bx w6 wr.heap.size #[.int .u8 x.op, .int .i64 x.a, .int .i64 x.b, .int .i64 x.c, .int .i64 x.d] from ⟨_, HX6.out⟩)
        have hl6 := lt_of_block HX6.out
        have hlB := HW6.out.1.lt
        go_cut [9, 10] (fun p q wc => Hid (CutF x W1 wc W1.heap.size W2.heap.size p q (fmtA (l.take k) ++ mnem x.op)))
        case first =>
          go_region_law (first
            | (go_simp; go_at_call 30; refine (classes_any x.op hop _).mono ?_; rintro e w7 ⟨rfl, rfl⟩)
            | (go_simp; go_at_call 31; refine (operandsA_any x.op x.a x.b x.c x.d (w6.alloc _).drew).mono ?_; rintro e w7 ⟨rfl, hb7⟩; obtain ⟨hz, hbw, hcl7⟩ := zer4 hb7; have HF := Lib.hid (And.intro hz hbw); have g0 := hcl7 _ _ e0; obtain ⟨z0, z1, z2, z3, f0, f1, f2, f3⟩ := Bx.four (show Bx w7 w6.heap.size _ from ⟨_, hz⟩); clear hz hbw hcl7 hb7)
            | (go_simp; go_at_call 31; refine (operandsA_any x.op x.a x.b x.c x.d w6.drew).mono ?_; rintro e w7 ⟨rfl, hb7⟩; have g0 := below_cell hb7 e0; have hb8 := Lib.hid (below_step (belowDrawn (Below.refl w6.heap.size w6)) (Nat.le_refl _) hb7); clear hb7)
            | fail)
          all_goals
            go_wp2_with fail
            go_meet
            first
              | exact ⟨rfl, ⟨_, rfl, by omega, bt_set4 HF.out.1 _ _ _ _⟩, HW6.out.below (below_set4 HF.out.2 (Nat.le_refl _) _ _ _ _)⟩
              | exact ⟨rfl, ⟨_, rfl, by have := hb8.out.size; omega, heap_alloc_new _ _⟩, HW6.out.below (hb8.out.alloc hb8.out.size _)⟩
        case rest =>
          obtain ⟨hp, hq, hw9⟩ := hcut.out
          clear hcut
          subst hp
          obtain ⟨bk, rfl, hbB, hbk⟩ := hq
          have HA := Lib.hid hbk
          have HW9 := Lib.hid hw9
          have hsz8 := bs_size (clsL x.op)
          have HLE := Lib.hid (show fmtA (l.take (k + 1)) = ((fmtA (l.take k) ++ mnem x.op) ++ opsW x (clsL x.op).length) ++ [10] by rw [HE.out, lineI_eq]; simp)
          have hq0 : (fmtA (l.take k) ++ mnem x.op).length ≤ 10000000 := by rw [List.length_append]; omega
          have QC := Lib.hid (below_step q1.out hw1 HW9.out.1.1)
          clear hbk hw9 e0 e1 e2 e3 e4 d0 HX1 HX6 HW6 BF6 HWi HE HM HWS hl6 hlB HTi Qi
          generalize fmtA (l.take k) ++ mnem x.op = q at *
          go_upto_region 12 with fail
          go_loopw [35] (fun i wr => ∃ j : Nat, j ≤ (clsL x.op).length ∧ i = .int .i64 j ∧ Hid (FI wc wr W1.heap.size W2.heap.size (q ++ opsW x j))) (fun i _ => (clsL x.op).length - (intOf i).toNat)
          case atStart => exact ⟨0, Nat.zero_le _, rfl, by
            rw [show q ++ opsW x 0 = q by simp [opsW, wdsI]]
            exact HW9.out.self⟩
          case round =>
            obtain ⟨j, hj, rfl, hwm⟩ := hrel
            have hltm := hwm.out.1.lt
            have hll : (q ++ opsW x j).length ≤ 20000000 := by have := opsW_len hv.1 hv.2 j hj; rw [List.length_append]; omega
            by_cases hjn : j < (clsL x.op).length
            · have HOS := Lib.hid (opsW_succ x j)
              have hcm := clsL_mem (show (clsL x.op).getD j 0 ∈ clsL x.op from by rw [List.getD_eq_getElem?_getD, List.getElem?_eq_getElem hjn]; exact List.getElem_mem _)
              have hok := valid_okW hv.1 hv.2 hjn
              have hfo := hv.2.opd j
              have hwl := wrd_len hok hfo.1 hfo.2
              have HWB := Lib.hid (wbk_any W1.heap.size W1.heap.size (q ++ opsW x j) 32 wr wr hwm.out.self.1 (by omega) (Nat.le_of_lt hltm))
              go_upto_region 15 with (go_at_call 32; refine HWB.out.mono ?_; rintro e wx ⟨rfl, bfx⟩; have BFx := Lib.hid bfx; clear bfx)
              have HFx := Lib.hid (hwm.out.on BFx.out)
              have hltx := HFx.out.1.lt
              have QX := Lib.hid (below_step q1.out hw1 (HW9.out.trans HFx.out).1.1)
              have hAj : wx.cell? ⟨bk, j, none⟩ = some (.int .i64 (opdI x j)) := Ar.get (HFx.out.1.2.2 _ _ HA.out (by simpa using hbB) (by intro c fz e; cases e)) (by omega)
              have s1 : (0 : Int) ≤ j := by omega
              have s2 : (j : Int) < 4 := by omega
              have s3 : (j : Int) < (bs (clsL x.op)).size := by omega
              have hjs : j < (bs (clsL x.op)).size := by omega
              have hcg := bs_get (clsL x.op) hjs
              have HWF := Lib.hid (show (wrF (((bs (clsL x.op))[j]'hjs).toNat : Int)).getD .nilFunc = .func (.func (fnOf ((bs (clsL x.op))[j]'hjs))) #[] #[] from wrF_at (by rw [hcg]; exact hcm))
              have HWR := Lib.hid (wrf_any hok hfo.1 hfo.2 wx.drew (HWl.out.below (belowDrawn QX.out)) (HS.out.mono (belowDrawn QX.out)))
              rw [← hcg] at HWR hwl HOS
              have hwf : (Lit.int .u8 (((bs (clsL x.op))[j]'hjs).toNat : Int)).wf = true := wf_u8 _
              have HMd := Lib.hid (show MapF wx.drew W2.heap.size 6 wrF from HFx.out.2.1)
              have HD := Lib.hid (HFx.out.drew)
              have HE2 := Lib.hid (show (q ++ opsW x j ++ [32]) ++ wrd ((bs (clsL x.op))[j]'hjs) (opdI x j) = q ++ opsW x (j + 1) by rw [HOS.out]; simp)
              have hl2 : (q ++ opsW x j ++ [32]).length + (wrd ((bs (clsL x.op))[j]'hjs) (opdI x j)).length ≤ 140737488355328 := by rw [List.length_append]; simp only [List.length_cons, List.length_nil]; omega
              clear hcm hok hfo HWB hwl HOS hcg hwm BFx
              have hlk := mapF_look (t := 62) Tryd.underlying62 HMd.out _ hwf
              rw [HWF.out] at hlk
              clear HWF
              rcases fnOf_cases ((bs (clsL x.op))[j]'hjs) with hfn | hfn | hfn
              all_goals
                rw [hfn] at hlk HWR
                clear hfn
                go_region_law (first
                  | (go_simp; refine HWR.out.mono ?_; rintro e w7 ⟨rfl, hb7⟩; have HF7 := Lib.hid (HD.out.below hb7); have hlt7 := HF7.out.1.lt; clear hb7)
                  | (go_simp; go_at_call 29; refine (wsk_any W1.heap.size W1.heap.size _ _ w7 w7 HF7.out.self.1 hl2 (Nat.le_of_lt hlt7)).mono ?_; rintro e w8 ⟨rfl, bf8⟩; rw [HE2.out] at bf8; have HF8 := Lib.hid (HF7.out.on bf8); clear bf8)
                  | fail)
                all_goals
                  go_wp2_with fail
                  exact ⟨⟨j + 1, by omega, by go_num, HF8⟩, by simp [intOf]; omega⟩
            · obtain rfl : j = (clsL x.op).length := by omega
              have HWB := Lib.hid (wbk_any W1.heap.size W1.heap.size (q ++ opsW x (clsL x.op).length) 10 wr wr hwm.out.self.1 (by omega) (Nat.le_of_lt hltm))
              go_wp2_with (go_at_call 32; refine HWB.out.mono ?_; rintro e wx ⟨rfl, bfx⟩; have BFx := Lib.hid bfx; clear bfx)
              have HN := Lib.hid (show FI W1 wx W1.heap.size W2.heap.size (fmtA (l.take (k + 1))) from by rw [HLE.out]; exact HW9.out.trans (hwm.out.on BFx.out))
              exact ⟨⟨k + 1, by omega, by go_num, HN⟩, by simp [intOf]; omega⟩
      · obtain rfl : k = l.length := by omega
        rw [List.take_length] at hw
        have HBS := Lib.hid (bstrk_any W1.heap.size W1.heap.size (fmtA l) W1 wr hw.out.1 (Nat.le_of_lt hlt))
        go_wp2_with fail
        refine HBS.out.mono ?_
        rintro e w8 ⟨rfl, hb8⟩
        have q8 := Lib.hid (below_step q1.out hw1 hb8)
        go_wp2_with fail
        exact bodyPost_ret (v := .tuple #[.string (bs (fmtA l)), .int .i64 0]) (by simp [results, Tryd.results13]) rfl (HR.out _ q8.out)

end Go.Proofs.YtodiijoeeeeicaaDoor
