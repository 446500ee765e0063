/-
  AsmJoins: the walk.
-/
import Derived.Test.YtodiijoeeeeicaaDoorAsmL8
namespace Go.Proofs.YtodiijoeeeeicaaDoor
open Go.ChangeShapes Go.WideShapes Go.ChangeAt Go.RowKit Go.Sort

/-- wpList_app for an operation whose guard is met. -/
theorem wpList_appG {P : Program} {w : World} {ops : Array Oper} {rest : List Oper} {o : Oper} {a : Act} {Q : Exit → Act → World → Prop} (hwt : Region.wanted o (yielded ops a.tmps) = true) (s x : Operand) (t : TypeId)
    (ho : o.op = .call { callee := .builtin .append, args := #[s, x], argTypes := #[t, t] })
    (base : Nat) (e : TypeId) (i : TypeInfo) (z : Value) (size bytes : Nat) (ht : P.underlying t = some (.slice e)) (hi : P.info? e = some i) (hz : i.zero = some z)
    (hsize : i.size = size) (hby : i.bytes = bytes) (hzs : z.cells.size = size) (hsz : 0 < size) (v : Value) (n : Nat) (xs : List Value) (hs : a.eval s = v) (hown : w.ownsRow base e size v n xs)
    (A : Option Addr) (m c : Nat) (news : List Value) (hx : a.eval x = .slice A m c) (hl : news.length = m * size) (hr : CellsAt w A news) (h1 : ∀ u ∈ news, u.oneCell' = true)
    (h63 : n + m ≤ maxLen) (hbytes : (n + m) * bytes ≤ 140737488355328) (hbase : base ≤ w.heap.size)
    (h : ∀ v' w', w'.ownsRow base e size v' (n + m) (xs ++ news) → w.grownBy w' v.ownBlock → (v'.ownBlock = v.ownBlock ∨ v'.ownBlock = some w.heap.size) → wpList P ops Q rest (a.put o.dst v') w') : wpList P ops Q (o :: rest) a w :=
  wpList_step fun K hK => by
    simp only [hwt, if_true]
    exact wp_app w s x t ho base e i z size bytes ht hi hz hsize hby hzs hsz v n xs hs hown A m c news hx hl hr h1 h63 hbytes hbase fun v' w' h2 h3 h4 => hK _ _ (h v' w' h2 h3 h4)
theorem CodeAt.cells {w : World} {A : Option Addr} {l : List Ins} (h : CodeAt w A l) : CellsAt w A (cellsL l) := fun j u hj => by
  have hjl := (List.getElem?_eq_some_iff.1 hj).1
  have hll := cellsL_length l
  obtain ⟨b, o, e, _⟩ := h.at_ (k := 0) (by omega)
  subst e
  have hadd : (⟨b, o, none⟩ : Addr).add j = ⟨b, o + j, none⟩ := by unfold Addr.add; by_cases h : j = 0 <;> simp [h]
  refine ⟨b, o, rfl, ?_⟩
  rw [← hadd]
  exact codeAt_cells h j u hj
/-- What the two texts, one behind the other, are parsed as. -/
theorem parse_join {l : List Ins} {s : List UInt8} (h : ∀ x ∈ l, vIns x = true ∧ FitI x) (hl : l.length ≤ 40) (hs : s.length ≤ 300) : parseA (fmtA l ++ s) = (match parseA s with | .err n e => .err (l.length + n) e | .ok m => .ok (l ++ m)) := by
  have h1 := prsA_fmt l ((fmtA l ++ s).length + 1) s [] h (by simp; omega) (by omega)
  have h2 := prsA_shift (s.length + 1) s [] l (by simp; omega) (by omega)
  rw [List.append_nil] at h2
  rw [List.nil_append] at h1
  show prsA _ _ _ = _
  rw [h1, h2]
  rfl
theorem prsA_line : ∀ (f : Nat) (s : List UInt8) (acc : List Ins) (n : Nat) (c : Int), prsA f s acc = .err n c → n ≤ acc.length + s.length + 1
  | 0, s, acc, n, c, h => by cases h
  | f + 1, s, acc, n, c, h => by
    rw [prsA] at h
    split at h
    · cases h
    · split at h
      · cases h; omega
      · cases hr : readI (cutA s).1 with
        | none => rw [hr] at h; cases h; omega
        | some x =>
          rw [hr] at h
          dsimp only at h
          split at h
          · cases h; omega
          · rename_i hc
            have hc : (cutA s).2.2 = true := by simpa using hc
            have he := (cutA_some (s := s) (a := (cutA s).1) (r := (cutA s).2.1) (by rw [← hc])).1
            have hl := congrArg List.length he
            simp at hl
            have := prsA_line f _ _ n c h
            simp at this
            omega
set_option maxRecDepth 100000 in
set_option maxHeartbeats 2000000 in
theorem asmJoins_walk (l : List Ins) (A : Option Addr) (cap : Nat) (s : List UInt8) (w : World) (hC : CodeAt w A l) (hl : l.length ≤ 9223372036854775807) (hY : Bytes l) (hF : ∀ x ∈ l, FitI x) (hs : s.length ≤ 9223372036854775807) (hT : Tab w) (hS : TabS w) (hW : Wld w) :
    Calls Tryd.prog 6 #[.slice A l.length cap, .string (bs s)] w fun e w' => e = .returned (.bool true) ∧ Below w.heap.size w w' := by
  have HAW := Lib.hid (awake_any w hT hS hW)
  have HTS := Lib.hid (And.intro hT (And.intro hS hW))
  have HL := Lib.hid hC
  have HY := Lib.hid hY
  have HF := Lib.hid hF
  have hsz := bs_size s
  obtain ⟨i0, hi0, hz0, hz1, hz2⟩ := info_parts info_ins
  have HI := Lib.hid (And.intro hi0 (And.intro hz0 (And.intro hz1 hz2)))
  clear hi0 hz0 hz1 hz2
  clear hT hS hW hC hY hF
  go_enter Tryd.func6, Tryd.ntmps6
  go_wp2_with fail
  refine HAW.out.mono ?_
  rintro e W1 ⟨rfl, hb1⟩
  have q1 := Lib.hid hb1
  clear hb1 HAW
  by_cases h40 : 40 < l.length
  · have h40' : (40 : Int) < l.length := by omega
    go_wp2_with fail
    go_ret
    exact ⟨rfl, q1.out⟩
  by_cases h300 : 300 < s.length
  · have h40' : (l.length : Int) ≤ 40 := by omega
    have h300' : (300 : Int) < s.length := by omega
    go_wp2_with fail
    go_ret
    exact ⟨rfl, q1.out⟩
  have h40' : (l.length : Int) ≤ 40 := by omega
  have h300' : (s.length : Int) ≤ 300 := by omega
  have HFM := Lib.hid (format_any l A cap W1 (HL.out.mono q1.out) HY.out HF.out (HTS.out.1.mono q1.out) (HTS.out.2.1.mono q1.out) (HTS.out.2.2.below q1.out) (by omega))
  have HLN := Lib.hid (And.intro (show l.length ≤ 40 by omega) (show s.length ≤ 300 by omega))
  clear hl hs h40 h300
  go_wp2_with fail
  refine HFM.out.mono ?_
  rintro e W2 ⟨rfl, hb2⟩
  have q2 := Lib.hid (below_step q1.out q1.out.size hb2)
  clear hb2 HFM
  by_cases hk0 : checkA l = 0
  rotate_left
  · rw [if_neg hk0]
    have hne : (checkA l != 0) = true := bne_iff_ne.2 hk0
    generalize checkA l = ce at *
    go_wp2_with fail
    go_ret
    exact ⟨rfl, q2.out⟩
  have HV := Lib.hid (chk_fit hk0 HF.out)
  have HFS := Lib.hid (fmtA_small HV.out HLN.out.1)
  have HP := Lib.hid (parse_any s W2 (by have := HLN.out.2; omega) (HTS.out.1.mono q2.out) (HTS.out.2.1.mono q2.out) (HTS.out.2.2.below q2.out))
  have HJ := Lib.hid (parse_join HV.out HLN.out.1 HLN.out.2)
  rw [if_pos hk0, hk0]
  have hap : (bs (fmtA l)) ++ (bs s) = bs (fmtA l ++ s) := by
    apply ByteArray.ext
    simp [bs, ByteArray.data_append]
  have HAP := Lib.hid hap
  have hzf : (bs (fmtA l)).size = (fmtA l).length := bs_size _
  have hbig : ¬ 9223372036854775807 < (fmtA l).length + s.length := by have := HFS.out; have := HLN.out.2; omega
  have HP2 : Hid (∀ W (hW : Below w.heap.size w W), Calls Tryd.prog 17 #[.string (bs (fmtA l ++ s))] W (RetPA (fmtA l ++ s) W)) := fun W hW => parse_any (fmtA l ++ s) W (by rw [List.length_append]; have := HLN.out.2; have := HFS.out; omega) (HTS.out.1.mono hW) (HTS.out.2.1.mono hW) (HTS.out.2.2.below hW)
  clear hk0 hap
  go_wp2_with fail
  refine HP.out.mono ?_
  rintro e W3 he
  unfold RetPA at he
  cases hp : parseA s with
  | err n c =>
    rw [hp] at he HJ
    obtain ⟨hb3, rfl⟩ := he
    have q3 := Lib.hid (below_step q2.out q2.out.size hb3)
    have hcz : (c != 0) = true := bne_iff_ne.2 (prsA_nz _ _ _ _ _ hp)
    have HPC := Lib.hid (HP2.out W3 q3.out)
    clear hb3 HP
    have hnl := prsA_line _ _ _ _ _ hp
    have hwn : wrap64 ((n : Int) + l.length) = ((l.length + n : Nat) : Int) := by have := HLN.out.1; have := HLN.out.2; simp at hnl; unfold wrap64; omega
    clear hnl
    go_wp2_with fail
    rw [HAP.out]
    refine HPC.out.mono ?_
    rintro e W4 he
    unfold RetPA at he
    rw [HJ.out] at he
    obtain ⟨hb4, rfl⟩ := he
    have q4 := Lib.hid (below_step q3.out q3.out.size hb4)
    clear hb4 HPC
    generalize ((l.length + n : Nat) : Int) = nn at *
    go_wp2_with fail
    go_ret
    exact ⟨rfl, q4.out⟩
  | ok m =>
    rw [hp] at he HJ
    obtain ⟨v3, rfl, hw3, _⟩ := he
    obtain ⟨A3, c3, rfl, hcode3⟩ := code_of_own hw3.2
    have q3 := Lib.hid (below_step q2.out q2.out.size hw3.1)
    have HM3 := Lib.hid hcode3
    have HML := Lib.hid (parseA_ok hp).2.2
    have HPC := Lib.hid (HP2.out W3 q3.out)
    clear hw3 hcode3 HP
    go_wp2_with fail
    rw [HAP.out]
    refine HPC.out.mono ?_
    rintro e W4 he
    unfold RetPA at he
    rw [HJ.out] at he
    obtain ⟨v4, rfl, hw4, _⟩ := he
    obtain ⟨A4, c4, rfl, hcode4⟩ := code_of_own hw4.2
    have q4 := Lib.hid (below_step q3.out q3.out.size hw4.1)
    have HM4 := Lib.hid (HM3.out.mono hw4.1)
    have HL4 := Lib.hid (HL.out.mono q4.out)
    have HB4 := Lib.hid hcode4
    clear hw4 hcode4 HPC
    have HE1 := Lib.hid (own_empty W4 (e := 43) (size := 5))
    have HBX := Lib.hid (below_box W4 (Obj.cells #[] 43))
    have hcl := cellsL_length l
    have hcm := cellsL_length m
    go_wp2_with (at_builtin; first
      | (refine wpList_appG rfl _ _ 22 rfl W4.heap.size 43 i0 (.agg #[.int .u8 0, .int .i64 0, .int .i64 0, .int .i64 0, .int .i64 0]) 5 40 Tryd.underlying22 HI.out.1 HI.out.2.1 HI.out.2.2.1 HI.out.2.2.2 rfl (by decide) _ 0 [] rfl HE1.out A l.length cap (cellsL l) rfl hcl (HL4.out.mono HBX.out).cells (cellsL_one l) (by have := HLN.out.1; unfold maxLen; omega) (by have := HLN.out.1; omega) HBX.out.size ?_; intro v5 w5 hown5 hg5 _; have HO5 := Lib.hid hown5; have HG5 := Lib.hid (HBX.out.grown hg5 HBX.out.size (fun k hk => by cases hk; exact Nat.le_refl _)); clear hown5 hg5)
      | (refine wpList_appG rfl _ _ 22 rfl W4.heap.size 43 i0 (.agg #[.int .u8 0, .int .i64 0, .int .i64 0, .int .i64 0, .int .i64 0]) 5 40 Tryd.underlying22 HI.out.1 HI.out.2.1 HI.out.2.2.1 HI.out.2.2.2 rfl (by decide) _ _ _ rfl HO5.out A3 m.length c3 (cellsL m) rfl hcm (HM4.out.mono HG5.out).cells (cellsL_one m) (by have := HLN.out.1; have := HML.out; unfold maxLen; omega) (by have := HLN.out.1; have := HML.out; omega) HG5.out.size ?_; intro v6 w6 hown6 hg6 _; have HO6 := Lib.hid hown6; have HG6 := Lib.hid (HG5.out.grown hg6 HG5.out.size (fun k hk => (HO5.out.lt k hk).1)); clear hown6 hg6))
    have hown : w6.ownsRow W4.heap.size 43 5 v6 (l ++ m).length (cellsL (l ++ m)) := by
      have h := HO6.out
      rw [List.length_append, cellsL_append]
      simpa using h
    obtain ⟨A6, c6, rfl, hcode6⟩ := code_of_own hown
    have q6 := Lib.hid (below_step q4.out q4.out.size HG6.out)
    have HSM := Lib.hid (same_self (l ++ m) A4 A6 c4 c6 w6 (HB4.out.mono HG6.out) hcode6 (by rw [List.length_append]; have := HLN.out.1; have := HML.out; omega))
    clear hown hcode6 HO6 HG6 HO5 HG5
    simp only [List.length_append] at HSM ⊢
    refine HSM.out.mono ?_
    rintro e W8 ⟨rfl, hb8⟩
    have q8 := Lib.hid (below_step q6.out q6.out.size hb8)
    go_wp2_with fail
    go_ret
    exact ⟨rfl, q8.out⟩

end Go.Proofs.YtodiijoeeeeicaaDoor
