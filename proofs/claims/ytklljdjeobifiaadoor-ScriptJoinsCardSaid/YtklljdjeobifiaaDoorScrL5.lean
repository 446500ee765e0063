/-
  ScriptJoins: the walk.
-/
import Derived.Test.YtklljdjeobifiaaDoorScrGreat
namespace Go.Proofs.YtklljdjeobifiaaDoor
open Go.ChangeShapes Go.WideShapes Go.ChangeAt Go.RowKit Go.Sort Go.Maps

theorem RowG.app {α : Type} {C : List Value → α → Prop} {cs ds : List Value} {l m : List α} (h : RowG C cs l) (h2 : RowG C ds m) : RowG C (cs ++ ds) (l ++ m) := by
  induction h2 with
  | nil => simpa using h
  | snoc _ hc ih => rw [← List.append_assoc, ← List.append_assoc]; exact .snoc ih hc
theorem cms_cells {w : World} {A : Option Addr} {l : List Cm} (h : CmsAt w A l) : ∃ cs, CellsAt w A cs ∧ RowG (CmC w) cs l ∧ cs.length = l.length * 4 := by
  have key : ∀ n, n ≤ l.length → ∃ cs, CellsAt w A cs ∧ RowG (CmC w) cs (l.take n) := by
    intro n
    induction n with
    | zero => exact fun _ => ⟨[], fun j u hu => by simp at hu, .nil⟩
    | succ n ih =>
      intro hn
      obtain ⟨cs, h1, h2⟩ := ih (by omega)
      obtain ⟨b, o, e, c0, c1, c2, A', cp, c3, hi⟩ := h n l[n] (List.getElem?_eq_getElem _)
      have hl := h2.len CmC.len
      rw [List.length_take] at hl
      refine ⟨cs ++ [.int .u8 l[n].kind, .string (bs l[n].name), .string (bs l[n].text), .slice A' l[n].nums.length cp], fun j u hu => ?_, by rw [List.take_succ_eq_append_getElem (by omega)]; exact .snoc h2 ⟨A', cp, rfl, hi⟩⟩
      by_cases hj : j < cs.length
      · rw [List.getElem?_append_left hj] at hu
        exact h1 j u hu
      · rw [List.getElem?_append_right (by omega)] at hu
        refine ⟨b, o, e, ?_⟩
        have hm : cs.length = n * 4 := by rw [hl]; congr 1; omega
        obtain ⟨d, hd⟩ : ∃ d, j = n * 4 + d := ⟨j - n * 4, by omega⟩
        rw [hm, hd, Nat.add_sub_cancel_left] at hu
        rw [hd, ← Nat.add_assoc]
        match d, hu with
        | 0, hu => cases hu; exact c0
        | 1, hu => cases hu; exact c1
        | 2, hu => cases hu; exact c2
        | 3, hu => cases hu; exact c3
        | d + 4, hu => simp at hu
  obtain ⟨cs, h1, h2⟩ := key l.length (Nat.le_refl _)
  rw [List.take_length] at h2
  exact ⟨cs, h1, h2, h2.len CmC.len⟩

theorem cellsAt_grownOld {W w w' : World} {A : Option Addr} {cs : List Value} {r : Option Nat} (h : CellsAt W A cs) (hb : Below W.heap.size W w) (hg : w.grownBy w' r) (hr : ∀ g, r = some g → W.heap.size ≤ g) : CellsAt w' A cs := fun j u hu => by
  obtain ⟨b, o, e, h1⟩ := h j u hu
  have hlt := block_lt_of_cell h1
  exact ⟨b, o, e, grown_cell hg (below_cell hb h1) (fun e => by have := hr b e.symm; simp at hlt; omega)⟩

set_option maxRecDepth 100000 in
set_option maxHeartbeats 1000000 in
theorem scriptJoins_walk (la : List Cm) (A : Option Addr) (cap : Nat) (lb : List Cm) (B : Option Addr) (cbp : Nat) (w : World) (hL : CmsAt w A la) (hl : la.length ≤ 9223372036854775807) (hs : ∀ c ∈ la, Sm c) (hf : ∀ c ∈ la, Fits c)
    (hL2 : CmsAt w B lb) (hl2 : lb.length ≤ 9223372036854775807) (hs2 : ∀ c ∈ lb, Sm c) (hf2 : ∀ c ∈ lb, Fits c) (hW : Wld w) :
    Calls Tryd.prog 7 #[.slice A la.length cap, .slice B lb.length cbp] w fun e w' => e = .returned (.bool true) ∧ Below w.heap.size w w' := by
  have HWl := Lib.hid hW
  have HL := Lib.hid hL
  have HM := Lib.hid hL2
  have HS := Lib.hid hs
  have HF := Lib.hid hf
  have HT := Lib.hid hs2
  have HU := Lib.hid hf2
  have HAW := Lib.hid (awake_any w hW)
  obtain ⟨i0, hi0, hz0, hz1, hz2⟩ := info_parts info_rcmd
  have HI := Lib.hid (And.intro hi0 (And.intro hz0 (And.intro hz1 hz2)))
  clear hW hL hs hf hL2 hs2 hf2 hi0 hz0 hz1 hz2
  go_enter Tryd.func7, Tryd.ntmps7
  go_wp2_with fail
  refine HAW.out.mono ?_
  rintro e W1 ⟨rfl, hb1⟩
  have q1 := Lib.hid hb1
  have HW1 := Lib.hid (HWl.out.below hb1)
  have HL1 := Lib.hid (HL.out.mono hb1)
  have HM1 := Lib.hid (HM.out.mono hb1)
  have HG := Lib.hid (great_any la A cap W1 HL1.out hl HS.out)
  clear hb1 HAW
  go_wp2_with fail
  refine HG.out.mono ?_
  rintro e W2 ⟨b, rfl, hbt, hb2⟩
  have q2 := Lib.hid (below_step q1.out q1.out.size hb2)
  have HW2 := Lib.hid (HW1.out.below hb2)
  have HL2 := Lib.hid (HL1.out.mono hb2)
  have HM2 := Lib.hid (HM1.out.mono hb2)
  clear hb2 HG hbt
  cases b with
  | true =>
    go_wp2_with fail
    go_ret
    exact ⟨rfl, q2.out⟩
  | false =>
  have HG := Lib.hid (great_any lb B cbp W2 HM2.out hl2 HT.out)
  go_wp2_with fail
  refine HG.out.mono ?_
  rintro e W3 ⟨b, rfl, hbt, hb3⟩
  have q3 := Lib.hid (below_step q2.out q2.out.size hb3)
  have HW3 := Lib.hid (HW2.out.below hb3)
  have HL3 := Lib.hid (HL2.out.mono hb3)
  have HM3 := Lib.hid (HM2.out.mono hb3)
  clear hb3 HG hbt
  cases b with
  | true =>
    go_wp2_with fail
    go_ret
    exact ⟨rfl, q3.out⟩
  | false =>
  by_cases h400 : 400 < la.length
  · go_wp2_with fail
    go_ret
    exact ⟨rfl, q3.out⟩
  by_cases h401 : 400 < lb.length
  · go_wp2_with fail
    go_ret
    exact ⟨rfl, q3.out⟩
  have HGV := Lib.hid (given_any la A cap W3 HL3.out (by omega))
  go_wp2_with fail
  refine HGV.out.mono ?_
  rintro e W4 ⟨A4, c4, rfl, hC4, hb4⟩
  have q4 := Lib.hid (below_step q3.out q3.out.size hb4)
  have HW4 := Lib.hid (HW3.out.below hb4)
  have HL4 := Lib.hid (HL3.out.mono hb4)
  have HM4 := Lib.hid (HM3.out.mono hb4)
  have HFM := Lib.hid (formatV_any la A4 c4 W4 hC4 hl HS.out HF.out HW4.out)
  clear hb4 HGV hC4
  go_wp2_with fail
  refine HFM.out.mono ?_
  rintro e W5 ⟨rfl, hb5⟩
  obtain ⟨sa, ea, hsa, hea, hora⟩ : ∃ (s : ByteArray) (e : Int), bs (if okL la = true then fmtL la else []) = s ∧ (if okL la = true then 0 else 3) = e ∧ ((okL la = true ∧ s = bs (fmtL la) ∧ e = 0) ∨ (okL la = false ∧ e = 3)) := by
    cases h : okL la
    · exact ⟨_, _, rfl, rfl, .inr ⟨rfl, rfl⟩⟩
    · exact ⟨_, _, rfl, rfl, .inl ⟨rfl, rfl, rfl⟩⟩
  rw [hsa, hea]
  have HORa := Lib.hid hora
  clear hsa hea hora
  have q5 := Lib.hid (below_step q4.out q4.out.size hb5)
  have HW5 := Lib.hid (HW4.out.below hb5)
  have HL5 := Lib.hid (HL4.out.mono hb5)
  have HM5 := Lib.hid (HM4.out.mono hb5)
  clear hb5 HFM
  have HGV := Lib.hid (given_any lb B cbp W5 HM5.out (by omega))
  go_wp2_with fail
  refine HGV.out.mono ?_
  rintro e W6 ⟨A6, c6, rfl, hC6, hb6⟩
  have q6 := Lib.hid (below_step q5.out q5.out.size hb6)
  have HW6 := Lib.hid (HW5.out.below hb6)
  have HL6 := Lib.hid (HL5.out.mono hb6)
  have HM6 := Lib.hid (HM5.out.mono hb6)
  have HFM := Lib.hid (formatV_any lb A6 c6 W6 hC6 hl2 HT.out HU.out HW6.out)
  clear hb6 HGV hC6
  go_wp2_with fail
  refine HFM.out.mono ?_
  rintro e W7 ⟨rfl, hb7⟩
  obtain ⟨sb, eb, hsb, heb, horb⟩ : ∃ (s : ByteArray) (e : Int), bs (if okL lb = true then fmtL lb else []) = s ∧ (if okL lb = true then 0 else 3) = e ∧ ((okL lb = true ∧ s = bs (fmtL lb) ∧ e = 0) ∨ (okL lb = false ∧ e = 3)) := by
    cases h : okL lb
    · exact ⟨_, _, rfl, rfl, .inr ⟨rfl, rfl⟩⟩
    · exact ⟨_, _, rfl, rfl, .inl ⟨rfl, rfl, rfl⟩⟩
  rw [hsb, heb]
  have HORb := Lib.hid horb
  clear hsb heb horb
  have q7 := Lib.hid (below_step q6.out q6.out.size hb7)
  have HW7 := Lib.hid (HW6.out.below hb7)
  have HL7 := Lib.hid (HL6.out.mono hb7)
  have HM7 := Lib.hid (HM6.out.mono hb7)
  clear hb7 HFM
  rcases HORa.out with ⟨ho, ra, ra2⟩ | ⟨ho, ra⟩
  rotate_left
  · subst ra
    clear ho
    go_wp2_with fail
    go_ret
    exact ⟨rfl, q7.out⟩
  rcases HORb.out with ⟨ho2, rb, rb2⟩ | ⟨ho2, rb⟩
  rotate_left
  · subst rb
    subst ra
    subst ra2
    clear ho ho2
    go_wp2_with fail
    go_ret
    exact ⟨rfl, q7.out⟩
  subst ra
  subst ra2
  subst rb
  subst rb2
  have hx9 : (bs (fmtL la)).size ≤ 200000000 := by rw [bs_size]; exact okL_bnd ho HF.out
  have hy9 : (bs (fmtL lb)).size ≤ 200000000 := by rw [bs_size]; exact okL_bnd ho2 HU.out
  have HO := Lib.hid (okL_append ho ho2 (by omega))
  have HXY := Lib.hid (show bs (fmtL la) ++ bs (fmtL lb) = bs (fmtL (la ++ lb)) by rw [bs_app, fmtL_append])
  have HFL := Lib.hid (fun c (hc : c ∈ la ++ lb) => (List.mem_append.1 hc).elim (HF.out c) (HU.out c))
  have HSL := Lib.hid (fun c (hc : c ∈ la ++ lb) => (List.mem_append.1 hc).elim (HS.out c) (HT.out c))
  clear ho ho2
  obtain ⟨ca, ka1, ka2, ka3⟩ := cms_cells HL7.out
  obtain ⟨cb, kb1, kb2, kb3⟩ := cms_cells HM7.out
  have KA := Lib.hid (And.intro ka1 (And.intro ka2 ka3))
  have KB := Lib.hid (And.intro kb1 (And.intro kb2 kb3))
  have KA1 := Lib.hid (ka2.one CmC.one)
  have KB1 := Lib.hid (kb2.one CmC.one)
  clear ka1 ka2 ka3 kb1 kb2 kb3
  generalize bs (fmtL la) = X at *
  generalize bs (fmtL lb) = Y at *
  generalize hZ : bs (fmtL (la ++ lb)) = Z at *
  have HZ := Lib.hid hZ
  clear hZ
  have bx := Lib.hid (below_box W7 (Obj.cells #[] 45))
  have OW := Lib.hid (own_empty W7 (e := 45) (size := 4))
  have CA := Lib.hid (KA.out.1.mono bx.out)
  have CB := Lib.hid (KB.out.1.mono bx.out)
  go_wp2_with (at_builtin; go_loud (first | (refine wpList_app _ rfl (.tmp 51) (.tmp 52) 22 rfl W7.heap.size 45 i0 (.agg #[.int .u8 0, .string ⟨#[]⟩, .string ⟨#[]⟩, .slice none 0 0]) 4 64 Tryd.underlying22 HI.out.1 HI.out.2.1 HI.out.2.2.1 HI.out.2.2.2 rfl (by decide) _ 0 [] rfl OW.out A la.length cap ca rfl KA.out.2.2 CA.out KA1.out (by unfold maxLen; omega) (by omega) (by simp) ?_; intro v1 W8 hown1 hgrow1 _; rw [Nat.zero_add, List.nil_append] at hown1; have OW8 := Lib.hid hown1; have G8 := Lib.hid hgrow1; have CB8 := Lib.hid (cellsAt_grownOld KB.out.1 bx.out hgrow1 (own_block_geB OW.out)); clear hown1 hgrow1) | (refine wpList_app _ rfl (.tmp 53) (.tmp 54) 22 rfl W7.heap.size 45 i0 (.agg #[.int .u8 0, .string ⟨#[]⟩, .string ⟨#[]⟩, .slice none 0 0]) 4 64 Tryd.underlying22 HI.out.1 HI.out.2.1 HI.out.2.2.1 HI.out.2.2.2 rfl (by decide) _ la.length ca rfl OW8.out B lb.length cbp cb rfl KB.out.2.2 CB8.out KB1.out (by unfold maxLen; omega) (by omega) (by have := bx.out.size; have := G8.out.size; simp at *; omega) ?_; intro v2 W9 hown2 hgrow2 _; have OW9 := Lib.hid hown2; have G9 := Lib.hid hgrow2; clear hown2 hgrow2) | fail))
  have PT9 := Lib.hid (show PT 45 W7 v2 (la ++ lb) (ca ++ cb) W9 from
    ⟨(bx.out.grown G8.out bx.out.size (own_block_geB OW.out)).grown G9.out (by have := bx.out.size; have := G8.out.size; omega) (own_block_geB OW8.out), by rw [List.length_append]; exact OW9.out, KA.out.2.1.app KB.out.2.1⟩)
  obtain ⟨A9, c9, rfl, hC9⟩ := PT9.out.cms
  have q9 := Lib.hid (below_step q7.out q7.out.size PT9.out.le)
  have HW9 := Lib.hid (HW7.out.below PT9.out.le)
  have HC9 := Lib.hid hC9
  clear hC9 PT9 OW9 G9 OW8 G8 CB8 CA CB OW bx KA KB KA1 KB1
  have hn : (la ++ lb).length ≤ 1000 := by rw [List.length_append]; omega
  have HZO := Lib.hid (show bs (if okL (la ++ lb) = true then fmtL (la ++ lb) else []) = Z by rw [if_pos HO.out]; exact HZ.out)
  have HGV := Lib.hid (given_any (la ++ lb) A9 c9 W9 HC9.out (by omega))
  generalize hlab : la ++ lb = lab at *
  clear hlab
  go_wp2_with fail
  refine HGV.out.mono ?_
  rintro e W10 ⟨A10, c10, rfl, hC10, hb10⟩
  have q10 := Lib.hid (below_step q9.out q9.out.size hb10)
  have HW10 := Lib.hid (HW9.out.below hb10)
  have HC10 := Lib.hid (HC9.out.mono hb10)
  have HFM := Lib.hid (formatV_any lab A10 c10 W10 hC10 (by omega) HSL.out HFL.out HW10.out)
  clear hb10 HGV hC10
  go_wp2_with fail
  refine HFM.out.mono ?_
  rintro e W11 ⟨rfl, hb11⟩
  rw [HZO.out, if_pos HO.out]
  have q11 := Lib.hid (below_step q10.out q10.out.size hb11)
  have HW11 := Lib.hid (HW10.out.below hb11)
  have HC11 := Lib.hid (HC10.out.mono hb11)
  clear hb11 HFM
  have HBD := Lib.hid (okL_bnd HO.out HFL.out)
  have HPF := Lib.hid (parse_fmt HO.out HFL.out)
  have HP := Lib.hid (parse_any (fmtL lab) W11 HW11.out (by have := HBD.out; omega))
  rw [HZ.out] at HP
  have hXY := HXY.out
  go_wp2_with fail
  refine HP.out.mono ?_
  rintro e W12 ⟨hb12, ⟨n, e0, h, rfl⟩ | ⟨l', A12, c12, h, hC12, rfl⟩⟩
  · rw [HPF.out] at h; cases h
  rw [HPF.out] at h
  obtain rfl : lab = l' := by injection h
  have q12 := Lib.hid (below_step q11.out q11.out.size hb12)
  have HC12 := Lib.hid (HC11.out.mono hb12)
  have HPL := Lib.hid (plain_any lab A12 c12 W12 hC12 (by omega))
  clear hb12 h HP hC12
  go_wp2_with fail
  refine HPL.out.mono ?_
  rintro e W13 ⟨A13, c13, rfl, hC13, hb13⟩
  have q13 := Lib.hid (below_step q12.out q12.out.size hb13)
  have HSA := Lib.hid (same_any lab A13 A9 c13 c9 W13 hC13 (HC12.out.mono hb13) (by omega) HSL.out)
  clear hb13 hC13 HPL
  go_wp2_with fail
  refine HSA.out.mono ?_
  rintro e W14 ⟨rfl, hb14⟩
  have q14 := Lib.hid (below_step q13.out q13.out.size hb14)
  clear hb14 HSA
  go_wp2_with fail
  go_ret
  exact ⟨rfl, q14.out⟩

end Go.Proofs.YtklljdjeobifiaaDoor
