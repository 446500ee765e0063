/-
  script.Parse: the walk.
-/
import Derived.Test.YtklljdjeobifiaaDoorScrRead
namespace Go.Proofs.YtklljdjeobifiaaDoor
open Go.ChangeShapes Go.WideShapes Go.ChangeAt Go.RowKit Go.Sort Go.Maps

theorem info_cmd : (Tryd.prog.info? 42).map (fun i => (i.zero, i.size, i.bytes)) = some (some (.agg #[.int .u8 0, .string ⟨#[]⟩, .string ⟨#[]⟩, .slice none 0 0]), 4, 64) := by kernel_rfl
theorem fmt_count {c : Cm} (h : okC c = true) : (fmtC c).count 10 = lnC c := by
  obtain ⟨s, hs⟩ := okC_iff.1 h
  unfold fmtC lnC
  rw [hs.f]
  dsimp only
  rw [List.count_append, List.count_cons_self, List.count_eq_zero.2 (fun hm => ?_)]
  · omega
  · rcases join_mem hm with e | ⟨w, hw, hb⟩
    · exact absurd e (by decide)
    · exact (wordsC_ok hs w hw 10 hb).2 rfl
/-- Four cells of a row that the call owns. -/
def CmN (wr : World) (vL : Value) (cs : List Value) (c : Cm) : Prop := ∃ A cap, cs = [.int .u8 c.kind, .string (bs c.name), .string (bs c.text), .slice A c.nums.length cap] ∧ IntsAt wr A c.nums ∧ ∀ (b o j : Nat) (y : Int), A = some ⟨b, o, none⟩ → c.nums[j]? = some y → vL.ownBlock ≠ some b
structure PR (w : World) (vL : Value) (acc : List Cm) (cs : List Value) (wr : World) : Prop where
  le : Below w.heap.size w wr
  own : wr.ownsRow w.heap.size 42 4 vL acc.length cs
  row : RowG (CmN wr vL) cs acc
theorem PR.below {w : World} {vL : Value} {acc : List Cm} {cs : List Value} {wr wx : World} (h : PR w vL acc cs wr) (hb : Below wr.heap.size wr wx) : PR w vL acc cs wx :=
  ⟨below_step h.le h.le.size hb, own_below h.own hb, h.row.map fun _ _ ⟨A, cap, e, h1, h2⟩ => ⟨A, cap, e, h1.mono hb, h2⟩⟩
theorem PR.push {w : World} {vL : Value} {acc : List Cm} {cs : List Value} {wx w6 : World} {v' : Value} {c : Cm} {A : Option Addr} {cap : Nat} (h : PR w vL acc cs wx) (hi : IntsAt wx A c.nums) (hfr : ∀ (b o j : Nat) (y : Int), A = some ⟨b, o, none⟩ → c.nums[j]? = some y → vL.ownBlock ≠ some b)
    (hg : wx.grownBy w6 vL.ownBlock) (hown : w6.ownsRow w.heap.size 42 4 v' (acc.length + 1) (cs ++ [.int .u8 c.kind, .string (bs c.name), .string (bs c.text), .slice A c.nums.length cap])) (hor : v'.ownBlock = vL.ownBlock ∨ v'.ownBlock = some wx.heap.size) :
    PR w v' (acc ++ [c]) (cs ++ [.int .u8 c.kind, .string (bs c.name), .string (bs c.text), .slice A c.nums.length cap]) w6 := by
  have key : ∀ (B : Option Addr) (l : List Int), IntsAt wx B l → (∀ (b o j : Nat) (y : Int), B = some ⟨b, o, none⟩ → l[j]? = some y → vL.ownBlock ≠ some b) → IntsAt w6 B l ∧ ∀ (b o j : Nat) (y : Int), B = some ⟨b, o, none⟩ → l[j]? = some y → v'.ownBlock ≠ some b := by
    intro B l h1 h2
    refine ⟨fun j y hj => ?_, fun b o j y e hj => ?_⟩
    · obtain ⟨b, o, e, hc⟩ := h1 j y hj
      exact ⟨b, o, e, grown_cell hg hc (fun e2 => h2 b o j y e hj e2.symm)⟩
    · rcases hor with e2 | e2
      · rw [e2]; exact h2 b o j y e hj
      · obtain ⟨b', o', e', hc⟩ := h1 j y hj
        rw [e] at e'; cases e'
        have := block_lt_of_cell hc
        have : b < wx.heap.size := this
        rw [e2]
        intro e3
        have := Option.some.inj e3
        omega
  exact ⟨h.le.grown hg h.le.size (fun k hk => own_block_geB h.own k hk), by rw [List.length_append]; exact hown, .snoc (h.row.map fun _ _ hx => by
    obtain ⟨B, cp, e, h1, h2⟩ := hx
    exact ⟨B, cp, e, key B _ h1 h2⟩) ⟨A, cap, rfl, key A _ hi hfr⟩⟩
def RetParse (s : List UInt8) (w : World) (e : Ending) (w' : World) : Prop :=
  Below w.heap.size w w' ∧ ((∃ n e0, parseL s = .err n e0 ∧ e = .returned (.tuple #[.slice none 0 0, .int .i64 (n : Nat), .int .i64 e0])) ∨
    ∃ l A cap, parseL s = .ok l ∧ CmsAt w' A l ∧ e = .returned (.tuple #[.slice A l.length cap, .int .i64 0, .int .i64 0]))
theorem read1_err {s : List UInt8} {e : Int} (h : read1 s = .err e) : e = 4 ∨ e = 3 := by
  cases hc : cutL s with
  | none => unfold read1 at h; rw [hc] at h; cases h; exact .inl rfl
  | some p =>
    obtain ⟨first, rest⟩ := p
    cases hh : headL first with
    | none => rw [read1_a hc hh] at h; cases h; exact .inr rfl
    | some p2 =>
      obtain ⟨c, k⟩ := p2
      cases ht : takeL k rest with
      | none => rw [read1_b hc hh ht] at h; cases h; exact .inl rfl
      | some p3 =>
        obtain ⟨t, q⟩ := p3
        rw [read1_c hc hh ht] at h
        split at h
        · cases h
        · cases h; exact .inr rfl
def strLen : Value → Nat
  | .string b => b.size
  | _ => 0
/-- In the loop. -/
structure PL (s q : List UInt8) (acc : List Cm) (line : Nat) : Prop where
  eq : parseL s = prs (q.length + 1) q acc line
  le : q.length ≤ s.length
  n : acc.length ≤ 1000
  ln : line + q.length ≤ s.length + 1
theorem PL.nil (s : List UInt8) : PL s s [] 1 := ⟨rfl, Nat.le_refl _, by simp, by omega⟩
theorem PL.done {s : List UInt8} {acc : List Cm} {line : Nat} (h : PL s [] acc line) : parseL s = .ok acc := by rw [h.eq, prs, if_pos rfl]
theorem PL.full {s q : List UInt8} {acc : List Cm} {line : Nat} (h : PL s q acc line) (hq : q ≠ []) (hn : acc.length = 1000) : parseL s = .err line 5 := by rw [h.eq, prs, if_neg hq, if_pos hn]
theorem PL.bad {s q : List UInt8} {acc : List Cm} {line : Nat} {e : Int} (h : PL s q acc line) (hq : q ≠ []) (hn : acc.length ≠ 1000) (hr : read1 q = .err e) : parseL s = .err line e := by rw [h.eq, prs, if_neg hq, if_neg hn, hr]
theorem PL.next {s q rest : List UInt8} {acc : List Cm} {line : Nat} {c : Cm} (h : PL s q acc line) (hq : q ≠ []) (hn : acc.length ≠ 1000) (hr : read1 q = .ok c rest) : PL s rest (acc ++ [c]) (line + lnC c) ∧ q = fmtC c ++ rest ∧ (fmtC c).count 10 = lnC c ∧ rest.length < q.length := by
  obtain ⟨h1, h2, h3⟩ := read1_ok hr
  have hp := fmtC_pos h1
  have hcnt := fmt_count h1
  have hcl := List.count_le_length (a := (10 : UInt8)) (l := fmtC c)
  have hl := congrArg List.length h3
  rw [List.length_append] at hl
  refine ⟨⟨?_, by have := h.le; omega, by have := h.n; simp; omega, by have := h.ln; omega⟩, h3.symm, hcnt, by omega⟩
  rw [h.eq, prs, if_neg hq, if_neg hn, hr]
  dsimp only
  exact prs_fuel _ _ _ _ _ (by omega) (by omega)
theorem cms_of_row {w wr : World} {vL : Value} {acc : List Cm} {cs : List Value} (h : PR w vL acc cs wr) : ∃ A c, vL = .slice A acc.length c ∧ CmsAt wr A acc :=
  cms_of_own h.own (h.row.map fun _ _ ⟨A, cap, e, h1, _⟩ => ⟨A, cap, e, h1⟩)

set_option maxRecDepth 100000 in
set_option maxHeartbeats 1000000 in
theorem parse_any (s : List UInt8) (w : World) (hW : Wld w) (hl : s.length ≤ 4294967280) :
    Calls Tryd.prog 18 #[.string (bs s)] w (RetParse s w) := by
  have HWl := Lib.hid hW
  obtain ⟨i0, hi0, hz0, hz1, hz2⟩ := info_parts info_cmd
  have HI := Lib.hid (And.intro hi0 (And.intro hz0 (And.intro hz1 hz2)))
  clear hi0 hz0 hz1 hz2 hW
  go_enter Tryd.func18, Tryd.ntmps18
  go_wp2_with fail
  go_loopw [0, 5, 6] (fun x v i wr => ∃ (q : List UInt8) (acc : List Cm) (cs : List Value) (line : Nat), x = .string (bs q) ∧ i = .int .i64 line ∧ Hid (PL s q acc line) ∧ Hid (PR w v acc cs wr)) (fun x _ _ _ => strLen x)
  case atStart => exact ⟨s, [], [], 1, rfl, rfl, .nil s, ⟨Below.refl _ _, World.ownsRow_nil _ _ _ _, .nil⟩⟩
  case round =>
    obtain ⟨q, acc, cs, line, rfl, rfl, hP, hR⟩ := hrel
    have hnn := hP.out.n
    have hll := hP.out.ln
    have hql := hP.out.le
    obtain ⟨Av, cv, rfl, hC⟩ := cms_of_row hR.out
    have ze := empty_bs q
    by_cases hq : q = []
    · subst hq
      have HN := Lib.hid hP.out.done
      have HCM := Lib.hid hC
      have ze : (bs []).toList.isEmpty = true := ze
      clear hC
      go_wp2_with fail
      exact bodyPost_ret (v := .tuple #[.slice Av acc.length cv, .int .i64 0, .int .i64 0]) (by simp [results, Tryd.results18]) rfl ⟨hR.out.le, .inr ⟨acc, Av, cv, HN.out, HCM.out, rfl⟩⟩
    · have HQ := Lib.hid hq
      have zf : (bs q).toList.isEmpty = false := by rw [ze]; simpa using hq
      clear hC hq ze
      by_cases hn : acc.length = 1000
      · have HN := Lib.hid (hP.out.full HQ.out hn)
        go_wp2_with fail
        exact bodyPost_ret (v := .tuple #[.slice none 0 0, .int .i64 line, .int .i64 5]) (by simp [results, Tryd.results18]) rfl ⟨hR.out.le, .inl ⟨line, 5, HN.out, rfl⟩⟩
      · have hn' : ¬ ((acc.length : Int) = 1000) := by omega
        have HWr := Lib.hid (HWl.out.below hR.out.le)
        have HRD := Lib.hid (read_any q wr HWr.out (by omega))
        go_wp2_with fail
        refine HRD.out.mono ?_
        rintro e W2 ⟨hb2, h2⟩
        have hR2 := Lib.hid (hR.out.below hb2)
        have hsz2 := hb2.size
        have hgl : ∀ g, (Value.slice Av acc.length cv).ownBlock = some g → g < wr.heap.size := fun g hg => (hR.out.own.lt g hg).2
        clear hb2 HRD
        rcases h2 with ⟨e0, hr, rfl⟩ | ⟨c, rest, A, cap, hr, hi, hfr, rfl⟩
        · have HN := Lib.hid (hP.out.bad HQ.out hn hr)
          have he0 := read1_err hr
          have he1 : ¬ e0 = 0 := by omega
          clear hr hgl he0
          unfold cmd0
          go_wp2_with fail
          exact bodyPost_ret (v := .tuple #[.slice none 0 0, .int .i64 line, .int .i64 e0]) (by simp [results, Tryd.results18]) rfl ⟨below_step hR2.out.le hR2.out.le.size (below_box _ _), .inl ⟨line, e0, HN.out, rfl⟩⟩
        · obtain ⟨hP2, hqe, hcnt, hlt⟩ := hP.out.next HQ.out hn hr
          have HP2 := Lib.hid hP2
          have HFR := Lib.hid (fun (b o j : Nat) (y : Int) (e : A = some ⟨b, o, none⟩) (_ : c.nums[j]? = some y) => show (Value.slice Av acc.length cv).ownBlock ≠ some b from fun h => by
            have := hgl b h
            have := hfr b o e
            omega)
          have b2 := below_box W2 (Obj.cells #[.int .u8 c.kind, .string (bs c.name), .string (bs c.text), .slice A c.nums.length cap] 42)
          have cb := bx_new W2 #[.int .u8 c.kind, .string (bs c.name), .string (bs c.text), .slice A c.nums.length cap] 42
          have hR3 := Lib.hid (hR2.out.below b2)
          have hi3 := Lib.hid (hi.mono b2)
          have HCNT := Lib.hid hcnt
          have hql2 : (fmtC c).length + rest.length = q.length := by rw [hqe]; simp
          have HX := Lib.hid (show (bs q).extract 0 (fmtC c).length = bs (fmtC c) by rw [bs_ext, hqe]; congr 1; simp)
          clear b2 hi hfr hgl hP2 hqe hcnt hr hR2 hR hP
          go_upto_region 7 with fail
          generalize W2.alloc _ = V at cb hR3 hi3 ⊢
          generalize W2.heap.size = bC at *
          obtain ⟨c0, c1, c2, c3, _⟩ := cb.four
          have hlC := cb.lt
          have b4 := below_box V (Obj.cells #[.int .u8 c.kind, .string (bs c.name), .string (bs c.text), .slice A c.nums.length cap] 42)
          have HO := Lib.hid (hR3.out.below b4)
          have HI4 := Lib.hid (hi3.out.mono b4)
          have HON := Lib.hid (CmC.one (w := V) [.int .u8 c.kind, .string (bs c.name), .string (bs c.text), .slice A c.nums.length cap] c ⟨A, cap, rfl, hi3.out⟩)
          clear b4
          have hz1 := bs_size q
          have hz2 := bs_size rest
          go_wp2_with (at_builtin; go_loud (refine wpList_app _ rfl (.tmp 26) (.tmp 28) 28 rfl w.heap.size 42 i0 (.agg #[.int .u8 0, .string ⟨#[]⟩, .string ⟨#[]⟩, .slice none 0 0]) 4 64 Tryd.underlying28 HI.out.1 HI.out.2.1 HI.out.2.2.1 HI.out.2.2.2 rfl (by decide) _ acc.length cs rfl HO.out.own (some ⟨V.heap.size, 0, none⟩) 1 1 [.int .u8 c.kind, .string (bs c.name), .string (bs c.text), .slice A c.nums.length cap] rfl rfl (cells_newU V rfl _ _) HON.out (by unfold maxLen; omega) (by omega) HO.out.le.size ?_; intro v' w6 hown' hgrow hor; have NX := Lib.hid (HO.out.push HI4.out HFR.out hgrow hown' hor); obtain ⟨A6, c6, rfl, _, _⟩ := own_formB hown'; clear hown' hgrow hor))
          rw [show q.length - rest.length = (fmtC c).length by omega, HX.out]
          refine (count_any (fmtC c) 10 w6).mono ?_
          rintro e w7 ⟨rfl, rfl⟩
          rw [HCNT.out]
          have hl3 := HP2.out.ln
          generalize lnC c = lc at *
          go_wp2_with fail
          exact ⟨⟨rest, acc ++ [c], _, line + lc, rfl, by go_num, HP2, NX⟩, by show (bs rest).size < (bs q).size; rw [bs_size, bs_size]; exact hlt⟩

end Go.Proofs.YtklljdjeobifiaaDoor
