/-
  The reference's Parse; ScriptParses: the walk.
-/
import Derived.Test.YtklljdjeobifiaaDoorScrRHd
import Derived.Test.YtklljdjeobifiaaDoorScrGreat
namespace Go.Proofs.YtklljdjeobifiaaDoor
open Go.ChangeShapes Go.WideShapes Go.ChangeAt Go.RowKit Go.Sort Go.Maps

structure PRT (T : TypeId) (w : World) (vL : Value) (acc : List Cm) (cs : List Value) (wr : World) : Prop where
  le : Below w.heap.size w wr
  own : wr.ownsRow w.heap.size T 4 vL acc.length cs
  row : RowG (CmN wr vL) cs acc
theorem PRT.below {T : TypeId} {w : World} {vL : Value} {acc : List Cm} {cs : List Value} {wr wx : World} (h : PRT T w vL acc cs wr) (hb : Below wr.heap.size wr wx) : PRT T w vL acc cs wx :=
  ⟨below_step h.le h.le.size hb, own_below h.own hb, h.row.map fun _ _ ⟨A, cap, e, h1, h2⟩ => ⟨A, cap, e, h1.mono hb, h2⟩⟩
theorem PRT.push {T : TypeId} {w : World} {vL : Value} {acc : List Cm} {cs : List Value} {wx w6 : World} {v' : Value} {c : Cm} {A : Option Addr} {cap : Nat} (h : PRT T w vL acc cs wx) (hi : IntsAt wx A c.nums) (hfr : ∀ (b o j : Nat) (y : Int), A = some ⟨b, o, none⟩ → c.nums[j]? = some y → vL.ownBlock ≠ some b)
    (hg : wx.grownBy w6 vL.ownBlock) (hown : w6.ownsRow w.heap.size T 4 v' (acc.length + 1) (cs ++ [.int .u8 c.kind, .string (bs c.name), .string (bs c.text), .slice A c.nums.length cap])) (hor : v'.ownBlock = vL.ownBlock ∨ v'.ownBlock = some wx.heap.size) :
    PRT T w v' (acc ++ [c]) (cs ++ [.int .u8 c.kind, .string (bs c.name), .string (bs c.text), .slice A c.nums.length cap]) w6 := by
  have key : ∀ (B : Option Addr) (l : List Int), IntsAt wx B l → (∀ (b o j : Nat) (y : Int), B = some ⟨b, o, none⟩ → l[j]? = some y → vL.ownBlock ≠ some b) → IntsAt w6 B l ∧ ∀ (b o j : Nat) (y : Int), B = some ⟨b, o, none⟩ → l[j]? = some y → v'.ownBlock ≠ some b := by
    intro B l h1 h2
    refine ⟨fun j y hj => ?_, fun b o j y e hj => ?_⟩
    · obtain ⟨b, o, e, hc⟩ := h1 j y hj
      exact ⟨b, o, e, grown_cell hg hc (fun e2 => h2 b o j y e hj e2.symm)⟩
    · rcases hor with e2 | e2
      · rw [e2]; exact h2 b o j y e hj
      · obtain ⟨b', o', e', hc⟩ := h1 j y hj
        rw [e] at e'; cases e'
        have := block_lt_of_cell hc
        have : b < wx.heap.size := this
        rw [e2]
        intro e3
        have := Option.some.inj e3
        omega
  exact ⟨h.le.grown hg h.le.size (fun k hk => own_block_geB h.own k hk), by rw [List.length_append]; exact hown, .snoc (h.row.map fun _ _ hx => by
    obtain ⟨B, cp, e, h1, h2⟩ := hx
    exact ⟨B, cp, e, key B _ h1 h2⟩) ⟨A, cap, rfl, key A _ hi hfr⟩⟩
theorem cms_of_rowT {T : TypeId} {w wr : World} {vL : Value} {acc : List Cm} {cs : List Value} (h : PRT T w vL acc cs wr) : ∃ A c, vL = .slice A acc.length c ∧ CmsAt wr A acc :=
  cms_of_own h.own (h.row.map fun _ _ ⟨A, cap, e, h1, _⟩ => ⟨A, cap, e, h1⟩)


theorem takeL_zero (s : List UInt8) : takeL 0 s = some ([], s) := by rw [takeL]
theorem takeL_succ : ∀ (j : Nat) {s t r a q : List UInt8}, takeL j s = some (t, r) → cutL r = some (a, q) → takeL (j + 1) s = some (t ++ (a ++ [10]), q)
  | 0, s, t, r, a, q, h, hc => by
    rw [takeL] at h
    cases h
    rw [takeL, hc]
    rfl
  | j + 1, s, t, r, a, q, h, hc => by
    rw [takeL] at h
    cases h1 : cutL s with
    | none => rw [h1] at h; cases h
    | some p =>
      obtain ⟨a0, r0⟩ := p
      rw [h1] at h
      dsimp only at h
      cases h2 : takeL j r0 with
      | none => rw [h2] at h; cases h
      | some p2 =>
        obtain ⟨t', r'⟩ := p2
        rw [h2] at h
        cases h
        have ih := takeL_succ j h2 hc
        rw [takeL, h1]
        dsimp only
        rw [ih]
        simp
theorem takeL_stop : ∀ (j m : Nat) {s t r : List UInt8}, takeL j s = some (t, r) → cutL r = none → takeL (j + (m + 1)) s = none
  | 0, m, s, t, r, h, hc => by
    rw [takeL] at h
    cases h
    rw [Nat.zero_add, takeL, hc]
  | j + 1, m, s, t, r, h, hc => by
    rw [takeL] at h
    cases h1 : cutL s with
    | none => rw [h1] at h; cases h
    | some p =>
      obtain ⟨a0, r0⟩ := p
      rw [h1] at h
      dsimp only at h
      cases h2 : takeL j r0 with
      | none => rw [h2] at h; cases h
      | some p2 =>
        obtain ⟨t', r'⟩ := p2
        rw [h2] at h
        cases h
        have ih := takeL_stop j m h2 hc
        rw [show j + 1 + (m + 1) = (j + (m + 1)) + 1 by omega, takeL, h1]
        dsimp only
        rw [ih]
theorem headL_kind {line : List UInt8} {c : Cm} {k : Nat} (h : headL line = some (c, k)) : c.kind < 256 := by
  obtain ⟨s, hm, hk, _⟩ := headL_some h
  rw [hk]; exact (shp_all s hm).2.2.2.2.2
/-- In the loop over the lines of the text. -/
structure InR (Wb : World) (bC : Nat) (c : Cm) (tx : List UInt8) (A : Option Addr) (cap : Nat) (wr : World) : Prop where
  le : Below Wb.heap.size Wb wr
  box : Bx wr bC #[.int .u8 c.kind, .string (bs c.name), .string (bs tx), .slice A c.nums.length cap]

set_option maxRecDepth 100000 in
set_option maxHeartbeats 4000000 in
theorem rparse_any (s : List UInt8) (w : World) (hl : s.length ≤ 4294967280) :
    Calls Tryd.prog 19 #[.string (bs s)] w (RetParse s w) := by
  obtain ⟨i0, hi0, hz0, hz1, hz2⟩ := info_parts info_rcmd
  have HI := Lib.hid (And.intro hi0 (And.intro hz0 (And.intro hz1 hz2)))
  clear hi0 hz0 hz1 hz2
  go_enter Tryd.func19, Tryd.ntmps19
  go_wp2_with fail
  go_loopw [0, 5, 6] (fun x v i wr => ∃ (q : List UInt8) (acc : List Cm) (cs : List Value) (line : Nat), x = .string (bs q) ∧ i = .int .i64 line ∧ Hid (PL s q acc line) ∧ Hid (PRT 45 w v acc cs wr)) (fun x _ _ _ => strLen x)
  case atStart => exact ⟨s, [], [], 1, rfl, rfl, .nil s, ⟨Below.refl _ _, World.ownsRow_nil _ _ _ _, .nil⟩⟩
  case round =>
    obtain ⟨q, acc, cs, line, rfl, rfl, hP, hR⟩ := hrel
    have hnn := hP.out.n
    have hll := hP.out.ln
    have hql := hP.out.le
    obtain ⟨Av, cv, rfl, hC⟩ := cms_of_rowT hR.out
    have ze := empty_bs q
    by_cases hq : q = []
    · subst hq
      have HN := Lib.hid hP.out.done
      have HCM := Lib.hid hC
      have ze : (bs []).toList.isEmpty = true := ze
      clear hC
      go_wp2_with fail
      exact bodyPost_ret (v := .tuple #[.slice Av acc.length cv, .int .i64 0, .int .i64 0]) (by simp [results, Tryd.results19]) rfl ⟨hR.out.le, .inr ⟨acc, Av, cv, HN.out, HCM.out, rfl⟩⟩
    · have HQ := Lib.hid hq
      have zf : (bs q).toList.isEmpty = false := by rw [ze]; simpa using hq
      clear hC hq ze
      by_cases hn : acc.length = 1000
      · have HN := Lib.hid (hP.out.full HQ.out hn)
        have hn' : 1000 ≤ acc.length := by omega
        clear hn
        go_wp2_with fail
        exact bodyPost_ret (v := .tuple #[.slice none 0 0, .int .i64 line, .int .i64 5]) (by simp [results, Tryd.results19]) rfl ⟨hR.out.le, .inl ⟨line, 5, HN.out, rfl⟩⟩
      · have HNL := Lib.hid hn
        have hn' : ¬ (1000 ≤ acc.length) := by omega
        have HCT := Lib.hid (rcut_any q wr (by omega))
        unfold RetCut at HCT
        clear hn
        go_wp2_with fail
        refine HCT.out.mono ?_
        rintro e Wa ⟨hcut, hba⟩
        have hRa := Lib.hid (hR.out.below hba)
        have hsza := hba.size
        have hgl : ∀ g, (Value.slice Av acc.length cv).ownBlock = some g → g < wr.heap.size := fun g hg => (hR.out.own.lt g hg).2
        clear hba HCT
        rcases hcut with ⟨hc, rfl⟩ | ⟨first, rest, hc, rfl⟩
        · have HN := Lib.hid (hP.out.bad HQ.out HNL.out (show read1 q = .err 4 by unfold read1; rw [hc]))
          clear hc hgl
          go_wp2_with fail
          exact bodyPost_ret (v := .tuple #[.slice none 0 0, .int .i64 line, .int .i64 4]) (by simp [results, Tryd.results19]) rfl ⟨hRa.out.le, .inl ⟨line, 4, HN.out, rfl⟩⟩
        · have hcl := congrArg List.length (cutL_some hc).1
          simp at hcl
          have HCU := Lib.hid hc
          have HHD := Lib.hid (rhead_any first Wa (by omega))
          unfold RetRHead at HHD
          clear hc hR
          go_wp2_with fail
          refine HHD.out.mono ?_
          rintro e Wb ⟨hbb, hh⟩
          have hRb := Lib.hid (hRa.out.below hbb)
          have hszb := hbb.size
          clear hbb HHD hRa
          rcases hh with ⟨hh, kk, nn, AA, n1, c1, rfl⟩ | ⟨c, k, A, cap, hh, hk9, hi, hfr, rfl⟩
          · have HN := Lib.hid (hP.out.bad HQ.out HNL.out (read1_a HCU.out hh))
            clear hh hgl
            go_wp2_with fail
            exact bodyPost_ret (v := .tuple #[.slice none 0 0, .int .i64 line, .int .i64 3]) (by simp [results, Tryd.results19]) rfl ⟨below_step hRb.out.le hRb.out.le.size (below_box _ _), .inl ⟨line, 3, HN.out, rfl⟩⟩
          · have HH := Lib.hid hh
            have HIN := Lib.hid hi
            have HKD := Lib.hid (headL_kind hh)
            have HSM := Lib.hid (headL_sm hh)
            have HFR := Lib.hid (fun (b o j : Nat) (y : Int) (e : A = some ⟨b, o, none⟩) (_ : c.nums[j]? = some y) => show (Value.slice Av acc.length cv).ownBlock ≠ some b from fun h => by
              have := hgl b h
              have := hfr b o e
              omega)
            have bb := below_box Wb (Obj.cells #[.int .u8 c.kind, .string (bs c.name), .string ⟨#[]⟩, .slice A c.nums.length cap] 45)
            have cb := bx_new Wb #[.int .u8 c.kind, .string (bs c.name), .string ⟨#[]⟩, .slice A c.nums.length cap] 45
            have HI0 := Lib.hid (show InR Wb Wb.heap.size c [] A cap _ from ⟨bb, cb⟩)
            clear bb cb hh hi hfr hgl
            go_upto_region 11 with fail
            generalize Wb.alloc _ = V at HI0 ⊢
            obtain ⟨bC, hbC⟩ : ∃ b, b = Wb.heap.size := ⟨_, rfl⟩
            rw [← hbC] at HI0 ⊢
            have HBC := Lib.hid hbC
            clear hbC
            obtain ⟨wo, rfl⟩ : ∃ x, x = wr := ⟨_, rfl⟩
            go_wp2_with fail
            go_loopw [9, 14] (fun x i wr2 => ∃ (j : Nat) (tx rr : List UInt8), j ≤ k ∧ x = .string (bs rr) ∧ i = .int .i64 j ∧ Hid (takeL j rest = some (tx, rr)) ∧ Hid (InR Wb bC c tx A cap wr2)) (fun _ i _ => k - (intOf i).toNat)
            case atStart => exact ⟨0, [], rest, by omega, rfl, rfl, takeL_zero rest, HI0⟩
            case round =>
              obtain ⟨j, tx, rr, hj, rfl, rfl, HTK, HIR⟩ := hrel
              have htl := congrArg List.length (takeL_some HTK.out).1
              rw [List.length_append] at htl
              by_cases hjk : j < k
              · have HCT := Lib.hid (rcut_any rr wr (by omega))
                unfold RetCut at HCT
                go_wp2_with fail
                refine HCT.out.mono ?_
                rintro e Wc ⟨hcut, hbc⟩
                have HIRc := Lib.hid (show InR Wb bC c tx A cap Wc from ⟨below_step HIR.out.le HIR.out.le.size hbc, HIR.out.box.below hbc⟩)
                clear hbc HCT
                rcases hcut with ⟨hc, rfl⟩ | ⟨a, r2, hc, rfl⟩
                · have HN := Lib.hid (hP.out.bad HQ.out HNL.out (read1_b HCU.out HH.out (by
                    have := takeL_stop j (k - j - 1) HTK.out hc
                    rw [show j + (k - j - 1 + 1) = k by omega] at this
                    exact this)))
                  clear hc
                  go_wp2_with fail
                  exact bodyPost_ret (v := .tuple #[.slice none 0 0, .int .i64 line, .int .i64 4]) (by simp [results, Tryd.results19]) rfl ⟨below_step hRb.out.le hRb.out.le.size HIRc.out.le, .inl ⟨line, 4, HN.out, rfl⟩⟩
                · have HTS := Lib.hid (takeL_succ j HTK.out hc)
                  have hcl2 := congrArg List.length (cutL_some hc).1
                  simp at hcl2
                  have HXY := Lib.hid (show bs tx ++ bs a ++ ({ data := #[10] } : ByteArray) = bs (tx ++ (a ++ [10])) by
                    rw [show ({ data := #[10] } : ByteArray) = bs [10] from rfl, bs_app, bs_app, List.append_assoc])
                  have hz1 := bs_size tx
                  have hz2 := bs_size a
                  clear hc
                  obtain ⟨c0, c1, c2, c3, d0, d1, d2, d3⟩ := HIRc.out.box.four
                  have hlC := HIRc.out.box.lt
                  have hge := HBC.out
                  have NX := Lib.hid (show InR Wb bC c (tx ++ (a ++ [10])) A cap (Wc.setCell ⟨bC, 2, none⟩ (.string (bs (tx ++ (a ++ [10]))))) from ⟨HIRc.out.le.setCell (p := ⟨bC, 2, none⟩) (Nat.le_of_eq hge.symm) _, HIRc.out.box.set 2 _⟩)
                  clear hge
                  go_wp2_with fail
                  rw [HXY.out]
                  exact ⟨⟨j + 1, _, r2, by omega, rfl, by go_num, HTS, NX⟩, by simp [intOf]; omega⟩
              · obtain rfl : j = k := by omega
                obtain ⟨c0, c1, c2, c3, d0, d1, d2, d3⟩ := HIR.out.box.four
                have hlC := HIR.out.box.lt
                obtain ⟨hsm1, hsm2, hsm3⟩ := HSM.out
                have HON := Lib.hid (show Calls Tryd.prog 28 #[.agg #[.int .u8 c.kind, .string (bs c.name), .string (bs tx), .slice A c.nums.length cap]] wr (fun e w' => e = .returned (.bool (okC { c with text := tx })) ∧ Below wr.heap.size wr w') from rone_any { c with text := tx } HKD.out A cap wr ⟨by show c.name.length ≤ _; omega, by show tx.length ≤ _; omega, by show c.nums.length ≤ _; omega⟩)
                have HR1 := Lib.hid (read1_c HCU.out HH.out HTK.out)
                have hcnt := (takeL_some HTK.out).2.1
                clear hsm1 hsm2 hsm3
                go_wp2_with fail
                refine HON.out.mono ?_
                rintro e Wd ⟨rfl, hbd⟩
                have HIRd := Lib.hid (show InR Wb bC c tx A cap Wd from ⟨below_step HIR.out.le HIR.out.le.size hbd, HIR.out.box.below hbd⟩)
                clear hbd HON c0 c1 c2 c3 d0 d1 d2 d3 hlC
                have qD := Lib.hid (hRb.out.below HIRd.out.le)
                cases hok : okC { c with text := tx } with
                | false =>
                  have HN := Lib.hid (hP.out.bad HQ.out HNL.out (HR1.out.trans (if_neg (by rw [hok]; simp))))
                  clear hok
                  go_wp2_with fail
                  exact bodyPost_ret (v := .tuple #[.slice none 0 0, .int .i64 line, .int .i64 3]) (by simp [results, Tryd.results19]) rfl ⟨qD.out.le, .inl ⟨line, 3, HN.out, rfl⟩⟩
                | true =>
                  obtain ⟨hP2, hqe, hcn, hlt⟩ := hP.out.next HQ.out HNL.out (HR1.out.trans (if_pos hok))
                  have HP2 := Lib.hid hP2
                  have HLC := Lib.hid (show line + j + 1 = line + lnC { c with text := tx } by unfold lnC; show _ = line + (1 + tx.count 10); omega)
                  have hj9 : j ≤ 4294967281 := by have := List.count_le_length (a := (10 : UInt8)) (l := tx); omega
                  have hl9 : line ≤ 4294967290 := by omega
                  clear hok hP2 hqe hcn hcnt
                  obtain ⟨c0, c1, c2, c3, d0, d1, d2, d3⟩ := HIRd.out.box.four
                  have hlC := HIRd.out.box.lt
                  have b4 := below_box Wd (Obj.cells #[.int .u8 c.kind, .string (bs c.name), .string (bs tx), .slice A c.nums.length cap] 45)
                  have HO := Lib.hid (qD.out.below b4)
                  have HI4 := Lib.hid ((HIN.out.mono HIRd.out.le).mono b4)
                  have HONE := Lib.hid (CmC.one (w := Wd) [.int .u8 c.kind, .string (bs c.name), .string (bs tx), .slice A c.nums.length cap] { c with text := tx } ⟨A, cap, rfl, HIN.out.mono HIRd.out.le⟩)
                  have HPU := Lib.hid (fun (v' : Value) (w6 : World) hg (ho : w6.ownsRow w.heap.size 45 4 v' (acc.length + 1) (cs ++ [.int .u8 c.kind, .string (bs c.name), .string (bs tx), .slice A c.nums.length cap])) hor => show PRT 45 w v' (acc ++ [{ c with text := tx }]) _ w6 from HO.out.push (c := { c with text := tx }) (A := A) (cap := cap) HI4.out (fun b o j y e h => HFR.out b o j y e h) hg ho hor)
                  have hl3 := HP2.out.ln
                  clear b4
                  go_wp2_with (at_builtin; go_loud (refine wpList_app _ rfl (.tmp 68) (.tmp 70) 22 rfl w.heap.size 45 i0 (.agg #[.int .u8 0, .string ⟨#[]⟩, .string ⟨#[]⟩, .slice none 0 0]) 4 64 Tryd.underlying22 HI.out.1 HI.out.2.1 HI.out.2.2.1 HI.out.2.2.2 rfl (by decide) _ acc.length cs rfl HO.out.own (some ⟨Wd.heap.size, 0, none⟩) 1 1 [.int .u8 c.kind, .string (bs c.name), .string (bs tx), .slice A c.nums.length cap] rfl rfl (cells_newU Wd rfl _ _) HONE.out (by unfold maxLen; omega) (by omega) HO.out.le.size ?_; intro v' w6 hown' hgrow hor; have NX := Lib.hid (HPU.out _ _ hgrow hown' hor); clear hown' hgrow hor))
                  exact ⟨⟨rr, _, _, line + j + 1, rfl, by go_num, by rw [HLC.out]; exact HP2, NX⟩, by show (bs rr).size < (bs q).size; rw [bs_size, bs_size]; exact hlt⟩

set_option maxRecDepth 100000 in
set_option maxHeartbeats 1000000 in
theorem scriptParses_walk (s : List UInt8) (w : World) (hW : Wld w) (hs : s.length ≤ 9223372036854775807) :
    Calls Tryd.prog 4 #[.string (bs s)] w fun e w' => e = .returned (.bool true) ∧ Below w.heap.size w w' := by
  have HWl := Lib.hid hW
  have HAW := Lib.hid (awake_any w hW)
  have hz := bs_size s
  clear hW
  go_enter Tryd.func4, Tryd.ntmps4
  go_wp2_with fail
  refine HAW.out.mono ?_
  rintro e W1 ⟨rfl, hb1⟩
  have q1 := Lib.hid hb1
  have HW1 := Lib.hid (HWl.out.below hb1)
  clear hb1 HAW
  by_cases hbig : 20000 < s.length
  · go_wp2_with fail
    go_ret
    exact ⟨rfl, q1.out⟩
  have HP := Lib.hid (parse_any s W1 HW1.out (by omega))
  have HRP := Lib.hid (fun W => rparse_any s W (by omega))
  unfold RetParse at HRP
  go_wp2_with fail
  refine HP.out.mono ?_
  rintro e W2 ⟨hb2, h2⟩
  have q2 := Lib.hid (below_step q1.out q1.out.size hb2)
  clear hb2 HP
  rcases h2 with ⟨n, e0, h, rfl⟩ | ⟨l, A, cap, h, hC, rfl⟩
  · have H := Lib.hid h
    clear h
    go_wp2_with fail
    refine (HRP.out W2).mono ?_
    rintro e W3 ⟨hb3, ⟨n', e0', h, rfl⟩ | ⟨l, A, cap, h, hC, rfl⟩⟩
    rotate_left
    · rw [H.out] at h; cases h
    rw [H.out] at h
    obtain ⟨rfl, rfl⟩ : n = n' ∧ e0 = e0' := by injection h with h1 h2; exact ⟨h1, h2⟩
    have q3 := Lib.hid (below_step q2.out q2.out.size hb3)
    have HPL := Lib.hid (show Calls Tryd.prog 21 #[.slice none 0 0] W3 (RetCms [] W3) from plain_any [] none 0 W3 (fun k c hk => by simp at hk) (by simp))
    clear hb3 h
    go_wp2_with fail
    refine HPL.out.mono ?_
    rintro e W4 ⟨A4, c4, rfl, hC4, hb4⟩
    have q4 := Lib.hid (below_step q3.out q3.out.size hb4)
    have HSA := Lib.hid (show Calls Tryd.prog 20 #[.slice A4 0 c4, .slice none 0 0] W4 _ from same_any [] A4 none c4 0 W4 hC4 (fun k c hk => by simp at hk) (by simp) (fun c hc => by simp at hc))
    clear hb4 hC4 HPL
    go_wp2_with fail
    refine HSA.out.mono ?_
    rintro e W5 ⟨rfl, hb5⟩
    have q5 := Lib.hid (below_step q4.out q4.out.size hb5)
    clear hb5 HSA
    go_wp2_with fail
    go_ret
    exact ⟨rfl, q5.out⟩
  · have H := Lib.hid h
    have HC := Lib.hid hC
    have HOK := Lib.hid (parse_ok h).1
    have hl9 := okL_len (parse_ok h).1
    clear h hC
    go_wp2_with fail
    refine (HRP.out W2).mono ?_
    rintro e W3 ⟨hb3, ⟨n', e0', h, rfl⟩ | ⟨l', A', cap', h, hC, rfl⟩⟩
    · rw [H.out] at h; cases h
    rw [H.out] at h
    obtain rfl : l = l' := by injection h
    have q3 := Lib.hid (below_step q2.out q2.out.size hb3)
    have HC3 := Lib.hid hC
    have HPL := Lib.hid (plain_any l A cap W3 (HC.out.mono hb3) (by omega))
    clear hb3 h hC
    go_wp2_with fail
    refine HPL.out.mono ?_
    rintro e W4 ⟨A4, c4, rfl, hC4, hb4⟩
    have q4 := Lib.hid (below_step q3.out q3.out.size hb4)
    have HSA := Lib.hid (same_any l A4 A' c4 cap' W4 hC4 (HC3.out.mono hb4) (by omega) (okL_sm HOK.out))
    clear hb4 hC4 HPL
    go_wp2_with fail
    refine HSA.out.mono ?_
    rintro e W5 ⟨rfl, hb5⟩
    have q5 := Lib.hid (below_step q4.out q4.out.size hb5)
    clear hb5 HSA
    go_wp2_with fail
    go_ret
    exact ⟨rfl, q5.out⟩

end Go.Proofs.YtklljdjeobifiaaDoor
