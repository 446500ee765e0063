/-
  The walk of the law FunevalOrder.
-/
import Derived.Test.YtgokgcnalgpiiaaFevL0
import Derived.Test.YtgokgcnalgpiiaaFevFuel
import Derived.Test.YtgokgcnalgpiiaaFunRot
import Derived.Test.YtgokgcnalgpiiaaFunRow
namespace Go.Proofs.Ytgokgcnalgpiiaa
open Go.ChangeShapes Go.WideShapes Go.ChangeAt Go.RowKit Go.Sort Go.Maps

/-! ### A library in reverse (plain) -/
theorem rev_get {lib : List Fn1} {j : Nat} (hj : j < lib.length) : lib.reverse[j]? = lib[lib.length - 1 - j]? := List.getElem?_reverse hj
theorem rev_dist {lib : List Fn1} (hd : Dist lib) : Dist lib.reverse := fun i j f g hi hj e => by
  have li : i < lib.length := by have := (List.getElem?_eq_some_iff.1 hi).1; simpa using this
  have lj : j < lib.length := by have := (List.getElem?_eq_some_iff.1 hj).1; simpa using this
  rw [rev_get li] at hi
  rw [rev_get lj] at hj
  have := hd _ _ _ _ hi hj e
  omega
theorem find_rev {lib : List Fn1} (hd : Dist lib) (s : ByteArray) : (findF lib s 0 = -1 ∧ findF lib.reverse s 0 = -1) ∨ ∃ (j : Nat) (f : Fn1), j < lib.length ∧ lib[j]? = some f ∧ lib.reverse[lib.length - 1 - j]? = some f ∧ findF lib s 0 = j ∧ findF lib.reverse s 0 = ((lib.length - 1 - j : Nat) : Int) := by
  rcases findF_range s lib 0 with e | ⟨j, h1, h2, h3, h4⟩
  · refine .inl ⟨e, find_none (fun i f hi en => ?_)⟩
    have hil : i < lib.length := by have := (List.getElem?_eq_some_iff.1 hi).1; simpa using this
    rw [rev_get hil] at hi
    have := (findF_le (k := 0) hi en).1
    omega
  · have hg : lib[j]? = some lib[j] := List.getElem?_eq_getElem h3
    have hr : lib.reverse[lib.length - 1 - j]? = some lib[j] := by
      rw [rev_get (by omega), show lib.length - 1 - (lib.length - 1 - j) = j by omega]; exact hg
    refine .inr ⟨j, lib[j], h3, hg, hr, by rw [h2]; simp, ?_⟩
    rw [← h4]; exact find_uniq (rev_dist hd) hr
theorem sig_rev {lib : List Fn1} (hd : Dist lib) (s : ByteArray) : sigF lib.reverse s = sigF lib s := by
  unfold sigF
  rcases find_rev hd s with ⟨e1, e2⟩ | ⟨j, f, h1, h2, h3, h4, h5⟩
  · rw [e1, e2]; rfl
  · rw [h4, h5, if_neg (by omega), if_neg (by omega), Int.toNat_natCast, Int.toNat_natCast, h2, h3]
theorem rev_valid {lib : List Fn1} (h : (validR lib).2 = 0) : validR lib.reverse = (-1, 0) := by
  have hd := valid_dist h
  refine valid_of (fun i f hi => ?_)
  have li : i < lib.length := by have := (List.getElem?_eq_some_iff.1 hi).1; simpa using this
  have hi2 := hi
  rw [rev_get li] at hi2
  obtain ⟨_, h2, _, h4, h5, h6, h7, h8⟩ := one_facts (valid_facts h hi2)
  have h30 : i < 30 := (one_facts (valid_facts h (List.getElem?_eq_getElem li))).1
  refine one_of h30 h2 (by rw [find_uniq (rev_dist hd) hi]; omega) h4 h5 h6 h7 ?_
  rw [chk_sig (lib := lib.reverse) (lib' := lib) f.body _ (fun s _ => sig_rev hd s)]
  exact h8
theorem ren_rev {lib : List Fn1} (h : (validR lib).2 = 0) : Ren (fun i => (lib.length : Int) - 1 - i) lib lib.reverse := by
  refine ⟨fun s hs => ?_, fun i f hi => ?_⟩
  · rcases find_rev (valid_dist h) s with ⟨e1, _⟩ | ⟨j, f, h1, h2, h3, h4, h5⟩
    · rw [e1] at hs; omega
    · rw [h4, h5, Int.toNat_natCast, Int.toNat_natCast, h2, h3]
      exact ⟨by omega, rfl⟩
  · exact chk_ar lib f.body (envF f.params) (by rw [(one_facts (valid_facts h hi)).2.2.2.2.2.2.2])
theorem out_cv {o o' : OutT} {φ : Int → Int} (h : o'.out = o.out.ren φ) : o'.code = o.code ∧ o'.val = o.val := by
  cases o with
  | err e =>
    cases o' with
    | err e' => cases h; exact ⟨rfl, rfl⟩
    | ok t f => cases h
  | ok t f =>
    cases o' with
    | err e' => cases h
    | ok t' f' =>
      simp only [OutT.out, Out.ren] at h
      exact ⟨rfl, (Out.ok.inj h).1⟩
theorem startR_rev {lib : List Fn1} (h : (validR lib).2 = 0) (name : ByteArray) (args : List Vl) (F : Int) : (startR lib.reverse name args F).code = (startR lib name args F).code ∧ (startR lib.reverse name args F).val = (startR lib name args F).val := by
  unfold startR
  rw [rev_valid h, h]
  rcases find_rev (valid_dist h) name with ⟨e1, e2⟩ | ⟨j, f, h1, h2, h3, h4, h5⟩
  · rw [e1, e2]; exact ⟨rfl, rfl⟩
  have R := ren_rev h
  have hout := enter_ren R (E := ev apR lib F.toNat) (E' := ev apR lib.reverse F.toNat) (fun a env x f hx => ev_ren apR R F.toNat a env x f hx) 0 (j : Int) ((lib.length - 1 - j : Nat) : Int) ⟨by omega, by rw [Int.toNat_natCast, Int.toNat_natCast, h2, h3]⟩ args F.toNat
  have n1 : ¬ ((-1 : Int), (0 : Int)).2 ≠ 0 := by simp
  have n2 : ¬ (0 : Int) ≠ 0 := by simp
  have n3 : ¬ ((j : Nat) : Int) < 0 := by omega
  have n4 : ¬ ((lib.length - 1 - j : Nat) : Int) < 0 := by omega
  rw [if_neg n1, if_neg n2, h4, h5, if_neg n3, if_neg n4, Int.toNat_natCast, Int.toNat_natCast, h2, h3]
  dsimp only
  by_cases g1 : args.length ≠ f.params.length
  · rw [if_pos g1, if_pos g1]; exact ⟨rfl, rfl⟩
  rw [if_neg g1, if_neg g1]
  by_cases g2 : tyB args f.params = false
  · rw [if_pos g2, if_pos g2]; exact ⟨rfl, rfl⟩
  rw [if_neg g2, if_neg g2]
  by_cases g3 : longB args = true
  · rw [if_pos g3, if_pos g3]; exact ⟨rfl, rfl⟩
  rw [if_neg g3, if_neg g3]
  exact out_cv hout
theorem rev_in {lib : List Fn1} {i : Nat} {f : Fn1} (h : lib.reverse[i]? = some f) : ∃ j : Nat, lib[j]? = some f := List.getElem?_of_mem (List.mem_reverse.1 (List.mem_of_getElem? h))
theorem rev_fit {lib : List Fn1} (h : LibFit lib) : LibFit lib.reverse := ⟨by rw [List.length_reverse]; exact h.1, fun i f hf => by obtain ⟨j, hj⟩ := rev_in hf; exact h.2 j f hj⟩
theorem rev_small {lib : List Fn1} {args : List Vl} (h : SmallV lib args) : SmallV lib.reverse args :=
  ⟨by rw [List.length_reverse]; exact h.l, h.a, fun _ g hk => by obtain ⟨j, hj⟩ := rev_in hk; exact h.f j g hj, h.v⟩
/-- One more of the reverse. -/
theorem rev_step {lib : List Fn1} {k : Nat} (hk : k < lib.length) : lib.reverse.take (lib.length - k) = lib.reverse.take (lib.length - 1 - k) ++ [lib[k]] := by
  rw [show lib.length - k = (lib.length - 1 - k) + 1 by omega, List.take_succ_eq_append_getElem (by simp; omega)]
  congr 2
  rw [List.getElem_reverse]
  congr 1
  omega

theorem cells_newL (w : World) (cs : List Value) (T : TypeId) : CellsAt (w.alloc (Obj.cells cs.toArray T)) (some ⟨w.heap.size, 0, none⟩) cs := fun j u hu => ⟨w.heap.size, 0, rfl, by
  rw [Nat.zero_add]
  exact (show Bx (w.alloc (Obj.cells cs.toArray T)) w.heap.size cs.toArray from bx_new w _ T).cell (by simpa using hu)⟩
/-- The row of functions that a loop has made so far: what they hold lies in the world ahead of the loop. -/
structure RowA (W : World) (w : World) (v : Value) (l : List Fn1) : Prop where
  hb : Below W.heap.size W w
  own : ∃ cs, w.ownsRow W.heap.size 58 7 v l.length cs ∧ RowL W cs l
theorem RowA.push {W wr w' : World} {v v' : Value} {l : List Fn1} {cs c7 : List Value} {f : Fn1} {o : Obj} (hb : Below W.heap.size W wr) (hown : wr.ownsRow W.heap.size 58 7 v l.length cs) (hr : RowL W cs l) (h7 : FnC W c7 f) (hg : (wr.alloc o).grownBy w' v.ownBlock) (hown' : w'.ownsRow W.heap.size 58 7 v' (l.length + 1) (cs ++ c7)) : RowA W w' v' (l ++ [f]) :=
  ⟨(below_step hb hb.size (below_box wr o)).grown hg (Nat.le_trans hb.size (by simp)) (fun k hk => own_block_geB hown k hk), cs ++ c7, by rw [List.length_append]; exact hown', .snoc hr h7⟩

set_option maxRecDepth 100000 in
set_option maxHeartbeats 2000000 in
theorem funevalOrder_walk (lib : List Fn1) (A : Option Addr) (cap : Nat) (name : ByteArray) (args : List Vl) (Aa : Option Addr) (ca : Nat) (w : World) (hL : LibAt w A lib) (hF : LibFit lib) (hP : FewParams lib) (hN : FewNodes lib) (hV : VlsX w (fun _ => False) Aa args) (hvl : ∀ v ∈ args, v.l.length ≤ 9223372036854775807) (hal : args.length ≤ 9223372036854775807) :
    Calls Try.prog 7 #[.slice A lib.length cap, .string name, .slice Aa args.length ca] w fun e w' => e = .returned (.bool true) ∧ Below w.heap.size w w' := by
  have HL := Lib.hid hL
  have HV := Lib.hid hV
  have HVL := Lib.hid hvl
  have hll := hF.1
  clear hL hV hvl
  go_enter Try.func7, Try.ntmps7
  go_wp2_with fail
  refine (awake_any w).mono ?_
  rintro e w1 ⟨rfl, hb1⟩
  have q1 := Lib.hid hb1
  clear hb1
  go_wp2_with fail
  refine (valid_any lib A cap w1 (HL.out.mono q1.out) hF hP hN).mono ?_
  rintro e w2 ⟨rfl, hb2⟩
  have q2 := Lib.hid (below_step q1.out q1.out.size hb2)
  clear hb2 q1
  have HVD := Lib.hid (show (validR lib).2 = 0 → ∀ F, (startR lib.reverse name args F).code = (startR lib name args F).code ∧ (startR lib.reverse name args F).val = (startR lib name args F).val from fun h F => startR_rev h name args F)
  generalize (validR lib).2 = v2 at *
  generalize (validR lib).1 = v1 at *
  go_wp2_with fail
  refine (Great_any lib A cap args Aa ca w2 (HL.out.mono q2.out) hF (HV.out.mono q2.out) HVL.out hal).mono ?_
  rintro e w3 ⟨g, rfl, hg, hb3⟩
  have q3 := Lib.hid (below_step q2.out q2.out.size hb3)
  have HG := Lib.hid hg
  clear hb3 hg q2
  cases g with
  | true => go_wp2_with fail; go_ret; exact ⟨rfl, q3.out⟩
  | false =>
    have HS := Lib.hid (HG.out rfl)
    clear HG
    by_cases hv2 : v2 = 0
    rotate_left
    · have hn2 : (v2 != 0) = true := by simpa using hv2
      go_wp2_with fail
      go_ret
      exact ⟨rfl, q3.out⟩
    have HSH := Lib.hid (HVD.out hv2)
    subst hv2
    clear HVD
    have hl6 := HS.out.l
    have HL3 := Lib.hid (HL.out.mono q3.out)
    obtain ⟨i0, hi0, hz0, hz1, hz2⟩ := info_parts info_func
    have HI := Lib.hid (And.intro hi0 (And.intro hz0 (And.intro hz1 hz2)))
    clear hi0 hz0 hz1 hz2
    go_wp2_with fail
    go_loopw [9, 10] (fun v i wr => ∃ k : Nat, k ≤ lib.length ∧ i = .int .i64 ((k : Int) - 1) ∧ Hid (RowA w3 wr v (lib.reverse.take (lib.length - k)))) (fun _ i _ => (intOf i + 1).toNat)
    case atStart => exact ⟨lib.length, by omega, by go_num, Lib.hid ⟨Below.refl _ _, [], by simpa using World.ownsRow_nil _ _ _ _, by simpa using RowL.nil⟩⟩
    case round =>
      obtain ⟨k1, hk1, rfl, hR⟩ := hrel
      by_cases hk0 : k1 = 0
      · subst hk0
        rw [show (((0 : Nat) : Int) - 1) = -1 by omega]
        obtain ⟨hb, cs, hown, hrow⟩ := hR.out
        rw [Nat.sub_zero, show lib.reverse.take lib.length = lib.reverse from List.take_of_length_le (by simp)] at hown hrow
        obtain ⟨Av, cv, rfl, hlr⟩ := lib_of_own hown (hrow.mono hb)
        rw [List.length_reverse]
        have q4 := Lib.hid (below_step q3.out q3.out.size hb)
        have HLR := Lib.hid hlr
        clear hown hrow hlr hR
        obtain ⟨sh, hsh⟩ : ∃ sh : Int → OutT, sh = startR lib name args := ⟨_, rfl⟩
        obtain ⟨sr, hsr⟩ : ∃ sh : Int → OutT, sh = startR lib.reverse name args := ⟨_, rfl⟩
        have HE := Lib.hid (show (sr 2000).code = (sh 2000).code ∧ (sr 2000).val = (sh 2000).val by rw [hsh, hsr]; exact HSH.out 2000)
        have HC := Lib.hid (call_v lib A cap name args Aa ca sh hsh 2000 wr (HL.out.mono q4.out) hF HS.out (HV.out.mono q4.out) (by omega))
        have HC2 := Lib.hid (fun (V : World) (hV : Below wr.heap.size wr V) => call_v lib.reverse Av cv name args Aa ca sr hsr 2000 V (HLR.out.mono hV) (rev_fit hF) (rev_small HS.out) (HV.out.mono (below_step q4.out q4.out.size hV)) (by omega))
        rw [List.length_reverse] at HC2
        clear HSH hsh hsr hb
        go_wp2_with fail
        refine HC.out.mono ?_
        rintro e w5 ⟨hb5, hl5, _, A5, c5, hi5, rfl⟩
        have q5 := Lib.hid (below_step q4.out q4.out.size hb5)
        have I5 := Lib.hid hi5.at_
        have bb6 := below_box w5 (Obj.cells #[.bool (sh 2000).val.list, .int .i64 (sh 2000).val.n, .slice A5 (sh 2000).val.l.length c5] 29)
        have vb6 := bx_new w5 #[.bool (sh 2000).val.list, .int .i64 (sh 2000).val.n, .slice A5 (sh 2000).val.l.length c5] 29
        have hb6 := Lib.hid (below_step hb5 hb5.size bb6)
        have q6 := Lib.hid (below_step q5.out q5.out.size bb6)
        have I6 := Lib.hid (I5.out.mono bb6)
        clear bb6 I5 q5 hb5 hi5 HC
        go_wp2_with fail
        generalize World.alloc _ _ = W6 at vb6 q6 I6 hb6 ⊢
        refine (HC2.out W6 hb6.out).mono ?_
        rintro e w7 ⟨hb7, hl7, _, A7, c7, hi7, rfl⟩
        have q7 := Lib.hid (below_step q6.out q6.out.size hb7)
        have I7 := Lib.hid hi7.at_
        have I67 := Lib.hid (I6.out.mono hb7)
        have vb7 := vb6.below hb7
        obtain ⟨he1, he2⟩ := HE.out
        generalize (sr 2000).code = cr at *
        generalize (sr 2000).val = vr at *
        subst he1 he2
        have bb8 := below_box w7 (Obj.cells #[.bool (sh 2000).val.list, .int .i64 (sh 2000).val.n, .slice A7 (sh 2000).val.l.length c7] 29)
        have vb8 := bx_new w7 #[.bool (sh 2000).val.list, .int .i64 (sh 2000).val.n, .slice A7 (sh 2000).val.l.length c7] 29
        have q8 := Lib.hid (below_step q7.out q7.out.size bb8)
        have I8 := Lib.hid (I7.out.mono bb8)
        have I68 := Lib.hid (I67.out.mono bb8)
        have va8 := vb7.below bb8
        clear bb8 I7 q7 I67 vb7 hb7 hi7 HE HC2
        obtain ⟨y0, y1, y2, _⟩ := va8.three
        obtain ⟨z0, z1, z2, _⟩ := vb8.three
        have hlt := va8.lt
        have hee : ((sh 2000).code == (sh 2000).code) = true := by simp
        go_wp2_with fail
        generalize World.alloc _ _ = W8 at *
        refine (equal_any (sh 2000).val (sh 2000).val A5 A7 c5 c7 W8 I68.out I8.out (by omega) (by omega)).mono ?_
        rintro e w9 ⟨rfl, hb9⟩
        have q9 := Lib.hid (below_step q8.out q8.out.size hb9)
        rw [eqV_refl]
        clear hb9
        go_wp2_with fail
        go_ret
        exact ⟨rfl, q9.out⟩
      · obtain ⟨k, rfl⟩ : ∃ k, k1 = k + 1 := ⟨k1 - 1, by omega⟩
        rw [show (((k + 1 : Nat) : Int) - 1) = (k : Int) by omega]
        have hin : k < lib.length := by omega
        obtain ⟨hb, cs, hown, hrow⟩ := hR.out
        rw [show lib.length - (k + 1) = lib.length - 1 - k by omega] at hown hrow
        have HST := Lib.hid (rev_step hin)
        obtain ⟨b, o, rfl, hfo⟩ := HL3.out.at_ hin
        generalize lib[k] = f at *
        obtain ⟨c7, h7, hc7⟩ := hfo.cells
        obtain ⟨A1, c1, A3, c3, rfl, hp7, hn7⟩ := id h7
        have d0 : wr.cell? ⟨b, o + k * 7, none⟩ = some (.string f.name) := below_cell hb (hc7 0 _ rfl)
        have d1 : wr.cell? ⟨b, o + k * 7 + 1, none⟩ = some (.slice A1 f.params.length c1) := below_cell hb (hc7 1 _ rfl)
        have d2 : wr.cell? ⟨b, o + k * 7 + 2, none⟩ = some (.bool f.list) := below_cell hb (hc7 2 _ rfl)
        have d3 : wr.cell? ⟨b, o + k * 7 + 3, none⟩ = some (.int .u8 f.body.kind) := below_cell hb (hc7 3 _ rfl)
        have d4 : wr.cell? ⟨b, o + k * 7 + 4, none⟩ = some (.int .i64 f.body.num) := below_cell hb (hc7 4 _ rfl)
        have d5 : wr.cell? ⟨b, o + k * 7 + 5, none⟩ = some (.string f.body.name) := below_cell hb (hc7 5 _ rfl)
        have d6 : wr.cell? ⟨b, o + k * 7 + 6, none⟩ = some (.slice A3 f.body.kids.length c3) := below_cell hb (hc7 6 _ rfl)
        have hlb := block_lt_of_cell d0
        have r1 : (0 : Int) ≤ k := by omega
        have r2 : (k : Int) < lib.length := by omega
        have HOW := Lib.hid (hown.alloc (Obj.cells #[.string f.name, .slice A1 f.params.length c1, .bool f.list, .int .u8 f.body.kind, .int .i64 f.body.num, .string f.body.name, .slice A3 f.body.kids.length c3] 58))
        have HP := Lib.hid (fun (v' : Value) (w' : World) (o : Obj) (hg : (wr.alloc o).grownBy w' _) (ho : w'.ownsRow w3.heap.size 58 7 v' _ _) => RowA.push (f := f) hb hown hrow h7 hg ho)
        have HON := Lib.hid h7.one
        have hbs := hb.size
        obtain ⟨Av, cv, rfl, hnc, _⟩ := own_formB hown
        have hln : (lib.reverse.take (lib.length - 1 - k)).length = lib.length - 1 - k := by simp; omega
        have HLN := Lib.hid hln
        clear hfo hc7 hown hrow hp7 hn7 hR h7 hb hln
        generalize (lib.reverse.take (lib.length - 1 - k)).length = nn at *
        go_wp2_with (at_builtin; go_loud (refine wpList_app _ rfl _ _ 22 rfl w3.heap.size 58 i0 (.agg #[.string ⟨#[]⟩, .slice none 0 0, .bool false, .int .u8 0, .int .i64 0, .string ⟨#[]⟩, .slice none 0 0]) 7 104 Try.underlying22 HI.out.1 HI.out.2.1 HI.out.2.2.1 HI.out.2.2.2 rfl (by decide) _ nn cs rfl HOW.out (some ⟨wr.heap.size, 0, none⟩) 1 1 [.string f.name, .slice A1 f.params.length c1, .bool f.list, .int .u8 f.body.kind, .int .i64 f.body.num, .string f.body.name, .slice A3 f.body.kids.length c3] rfl rfl (cells_newL wr _ _) HON.out (by have := HLN.out; unfold maxLen; omega) (by have := HLN.out; omega) (by simp; omega) ?_; intro v' w5 hown' hgrow _; have NX := Lib.hid (HP.out _ _ _ hgrow hown'); obtain ⟨A5, c5, rfl, _, _⟩ := own_formB hown'; clear hown' hgrow))
        exact ⟨⟨k, by omega, by go_num, by rw [HST.out]; exact NX⟩, by first | (simp [intOf]; done) | (simp [intOf]; omega)⟩

end Go.Proofs.Ytgokgcnalgpiiaa
