/-
  The visitor's call: the walk.
-/
import Derived.Test.YtcoeakdpcigogaaDoorAnfEx2
namespace Go.Proofs.YtcoeakdpcigogaaDoor
open Go.ChangeShapes Go.WideShapes Go.ChangeAt Go.RowKit Go.Sort Go.Maps

variable {s : Nc} {pb po : Nat} {X0 : Nat → Prop} {n n' : Nat} {env env' : ByteArray → Option Pm} {ts ts' : List Pm} {ut ut' : Value} {bs : List Bd} {ub ub' : Value} {w w' w3 : World}
theorem ar85A {lib : List Fn1} {x : Nd} (h : arT lib x = true) (h85 : x.kind = 85) : ∃ (i : Nat) (fn : Fn1), findF lib x.name 0 = i ∧ lib[i]? = some fn := by
  rw [arT_eq, if_pos h85] at h
  have h1 := (Bool.and_eq_true_iff.1 h).1
  have h2 := Bool.and_eq_true_iff.1 h1
  have h3 : 0 ≤ findF lib x.name 0 := by simpa using h2.1
  rcases findF_range x.name lib 0 with e | ⟨i, i1, i2, _⟩
  · rw [e] at h3; omega
  exact ⟨i, lib[i], by rw [i2]; omega, List.getElem?_eq_getElem i1⟩

set_option maxRecDepth 100000 in
set_option maxHeartbeats 2000000 in
theorem call_any {x : Nd} (h85 : x.kind = 85) (ih : ∀ y, SizeOf.sizeOf y < SizeOf.sizeOf x → NexC s y) {Ak : Option Addr} (ck : Nat) (h : Ns s pb po X0 n env ts ut bs ub w) (hp : Npre s x Ak env ts bs n) :
    Calls Tryd.prog 60 #[.pointer (some ⟨s.V, 0, none⟩), .agg #[.int .u8 x.kind, .int .i64 x.num, .string x.name, .slice Ak x.kids.length ck], .pointer (some ⟨pb, po, none⟩)] w (RetNx s pb po X0 n env ut bs ub (nE s.lib x env ts) (sizeT x) w) := by
  obtain ⟨hbx, hx4, hx6, hsz⟩ := two_boxN w #[.int .u8 x.kind, .int .i64 x.num, .string x.name, .slice Ak x.kids.length ck] #[.string ⟨#[]⟩, .bool false]
  have HIH := Lib.hid ih
  have HN0 := Lib.hid h
  have HX4 := Lib.hid hx4
  have HX6 := Lib.hid hx6
  have HB := Lib.hid hbx
  have HSZ := Lib.hid hsz
  have HL0 := Lib.hid h.olds
  have HP := Lib.hid hp
  have HR := Lib.hid (nE_85 (lib := s.lib) h85 env ts)
  have H85 := Lib.hid h85
  clear h hp hbx hx4 hx6 hsz ih
  rw [h85] at HX4 HX6 HB HSZ ⊢
  clear h85
  go_enter Tryd.func60, Tryd.ntmps60
  go_upto_region 1 with fail
  generalize (w.alloc _).alloc _ = W1 at HX4 HX6 HB HSZ ⊢
  obtain ⟨a0, a1, a2, a3, _⟩ := HX4.out.four
  have hlt4 := HX4.out.lt
  have hb2 := below_box W1 (Obj.cells #[.string ⟨#[]⟩, .bool false, .int .u8 85, .int .i64 0, .string x.name, .slice none 0 0, .slice none 0 0, .slice none 0 0] 67)
  have HX9 := Lib.hid (bx_new W1 #[.string ⟨#[]⟩, .bool false, .int .u8 85, .int .i64 0, .string x.name, .slice none 0 0, .slice none 0 0, .slice none 0 0] 67)
  rw [HSZ.out] at HX9
  have HX42 := Lib.hid (HX4.out.below hb2)
  have HX62 := Lib.hid (HX6.out.below hb2)
  have HB2 := Lib.hid (below_step HB.out HB.out.size hb2)
  have HSZ2 := Lib.hid (show (W1.alloc (Obj.cells #[.string ⟨#[]⟩, .bool false, .int .u8 85, .int .i64 0, .string x.name, .slice none 0 0, .slice none 0 0, .slice none 0 0] 67)).heap.size = w.heap.size + 3 by simp [HSZ.out])
  clear hb2 HB
  have hs1 := HSZ.out
  go_upto_region 2 with fail
  generalize W1.alloc _ = W at HX9 HX42 HX62 HB2 HSZ2 ⊢
  have HN := Lib.hid (HN0.out.open HB2.out)
  have HX1 := Lib.hid (show ∀ k, (X0 k ∨ (w.heap.size ≤ k ∧ k < W.heap.size)) → k < W.heap.size from fun k e => e.elim (fun e => by have := HN0.out.x0 k e; have := HB2.out.size; omega) (fun e => e.2))
  have HQ := Lib.hid (show s.O < w.heap.size + 2 ∧ s.V < w.heap.size + 2 ∧ s.M < w.heap.size + 2 ∧ pb < w.heap.size + 2 ∧ (∀ g, ut.ownBlock = some g → g < w.heap.size + 2) ∧ (∀ g, ub.ownBlock = some g → g < w.heap.size + 2) ∧ s.W0.heap.size ≤ w.heap.size + 2 from by
    have q := HL0.out
    exact ⟨by omega, by omega, by omega, by omega, fun g e => by have := q.2.2.2.2.1 g e; omega, fun g e => by have := q.2.2.2.2.2.1 g e; omega, by omega⟩)
  have H0 := Lib.hid (show OpR s pb po (fun k => X0 k ∨ (w.heap.size ≤ k ∧ k < W.heap.size)) n env ts ut bs ub true x.kids (w.heap.size + 2) W 0 n ut ub (.slice none 0 0) W from by
    refine ⟨?_, ?_, Fr.refl _ _, Nwb.refl _ _, Nwb.refl _ _, by omega⟩
    · rw [List.take_zero, nArgs, List.append_nil]
      exact HN.out.swap (m := fun _ => False) (Fr.refl _ _) (fun _ _ e => e.elim) (fun _ _ e => e.elim) (fun k hk e => e.elim id (fun e => by cases e)) (fun k e => e.elim (HX1.out k) (fun e => by cases e))
    · rw [List.take_zero, nArgs]
      exact ⟨rfl, .inl ⟨rfl, rfl⟩⟩)
  obtain ⟨b0, b1, b2, b3, _⟩ := HX42.out.four
  have hlt42 := HX42.out.lt
  clear a0 a1 a2 a3 hlt4 hs1
  go_upto_region 3 with fail
  clear b0 b1 b2 b3
  go_loopw [17] (fun i wr => ∃ (k n1 : Nat) (ut1 ub1 : Value) (Aa : Option Addr) (ca : Nat), k ≤ x.kids.length ∧ i = .int .i64 k ∧ Hid (OpR s pb po (fun k => X0 k ∨ (w.heap.size ≤ k ∧ k < W.heap.size)) n env ts ut bs ub true x.kids (w.heap.size + 2) W k n1 ut1 ub1 (.slice Aa k ca) wr) ∧ Hid (Bx wr (w.heap.size + 2) #[.string ⟨#[]⟩, .bool false, .int .u8 85, .int .i64 0, .string x.name, .slice Aa k ca, .slice none 0 0, .slice none 0 0])) (fun i _ => x.kids.length - (intOf i).toNat)
  case atStart => exact ⟨0, n, ut, ub, none, 0, by omega, rfl, H0, HX9⟩
  case round =>
    obtain ⟨k, n1, ut1, ub1, Aa, ca, hk, rfl, hr, hx9⟩ := hrel
    by_cases hin : k < x.kids.length
    · obtain ⟨kb, ko, Ay, cy, rfl, e0, e1, e2, e3, e4, _⟩ := kid_cells HP.out.kids hr.out.ns.bw (k := k) (y := x.kids[k]) (List.getElem?_eq_getElem hin)
      have hky := fit_kidA (k := k) (y := x.kids[k]) (List.getElem?_eq_getElem hin) HP.out.fit HP.out.form HP.out.ar
      have hsz := size_take hin
      have hnsy : nsT x.kids[k] (fun q => (env q).isSome) = true := nsL_kid (by have := HP.out.ns; rw [nsT_eq, if_neg (by have := H85.out; omega)] at this; exact this) (List.getElem?_eq_getElem hin)
      have hlty : SizeOf.sizeOf x.kids[k] < SizeOf.sizeOf x := by
        have h1 := List.sizeOf_lt_of_mem (List.getElem_mem hin)
        cases x with
        | mk k1 n1 s1 l1 =>
          have h2 : SizeOf.sizeOf (Nd.mk k1 n1 s1 l1).kids = SizeOf.sizeOf l1 := rfl
          simp at h1 ⊢
          omega
      have hIY := HIH.out x.kids[k] hlty
      have hyk := List.getElem?_eq_getElem hin
      have hxz := sizeT_eq x
      have hext := nArgs_ext s.lib true (x.kids.take k) env ts
      have r1 : (0 : Int) ≤ k := by omega
      have r2 : (k : Int) < x.kids.length := by omega
      have hltk := block_lt_of_cell e0
      have HCY := Lib.hid (fun (W' : World) (hb : Below wr.heap.size wr W') => hIY pb po (XA (fun k => X0 k ∨ (w.heap.size ≤ k ∧ k < W.heap.size)) (.slice Aa k ca)) n1 env (nArgs s.lib true (x.kids.take k) env ts).ts ut1 (bs ++ (nArgs s.lib true (x.kids.take k) env ts).bs) ub1 W' Ay cy (hr.out.ns.below hb) ⟨HP.out.hW, HP.out.lib, HP.out.lfit, e4, hky.1, hky.2.1, hky.2.2, hnsy, by obtain ⟨ex, e, h2⟩ := hext.pre; rw [e, List.length_append]; have := HP.out.tl; omega, by have := hext.bs; have := HP.out.bl; rw [List.length_append]; omega, by have := hr.out.nn; have := HP.out.nl; omega⟩)
      have HYK := Lib.hid hyk
      have HOW := Lib.hid hr.out.own
      have HWS := Lib.hid hr.out.fr.size
      have HOF := Lib.hid (fun (w5 : World) (hf : Fr wr w5 (Ng s pb ut1 ub1)) => hr.out.own5 (by have q := HL0.out; have := HSZ2.out; exact ⟨by omega, by omega, by omega⟩) hf)
      have HUA := Lib.hid (show (Value.slice Aa k ca).ownBlock ≠ some (w.heap.size + 2) from fun e => by have := (own_ty hr.out.own _ e).1; have := HSZ2.out; omega)
      have HNO := Lib.hid (fun (q : Nat) (e : Ng s pb ut1 ub1 q) (h1 : q < W.heap.size) => ng_old HL0.out (ng_sub hr.out.nu hr.out.nb h1 e))
      have hgx := hx9.out.lt
      obtain ⟨i0, hi0, hz0, hz1, hz2⟩ := info_parts info_str
      have hkk : k ≤ 90000 := by
        have h1 := nArgs_len s.lib false env (x.kids.take k) ts
        have h2 : k ≤ sizeTL (x.kids.take k) := by
          have h3 : ∀ l : List Nd, l.length ≤ sizeTL l := fun l => by
            induction l with
            | nil => exact Nat.zero_le _
            | cons z r ihz => rw [sizeTL, List.length_cons]; have := sizeT_eq z; omega
          have h4 := h3 (x.kids.take k)
          rw [List.length_take] at h4
          omega
        have := HP.out.nl
        omega
      have HKY := Lib.hid e4
      have HFY := Lib.hid hky.2.1
      have HLY := Lib.hid (show (nE s.lib x.kids[k] env (nArgs s.lib true (x.kids.take k) env ts).ts).ts.length < 100000 ∧ ((bs ++ (nArgs s.lib true (x.kids.take k) env ts).bs) ++ (nE s.lib x.kids[k] env (nArgs s.lib true (x.kids.take k) env ts).ts).bs).length < 100000 from by
        have h1 := nE_ext s.lib x.kids[k] env (nArgs s.lib true (x.kids.take k) env ts).ts
        obtain ⟨ex, e, h2⟩ := h1.pre
        obtain ⟨ex2, e2, h3⟩ := hext.pre
        have h4 := h1.bs
        have h5 := hext.bs
        have h6 := HP.out.tl
        have h7 := HP.out.bl
        exact ⟨by rw [e, List.length_append, e2, List.length_append]; omega, by rw [List.length_append, List.length_append]; omega⟩)
      have HOLR := Lib.hid hr.out.ns.olds
      have HXR := Lib.hid hr.out.ns.x0
      clear hnsy hlty hIY hyk hky hext hsz hxz e4
      obtain ⟨ry, hry⟩ : ∃ ry, nE s.lib x.kids[k] env (nArgs s.lib true (x.kids.take k) env ts).ts = ry := ⟨_, rfl⟩
      rw [hry] at HCY HLY
      have HRY := Lib.hid hry
      clear hry
      generalize x.kids[k] = y at *
      have hb11 := below_box wr (Obj.cells #[.int .u8 y.kind, .int .i64 y.num, .string y.name, .slice Ay y.kids.length cy] 53)
      have HX11 := Lib.hid (bx_new wr #[.int .u8 y.kind, .int .i64 y.num, .string y.name, .slice Ay y.kids.length cy] 53)
      have HX91 := Lib.hid (hx9.out.below hb11)
      have HB11 := Lib.hid hb11
      clear hb11
      go_upto_region 5 with fail
      generalize wr.alloc _ = wr1 at HX11 HX91 HB11 ⊢
      clear e0 e1 e2 e3 hltk
      obtain ⟨a0, a1, a2, a3, _⟩ := HX11.out.four
      have hlt11 := HX11.out.lt
      go_wp2_with fail
      refine (HCY.out wr1 HB11.out).mono ?_
      rintro e w5 ⟨rfl, n2, u2, b2, hn2, hs5, hf5, hnu5, hnb5⟩
      have hb10 := below_box w5 (Obj.cells #[.string ry.p.name, .bool ry.p.list] 65)
      have HS6 := Lib.hid (hs5.open hb10)
      have HF6 := Lib.hid (((Fr.of_below HB11.out (Ng s pb ut1 ub1)).trans hf5 (fun _ _ e => e)).trans (Fr.of_below hb10 (Ng s pb ut1 ub1)) (fun _ _ e => e))
      have HNU := Lib.hid (And.intro (hnu5.mono HB11.out.size) (And.intro (hnb5.mono HB11.out.size) hn2))
      have HX116 := Lib.hid ((HX11.out.fr hf5 (fun e => by have := ng_old HOLR.out e; omega)).below hb10)
      have HX96 := Lib.hid ((HX91.out.fr hf5 (fun e => by have := HNO.out _ e (by have := HSZ2.out; omega); omega)).below hb10)
      have HX106 := Lib.hid (bx_new w5 #[.string ry.p.name, .bool ry.p.list] 65)
      have HO5 := Lib.hid hs5.olds
      have HW5 := Lib.hid (show wr.heap.size ≤ w5.heap.size ∧ (w5.alloc (Obj.cells #[.string ry.p.name, .bool ry.p.list] 65)).heap.size = w5.heap.size + 1 from ⟨Nat.le_trans HB11.out.size hf5.size, by simp⟩)
      clear hs5 hf5 hnu5 hnb5 hn2 hb10 a0 a1 a2 a3 hlt11
      go_upto_region 6 with fail
      generalize w5.alloc _ = W6 at HS6 HF6 HX116 HX96 HX106 HW5 ⊢
      obtain ⟨a0, a1, a2, a3, _⟩ := HX116.out.four
      have hlt11 := HX116.out.lt
      go_wp2_with fail
      refine (names_any y Ay cy W6 HFY.out (HKY.out.mono HS6.out.bw)).mono ?_
      rintro e w7 ⟨rfl, hb7⟩
      have HS7 := Lib.hid (HS6.out.below hb7)
      have HF7 := Lib.hid (HF6.out.trans (Fr.of_below hb7 (Ng s pb ut1 ub1)) (fun _ _ e => e))
      have HX97 := Lib.hid (HX96.out.below hb7)
      have HX107 := Lib.hid (HX106.out.below hb7)
      have HW7 := Lib.hid (show W6.heap.size ≤ w7.heap.size from hb7.size)
      clear hb7 a0 a1 a2 a3 hlt11 HX116 HX96 HX106 HS6 HF6
      by_cases hnm : namesT y = true
      · rw [hnm]
        obtain ⟨x0, x1, _⟩ := HX107.out.two
        have hlt10 := HX107.out.lt
        have hb8 := below_box w7 (Obj.cells #[.string ry.p.name] 9)
        have HB8 := Lib.hid hb8
        have HS8 := Lib.hid (HS7.out.below hb8)
        have HO7 := Lib.hid HS7.out.olds
        have HZ7 := Lib.hid HS7.out.x0
        have HBI := Lib.hid (bind_any HP.out.hW HS8.out HLY.out.1 HLY.out.2 ⟨#[]⟩ false 81 0 ⟨#[]⟩ (some ⟨w7.heap.size, 0, none⟩) 1 [ry.p.name] (strsX_lit w7 _ ry.p.name 9 (fun e => by
          have q := HO7.out
          rcases e with e | e | e | e | e | e
          · have := HZ7.out _ e; omega
          · omega
          · omega
          · omega
          · have := q.2.2.2.2.1 _ e; omega
          · have := q.2.2.2.2.2.1 _ e; omega)) ry.p.list)
        clear hb8
        go_upto_region 7 with fail
        go_wp2_with fail
        refine HBI.out.mono ?_
        rintro e w9 ⟨rfl, u3, b3, hs9, hf9, hnu9, hnb9⟩
        have HX109 := Lib.hid ((HX107.out.below HB8.out).fr hf9 (fun e => by have := ng_old HO5.out (.inr e); omega))
        have HSA := Lib.hid (hs9.swap (X0 := XA (fun k => X0 k ∨ (w.heap.size ≤ k ∧ k < W.heap.size)) (.slice Aa k ca)) (Fr.set2 w9 w5.heap.size (.string (tmpN ry.ts.length)) (.bool ry.p.list)) (fun q _ e => .inr ⟨by omega, by have := HW5.out; omega⟩) (fun q _ e => by
          have z := HO5.out
          have z7 := HW5.out
          have z8 := HW7.out
          have z9 := HB8.out.size
          have e' : q = w5.heap.size := e
          subst e'
          refine ⟨by omega, by omega, by omega, by omega, fun e => ?_, fun e => ?_, by omega⟩
          · rcases hnu9 _ e with e | e
            · have := z.2.2.2.2.1 _ e; omega
            · omega
          · rcases hnb9 _ e with e | e
            · have := z.2.2.2.2.2.1 _ e; omega
            · omega) (fun q _ e => .inl e) (fun q e => by have := HXR.out q e; have := HW5.out; have := HW7.out; have := HB8.out.size; have := hf9.size; simp; omega))
        have HFA := Lib.hid (((HF7.out.trans (Fr.of_below HB8.out (Ng s pb ut1 ub1)) (fun _ _ e => e)).trans hf9 (fun q hq e => ng_sub HNU.out.1 HNU.out.2.1 hq (.inr e))).trans (Fr.set2 w9 w5.heap.size (.string (tmpN ry.ts.length)) (.bool ry.p.list)) (fun q hq e => by have := HW5.out; omega))
        have HNA := Lib.hid (show Nwb wr ut1 u3 ∧ Nwb wr ub1 b3 ∧ n2 ≤ n1 + sizeT y from ⟨HNU.out.1.trans hnu9 (by have := HW5.out; have := HW7.out; have := HB8.out.size; omega), HNU.out.2.1.trans hnb9 (by have := HW5.out; have := HW7.out; have := HB8.out.size; omega), HNU.out.2.2⟩)
        have HX9A := Lib.hid (((HX97.out.below HB8.out).fr hf9 (fun e => by have := ng_old HO5.out (.inr e); have := HX97.out.lt; have z := HNO.out (w.heap.size + 2) (ng_sub HNU.out.1 HNU.out.2.1 hgx (.inr e)) (by have := HSZ2.out; omega); omega)).fr (Fr.set2 w9 w5.heap.size (.string (tmpN ry.ts.length)) (.bool ry.p.list)) (fun e => by have := HW5.out; omega))
        have HX10A := Lib.hid (HX109.out.set2 (.string (tmpN ry.ts.length)) (.bool ry.p.list))
        have HRA := Lib.hid (show Nr.arg true y (nE s.lib y env (nArgs s.lib true (x.kids.take k) env ts).ts) = .put ry.bs ry.p.list ry.ts 81 0 eS [ry.p.name] from by rw [HRY.out]; unfold Nr.arg; rw [if_pos ⟨rfl, hnm⟩])
        have HSB := HSA
        clear HSA
        have HSA := Lib.hid (show Ns s pb po (XA (fun k => X0 k ∨ (w.heap.size ≤ k ∧ k < W.heap.size)) (.slice Aa k ca)) n2 env (Nr.put ry.bs ry.p.list ry.ts 81 0 eS [ry.p.name]).ts u3 (bs ++ (nArgs s.lib true (x.kids.take k) env ts).bs ++ (Nr.put ry.bs ry.p.list ry.ts 81 0 eS [ry.p.name]).bs) b3 ((w9.setCell ⟨w5.heap.size, 0, none⟩ (.string (tmpN ry.ts.length))).setCell ⟨w5.heap.size, 1, none⟩ (.bool ry.p.list)) from by
          have h := HSB.out
          rw [List.append_assoc] at h
          exact h)
        obtain ⟨x0, x1, fx0, fx1⟩ := HX109.out.two
        have hlt10 := HX109.out.lt
        clear HS7 HF7 HX97 HX107 HNU hnm hs9 hf9 hnu9 hnb9 HSB HS8 HB8 HBI HO7 HZ7
        go_upto_region 8 with fail
        generalize World.setCell _ _ _ = w10 at HSA HFA HX9A HX10A ⊢
        clear x0 x1 fx0 fx1 hlt10 HX109
        obtain ⟨⟨y0, y1, y2, y3, y4, y5, y6, y7⟩, f0, f1, f2, f3, f4, f5, f6, f7⟩ := HX9A.out.eight
        obtain ⟨x0, x1, _⟩ := HX10A.out.two
        have hlt9 := HX9A.out.lt
        have hlt10 := HX10A.out.lt
        have HOW5 := Lib.hid (HOF.out w10 HFA.out)
        have HWS5 := Lib.hid (show W.heap.size ≤ (w10).heap.size from Nat.le_trans HWS.out HFA.out.size)
        go_wp2_with (at_builtin; go_loud (refine wpList_app _ rfl _ _ 58 rfl W.heap.size 9 i0 (.string ⟨#[]⟩) 1 16 Tryd.underlying58 hi0 hz0 hz1 hz2 rfl (by decide) _ _ _ rfl (HOW5.out.alloc _) (some ⟨(w10).heap.size, 0, none⟩) 1 1 [.string (tmpN ry.ts.length)] rfl rfl (cells_litC w10 _ _) (fun u hu => by simp at hu; rw [hu]; rfl) (by unfold maxLen; omega) (by omega) (by simp; have := HWS5.out; omega) ?_; intro v' w16 hown' hgrow hat; obtain ⟨A2, d2, rfl, hd2, hqq⟩ := own_formB hown'; clear hqq; have HX916 := Lib.hid ((HX9A.out.below (below_box w10 _)).fr (Fr.of_grown hgrow) (fun e => HUA.out e.symm)); have HOW6 := Lib.hid hown'; have HGR6 := Lib.hid hgrow; have HAT6 := Lib.hid hat; clear hown' hgrow hat; obtain ⟨⟨y0, y1, y2, y3, y4, y5, y6, y7⟩, f0, f1, f2, f3, f4, f5, f6, f7⟩ := HX916.out.eight))
        have HPS := Lib.hid (OpR.push hr.out HQ.out (by have := HSZ2.out; omega) (.inr ⟨by omega, by have := HSZ2.out; omega⟩) HX1.out HYK.out (r := (Nr.put ry.bs ry.p.list ry.ts 81 0 eS [ry.p.name])) HRA.out HSA.out HFA.out HNA.out.1 HNA.out.2.1 HNA.out.2.2 HOW6.out HGR6.out HAT6.out 5 (.slice A2 (k + 1) d2))
        have HBX := Lib.hid (HX916.out.set 5 (.slice A2 (k + 1) d2))
        refine ⟨?_, ?_⟩
        rotate_left
        · simp [intOf]; omega
        iterate 29 (apply Exists.intro)
        refine And.intro ?_ rfl
        exact ⟨k + 1, n2, _, _, A2, d2, by omega, by go_num, HPS, HBX⟩
      · have hnm' : namesT y = false := by simpa using hnm
        rw [hnm']
        have HRA := Lib.hid (show Nr.arg true y (nE s.lib y env (nArgs s.lib true (x.kids.take k) env ts).ts) = ry from by rw [HRY.out]; unfold Nr.arg; rw [if_neg (by simp [hnm'])])
        have HSA := Lib.hid (HS7.out.swap (X0 := XA (fun k => X0 k ∨ (w.heap.size ≤ k ∧ k < W.heap.size)) (.slice Aa k ca)) (m := fun _ => False) (Fr.refl _ _) (fun _ _ e => e.elim) (fun _ _ e => e.elim) (fun k hk e => .inl e) (fun q e => by have := HXR.out q e; have := HW5.out; have := HW7.out; omega))
        have HFA := Lib.hid HF7.out
        have HNA := Lib.hid HNU.out
        have HX9A := Lib.hid HX97.out
        have HX10A := Lib.hid HX107.out
        clear HS7 HF7 HX97 HX107 HNU hnm hnm'
        go_upto_region 8 with fail
        obtain ⟨⟨y0, y1, y2, y3, y4, y5, y6, y7⟩, f0, f1, f2, f3, f4, f5, f6, f7⟩ := HX9A.out.eight
        obtain ⟨x0, x1, _⟩ := HX10A.out.two
        have hlt9 := HX9A.out.lt
        have hlt10 := HX10A.out.lt
        have HOW5 := Lib.hid (HOF.out w7 HFA.out)
        have HWS5 := Lib.hid (show W.heap.size ≤ (w7).heap.size from Nat.le_trans HWS.out HFA.out.size)
        go_wp2_with (at_builtin; go_loud (refine wpList_app _ rfl _ _ 58 rfl W.heap.size 9 i0 (.string ⟨#[]⟩) 1 16 Tryd.underlying58 hi0 hz0 hz1 hz2 rfl (by decide) _ _ _ rfl (HOW5.out.alloc _) (some ⟨(w7).heap.size, 0, none⟩) 1 1 [.string ry.p.name] rfl rfl (cells_litC w7 _ _) (fun u hu => by simp at hu; rw [hu]; rfl) (by unfold maxLen; omega) (by omega) (by simp; have := HWS5.out; omega) ?_; intro v' w16 hown' hgrow hat; obtain ⟨A2, d2, rfl, hd2, hqq⟩ := own_formB hown'; clear hqq; have HX916 := Lib.hid ((HX9A.out.below (below_box w7 _)).fr (Fr.of_grown hgrow) (fun e => HUA.out e.symm)); have HOW6 := Lib.hid hown'; have HGR6 := Lib.hid hgrow; have HAT6 := Lib.hid hat; clear hown' hgrow hat; obtain ⟨⟨y0, y1, y2, y3, y4, y5, y6, y7⟩, f0, f1, f2, f3, f4, f5, f6, f7⟩ := HX916.out.eight))
        have HPS := Lib.hid (OpR.push hr.out HQ.out (by have := HSZ2.out; omega) (.inr ⟨by omega, by have := HSZ2.out; omega⟩) HX1.out HYK.out (r := ry) HRA.out HSA.out HFA.out HNA.out.1 HNA.out.2.1 HNA.out.2.2 HOW6.out HGR6.out HAT6.out 5 (.slice A2 (k + 1) d2))
        have HBX := Lib.hid (HX916.out.set 5 (.slice A2 (k + 1) d2))
        refine ⟨?_, ?_⟩
        rotate_left
        · simp [intOf]; omega
        iterate 29 (apply Exists.intro)
        refine And.intro ?_ rfl
        exact ⟨k + 1, n2, _, _, A2, d2, by omega, by go_num, HPS, HBX⟩
    · obtain rfl : k = x.kids.length := by omega
      have hal := nArgs_len s.lib true env x.kids ts
      have hext := nArgs_ext s.lib true x.kids env ts
      have hxz := sizeT_eq x
      have hns := hr.out.ns
      have how := hr.out.own
      have hnn := hr.out.nn
      rw [List.take_length] at hns how hnn
      have HX4r := Lib.hid (HX42.out.fr hr.out.fr (fun e => e.elim (fun e => by have := ng_old HL0.out e; omega) (fun e => by omega)))
      have HX6r := Lib.hid (HX62.out.fr hr.out.fr (fun e => e.elim (fun e => by have := ng_old HL0.out e; omega) (fun e => by omega)))
      have hns2 : Ns s pb po (fun k => X0 k ∨ (w.heap.size ≤ k ∧ k < W.heap.size)) n1 env (nArgs s.lib true x.kids env ts).ts ut1 (bs ++ (nArgs s.lib true x.kids env ts).bs) ub1 wr := hns.swap (m := fun _ => False) (Fr.refl _ _) (fun _ _ e => e.elim) (fun _ _ e => e.elim) (fun k hk e => .inl e) (fun k e => by have := HX1.out k e; have := hr.out.fr.size; omega)
      obtain ⟨pr, hpr⟩ : ∃ pr, nArgs s.lib true x.kids env ts = pr := ⟨_, rfl⟩
      rw [hpr] at hal hext hns how hns2 HR
      have hss : StrsX wr (Xs (fun k => X0 k ∨ (w.heap.size ≤ k ∧ k < W.heap.size)) s.O s.M pb ut1 ub1) Aa pr.args := by
        have hq := HL0.out
        have hz := HSZ2.out
        rw [← hal] at how
        obtain ⟨A3, c3, e, h3⟩ := strsX_of_own (X := Xs (fun k => X0 k ∨ (w.heap.size ≤ k ∧ k < W.heap.size)) s.O s.M pb ut1 ub1) how (fun g e e2 => by
          have h1 := (own_ty how g e).1
          rcases e2 with e2 | e2 | e2 | e2 | e2 | e2
          · have := HX1.out g e2; omega
          · omega
          · omega
          · omega
          · obtain ⟨u5, ht1, _⟩ := hns.t
            exact own_new how ht1.own (by decide) g e e2
          · obtain ⟨cs1, ho1, _⟩ := hns.own
            exact own_new how ho1 (by decide) g e e2)
        cases e
        exact h3
      obtain ⟨fi, fn, hfi, hfn⟩ := ar85A HP.out.ar H85.out
      have hfl := (List.getElem?_eq_some_iff.1 hfn).1
      rw [hfi, Int.toNat_natCast, hfn] at HR
      have HBI := Lib.hid (fun (w' : World) (hb : Below wr.heap.size wr w') => bind_any HP.out.hW (hns2.below hb) (by obtain ⟨ex, e, h2⟩ := hext.pre; rw [e, List.length_append]; have := HP.out.tl; omega) (by have := hext.bs; have := HP.out.bl; rw [List.length_append]; omega) ⟨#[]⟩ false 85 0 x.name Aa ca pr.args (hss.le (Le.belowA hb fun _ _ e => e)) fn.list)
      rw [hal] at HBI
      have HFD := Lib.hid (find_any s.lib s.A s.cap x.name wr.drew ((HP.out.lib.mono hns2.bw).mono (belowDrawnP (Below.refl _ wr))) HP.out.lfit.1)
      rw [hfi] at HFD
      obtain ⟨lb, lo, hA, hfo⟩ := (HP.out.lib.mono hns2.bw).at_ hfl
      rw [(List.getElem?_eq_some_iff.1 hfn).2] at hfo
      have HFO := Lib.hid hfo
      have HV := Lib.hid (show ∀ w', Below wr.heap.size wr w' → Bx w' s.V (visB s.A s.cap s.lib s.O s.M) from fun w' hb => hns2.v.below hb)
      have HFW := Lib.hid (show Fr w wr (Ng s pb ut ub) from (Fr.of_below HB2.out (Ng s pb ut ub)).trans hr.out.fr (fun q hq e => e.elim id (fun e => by omega)))
      have HNN := Lib.hid (And.intro hr.out.nu (And.intro hr.out.nb (show n1 ≤ n + sizeT x by omega)))
      have HWR := Lib.hid (show W.heap.size ≤ wr.heap.size from hr.out.fr.size)
      have HX9r := Lib.hid hx9.out
      have HNV := Lib.hid hns2.v.lt
      clear hr hx9 hal hext hxz hns how hnn hns2 hss hpr hin hfi hfn
      rw [hA] at HV HFD
      obtain ⟨a0, a1, a2, a3, _⟩ := HX4r.out.four
      obtain ⟨⟨y0, y1, y2, y3, y4, y5, y6, y7⟩, _⟩ := HX9r.out.eight
      obtain ⟨v0, v1, v2, v3, _⟩ := Bx.four (HV.out wr (Below.refl _ _))
      have hlt4 := HX4r.out.lt
      have hlt9 := HX9r.out.lt
      have hltv := HNV.out
      have r1 : (0 : Int) ≤ fi := by omega
      have r2 : (fi : Int) < s.lib.length := by omega
      go_upto_region 10 with fail
      go_region_law (first
        | (go_simp; go_at_call 38; refine HFD.out.mono ?_; rintro e w11 ⟨rfl, hb11⟩; have HB11 := Lib.hid (below_step (belowDrawnP (Below.refl _ wr)) (Nat.le_refl _) hb11); clear hb11; have HX911 := Lib.hid (HX9r.out.below HB11.out); have HX411 := Lib.hid (HX4r.out.below HB11.out); obtain ⟨a0, a1, a2, a3, _⟩ := HX411.out.four; obtain ⟨⟨y0, y1, y2, y3, y4, y5, y6, y7⟩, _⟩ := HX911.out.eight; obtain ⟨v0, v1, v2, v3, _⟩ := Bx.four (HV.out w11 HB11.out); have q2 := (HFO.out.mono HB11.out).c2; have hltq := block_lt_of_cell q2; have hlt4 := HX411.out.lt; have hlt9 := HX911.out.lt; dsimp only)
        | (go_simp; go_at_call 61; refine (HBI.out w11 HB11.out).mono ?_; rintro e w12 ⟨rfl, u3, b3, hs12, hf12, hnu12, hnb12⟩; have HX612 := Lib.hid ((HX6r.out.below HB11.out).fr hf12 (fun e => by have := ng_old HL0.out (ng_sub HNN.out.1 HNN.out.2.1 (by have := HSZ2.out; omega) (.inr e)); omega)); have HD := Lib.hid (nx_fin4 (X0 := X0) HL0.out (by have := HSZ2.out; omega) (fun k e => .inl e) (.inr ⟨by omega, by have := HSZ2.out; omega⟩) hs12 ((HFW.out.trans (Fr.of_below HB11.out (Ng s pb ut ub)) (fun _ _ e => e)).trans hf12 (fun k hk e => ng_sub HNN.out.1 HNN.out.2.1 (by have := HSZ2.out; omega) (.inr e))) (HNN.out.1.trans (hnu12.mono HB11.out.size) HWR.out) (HNN.out.2.1.trans (hnb12.mono HB11.out.size) HWR.out) HX612.out); clear hs12 hf12 hnu12 hnb12; obtain ⟨x0, x1, f0, f1⟩ := HX612.out.two; have hlt6 := HX612.out.lt; dsimp only)
        | fail)
      all_goals
        generalize World.setCell _ _ _ = WF at HD ⊢
        obtain ⟨g0, g1, _⟩ := HD.out.2.two
        clear HX4r HX6r HX9r HFW HV HFO HBI HFD
        go_wp2_with fail
        exact bodyPost_ret (v := .agg #[.string (tmpN pr.ts.length), .bool fn.list]) (by simp [results, Tryd.results60, go_sem, g0, g1]) rfl (by rw [HR.out]; exact ⟨rfl, n1, _, _, HNN.out.2.2, by show Ns s pb po X0 n1 env (pr.ts ++ [_]) _ (bs ++ (pr.bs ++ [_])) _ WF; rw [← List.append_assoc]; exact HD.out.1.1, HD.out.1.2⟩)

end Go.Proofs.YtcoeakdpcigogaaDoor
