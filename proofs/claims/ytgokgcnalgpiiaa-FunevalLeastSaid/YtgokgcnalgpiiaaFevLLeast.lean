/-
  The walk of the law FunevalLeast.
-/
import Derived.Test.YtgokgcnalgpiiaaFevL0
import Derived.Test.YtgokgcnalgpiiaaFevFuel
import Derived.Test.YtgokgcnalgpiiaaFevSteps
namespace Go.Proofs.Ytgokgcnalgpiiaa
open Go.ChangeShapes Go.WideShapes Go.ChangeAt Go.RowKit Go.Sort Go.Maps

theorem startR_ok {lib : List Fn1} {name : ByteArray} {args : List Vl} {G : Int} {t : Tr} {f : Nat} (h : startR lib name args G = .ok t f) (F : Int) : startR lib name args F = enter lib (ev apR lib F.toNat) 0 (findF lib name 0) args F.toNat := by
  unfold startR at h ⊢
  split at h
  · cases h
  rename_i h1; rw [if_neg h1]
  split at h
  · cases h
  rename_i h2; rw [if_neg h2]
  split at h
  · cases h
  rename_i fn hfn
  split at h
  · cases h
  rename_i h3; rw [if_neg h3]
  split at h
  · cases h
  rename_i h4; rw [if_neg h4]
  split at h
  · cases h
  rename_i h5; rw [if_neg h5]
/-- More fuel: the same outcome, tree and all, or it had run out. -/
theorem startR_tree {lib : List Fn1} {name : ByteArray} {args : List Vl} {G : Int} {t : Tr} {f : Nat} (h : startR lib name args G = .ok t f) {a b : Int} (hab : a ≤ b) : startR lib name args a = .err 18 ∨ (∀ t f, startR lib name args a = .ok t f → ∃ f', startR lib name args b = .ok t f') ∧ (∀ e, startR lib name args a = .err e → startR lib name args b = .err e) := by
  rw [startR_ok h a, startR_ok h b]
  obtain ⟨k, hk⟩ : ∃ k, b.toNat = a.toNat + k := ⟨b.toNat - a.toNat, by omega⟩
  rw [hk]
  have hs := enter_sh (lib := lib) (k := k) (n := a.toNat) (fun a1 env x f hf => ev_sh apR lib k a.toNat (a.toNat + k) a1 env x f (by omega)) 0 (findF lib name 0) args a.toNat (Nat.le_refl _)
  generalize enter lib (ev apR lib a.toNat) 0 (findF lib name 0) args a.toNat = o at *
  generalize enter lib (ev apR lib (a.toNat + k)) 0 (findF lib name 0) args (a.toNat + k) = o' at *
  cases o with
  | err e =>
    rcases hs with hs | hs
    · left; cases hs; rfl
    · right
      cases o' with
      | err e' => cases hs; exact ⟨fun _ _ e => (by cases e), fun _ e => e⟩
      | ok t f => cases hs
  | ok t f =>
    rcases hs with hs | hs
    · cases hs
    · right
      cases o' with
      | err e' => cases hs
      | ok t' f' =>
        simp only [OutT.out, Out.add] at hs
        have := (Out.ok.inj hs).2.2
        simp only [List.cons.injEq, and_true] at this
        subst this
        exact ⟨fun _ _ e => (by cases e; exact ⟨_, rfl⟩), fun _ e => (by cases e)⟩
/-- What is known of the fuel once an evaluation has ended. -/
structure Cost (o : Int → OutT) (t : Tr) : Prop where
  two : ∀ F : Int, F ≤ 2000 → (o F).code = 18 ∨ (o F).code = 0
  up : ∀ F G : Int, F ≤ G → G ≤ 2000 → (o F).code = 0 → (o G).code = 0
  zero : (o 0).code = 18
  steps : ∀ F : Int, 0 ≤ F → F ≤ 2000 → (o F).code = 0 → (stepsT t : Int) ≤ F
theorem cost_of {lib : List Fn1} {name : ByteArray} {args : List Vl} {t : Tr} {f : Nat} (h : startR lib name args 2000 = .ok t f) : Cost (startR lib name args) t := by
  have tree : ∀ F : Int, F ≤ 2000 → (startR lib name args F).code = 18 ∨ ∃ f', startR lib name args F = .ok t f' := fun F hF => by
    rcases startR_tree h hF with e | ⟨e1, e2⟩
    · left; rw [e]; rfl
    · right
      cases ho : startR lib name args F with
      | err e => have := e2 e ho; rw [h] at this; cases this
      | ok t' f' =>
        obtain ⟨f2, h2⟩ := e1 t' f' ho
        rw [h] at h2
        cases h2
        exact ⟨f', rfl⟩
  refine ⟨fun F hF => ?_, fun F G h1 h2 h3 => ?_, ?_, fun F h0 hF h1 => ?_⟩
  · rcases tree F hF with e | ⟨f', e⟩
    · exact .inl e
    · right; rw [e]; rfl
  · rcases startR_tree h h1 with e | ⟨e1, e2⟩
    · rw [e] at h3; cases h3
    · rcases tree F (by omega) with e | ⟨f', e⟩
      · rw [e] at h3; cases h3
      · obtain ⟨f2, e3⟩ := e1 _ _ e
        rw [e3]; rfl
  · have h' := h
    rw [startR_ok h 0]
    rw [startR_ok h 2000] at h'
    unfold enter at h' ⊢
    rw [if_neg (by omega)] at h' ⊢
    split at h'
    · cases h'
    · rfl
  · rcases tree F hF with e | ⟨f', e⟩
    · rw [e] at h1; cases h1
    · rw [startR_ok h F] at e
      have hc := enter_cost (lib := lib) (fun a env x f => ev_cost apR lib F.toNat a env x f) 0 (findF lib name 0) args F.toNat
      rw [e] at hc
      have hc' : f' + stepsL [t] ≤ F.toNat := hc
      simp only [stepsL] at hc'
      omega

theorem wf_u16 {n : Int} (h : (Lit.int .u16 n).wf = true) : 0 ≤ n ∧ n ≤ 65535 := by
  simp only [Lit.wf, IntKind.min, IntKind.max, IntKind.signed, IntKind.bits, Bool.and_eq_true] at h
  simp at h; omega

set_option maxRecDepth 100000 in
set_option maxHeartbeats 2000000 in
theorem funevalLeast_walk (lib : List Fn1) (A : Option Addr) (cap : Nat) (name : ByteArray) (args : List Vl) (Aa : Option Addr) (ca : Nat) (oth : Int) (w : World) (hL : LibAt w A lib) (hF : LibFit lib) (hV : VlsX w (fun _ => False) Aa args) (hvl : ∀ v ∈ args, v.l.length ≤ 9223372036854775807) (hal : args.length ≤ 9223372036854775807) (ho : 0 ≤ oth ∧ oth ≤ 65535) :
    Calls Try.prog 3 #[.slice A lib.length cap, .string name, .slice Aa args.length ca, .int .u16 oth] w fun e w' => e = .returned (.bool true) ∧ Below w.heap.size w w' := by
  have HL := Lib.hid hL
  have HV := Lib.hid hV
  have HVL := Lib.hid hvl
  clear hL hV hvl
  go_enter Try.func3, Try.ntmps3
  go_wp2_with fail
  refine (awake_any w).mono ?_
  rintro e w1 ⟨rfl, hb1⟩
  have q1 := Lib.hid hb1
  clear hb1
  go_wp2_with fail
  refine (Great_any lib A cap args Aa ca w1 (HL.out.mono q1.out) hF (HV.out.mono q1.out) HVL.out hal).mono ?_
  rintro e w2 ⟨g, rfl, hg, hb2⟩
  have q2 := Lib.hid (below_step q1.out q1.out.size hb2)
  have HG := Lib.hid hg
  clear hb2 hg q1
  cases g with
  | true => go_wp2_with fail; go_ret; exact ⟨rfl, q2.out⟩
  | false =>
    have HS := Lib.hid (HG.out rfl)
    clear HG
    go_wp2_with fail
    refine (trace_any lib A cap name args Aa ca 2000 w2 (HL.out.mono q2.out) hF HS.out.fp HS.out.fn (HV.out.mono q2.out) HS.out.vl HS.out.al (by omega)).mono ?_
    rintro e w3 ⟨hb3, h3⟩
    have q3 := Lib.hid (below_step q2.out q2.out.size hb3)
    clear hb3 q2
    rcases h3 with ⟨n, ho3, hn0, rfl⟩ | ⟨t, f1, ho3, htl, cs, htc, _, rfl⟩
    · have hne : (n == 0) = false := by simpa using hn0
      have bb := below_box w3 (Obj.cells #[.int .i64 0, .slice none 0 0, .bool false, .int .i64 0, .slice none 0 0, .slice none 0 0] 32)
      have q4 := Lib.hid (below_step q3.out q3.out.size bb)
      clear ho3 bb
      go_wp2_with fail
      go_ret
      exact ⟨rfl, q4.out⟩
    have hco := cost_of ho3
    obtain ⟨sh, hsh⟩ : ∃ sh : Int → OutT, sh = startR lib name args := ⟨_, rfl⟩
    rw [← hsh] at hco
    have HC := Lib.hid hsh
    have h2000 : (sh 2000).code = 0 := by rw [hsh, ho3]; rfl
    have H2000 := Lib.hid h2000
    clear h2000
    have HCO := Lib.hid hco
    clear hsh ho3 hco
    obtain ⟨Ab, cb, AL, cL, Ac, cc, rfl, _, _, hk⟩ := htc
    have ht : trT true t = t := rfl
    rw [ht] at hk ⊢
    clear ht
    have bb4 := below_box w3 (Obj.cells #[.int .i64 t.func, .slice Ab t.args.length cb, .bool t.res.list, .int .i64 t.res.n, .slice AL t.res.l.length cL, .slice Ac t.calls.length cc] 32)
    have vb4 := bx_new w3 #[.int .i64 t.func, .slice Ab t.args.length cb, .bool t.res.list, .int .i64 t.res.n, .slice AL t.res.l.length cL, .slice Ac t.calls.length cc] 32
    have q4 := Lib.hid (below_step q3.out q3.out.size bb4)
    have K4 := Lib.hid (hk.below bb4)
    clear bb4 hk q3
    go_wp2_with fail
    generalize World.alloc _ _ = W4 at *
    have HZ := Lib.hid (fun (F : Int) (hF : F < 0) => show (sh F).code = 18 from by
      rcases HCO.out.two F (by omega) with e | e
      · exact e
      · have := HCO.out.up F 0 (by omega) (by omega) e
        rw [HCO.out.zero] at this
        cases this)
    go_loopw [11, 12] (fun i j wr => ∃ lo hi : Int, i = .int .i64 lo ∧ j = .int .i64 hi ∧ 0 ≤ lo ∧ lo ≤ hi ∧ hi ≤ 2000 ∧ Hid (Below w.heap.size w wr) ∧ Hid (Below W4.heap.size W4 wr) ∧ Hid (∀ F : Int, F < lo → (sh F).code = 18) ∧ Hid ((sh hi).code = 0)) (fun i j _ => (intOf j - intOf i).toNat)
    case atStart => exact ⟨0, 2000, rfl, rfl, by omega, by omega, by omega, q4, Below.refl _ _, HZ, H2000⟩
    case round =>
      obtain ⟨lo, hi, rfl, rfl, hlo, hlh, hhi, hb, hb4, h18, h0⟩ := hrel
      by_cases hlt : lo < hi
      · obtain ⟨m, hm⟩ : ∃ m : Int, m = (lo + hi) / 2 := ⟨_, rfl⟩
        have hm1 : lo ≤ m := by omega
        have hm2 : m < hi := by omega
        have hmd : (lo + hi).tdiv 2 = m := by rw [Int.tdiv_eq_ediv_of_nonneg (by omega), hm]
        clear hm
        have hm18 := HCO.out.two m (by omega)
        go_wp2_with fail
        refine (call_v lib A cap name args Aa ca sh HC.out m wr (HL.out.mono hb.out) hF HS.out (HV.out.mono hb.out) (by omega)).mono ?_
        rintro e w5 ⟨hb5, hl5, _, A5, c5, hi5, rfl⟩
        have bb6 := below_box w5 (Obj.cells #[.bool (sh m).val.list, .int .i64 (sh m).val.n, .slice A5 (sh m).val.l.length c5] 29)
        have q5 := below_step hb.out hb.out.size hb5
        have q6 := Lib.hid (below_step q5 q5.size bb6)
        have r5 := below_step hb4.out hb4.out.size hb5
        have r6 := Lib.hid (below_step r5 r5.size bb6)
        clear hb5 q5 r5 bb6 hi5
        rcases hm18 with hm | hm
        · have H18 := Lib.hid (fun (F : Int) (hF : F < m + 1) => show (sh F).code = 18 from by
            rcases HCO.out.two F (by omega) with e | e
            · exact e
            · have := HCO.out.up F m (by omega) (by omega) e
              rw [hm] at this
              cases this)
          rw [hm]
          go_wp2_with fail
          exact ⟨⟨m + 1, hi, by go_num, rfl, by omega, by omega, by omega, q6, r6, H18, h0⟩, by simp [intOf]; omega⟩
        · have H0 := Lib.hid hm
          rw [hm]
          go_wp2_with fail
          exact ⟨⟨lo, m, rfl, rfl, by omega, by omega, by omega, q6, r6, h18, H0⟩, by simp [intOf]; omega⟩
      · obtain rfl : lo = hi := by omega
        have hst := HCO.out.steps lo hlo hhi h0.out
        have hz := HCO.out.zero
        have hlo1 : 0 < lo := by
          rcases Int.lt_or_le 0 lo with h | h
          · exact h
          · have : lo = 0 := by omega
            subst this
            have := h0.out
            rw [hz] at this
            cases this
        obtain ⟨k, hk⟩ : ∃ k : Int, k = oth % 2001 := ⟨_, rfl⟩
        have hk1 : 0 ≤ k := by omega
        have hk2 : k ≤ 2000 := by omega
        have hkd : oth.tmod 2001 = k := by rw [Int.tmod_eq_emod_of_nonneg (by omega), hk]
        have hkc : (k < lo ∧ (sh k).code = 18) ∨ (lo ≤ k ∧ (sh k).code = 0) := by
          rcases Int.lt_or_le k lo with h | h
          · exact .inl ⟨h, h18.out k h⟩
          · exact .inr ⟨h, HCO.out.up lo k h hk2 h0.out⟩
        clear hk hz
        go_wp2_with fail
        refine (call_v lib A cap name args Aa ca sh HC.out k wr (HL.out.mono hb.out) hF HS.out (HV.out.mono hb.out) (by omega)).mono ?_
        rintro e w5 ⟨hb5, hl5, _, A5, c5, hi5, rfl⟩
        have bb6 := below_box w5 (Obj.cells #[.bool (sh k).val.list, .int .i64 (sh k).val.n, .slice A5 (sh k).val.l.length c5] 29)
        have q5 := below_step hb.out hb.out.size hb5
        have q6 := Lib.hid (below_step q5 q5.size bb6)
        have r5 := below_step hb4.out hb4.out.size hb5
        have r6 := Lib.hid (below_step r5 r5.size bb6)
        have K6 := Lib.hid (K4.out.below r6.out)
        have vb6 := vb4.below r6.out
        obtain ⟨⟨s0, s1, s2, s3, s4, s5⟩, _⟩ := vb6.six
        have hvl := vb6.lt
        clear hb5 q5 r5 bb6 hi5
        rcases hkc with ⟨hk3, hkc⟩ | ⟨hk3, hkc⟩
        · rw [hkc]
          go_wp2_with fail
          generalize World.alloc _ _ = W6 at *
          refine (steps_any (fun _ => False) (SizeOf.sizeOf t) t (Nat.le_refl _) (by omega) t.func Ab t.args.length cb t.res.list t.res.n AL t.res.l.length cL Ac cc W6 K6.out).mono ?_
          rintro e w7 ⟨rfl, hb7⟩
          have q7 := Lib.hid (below_step q6.out q6.out.size hb7)
          clear hb7 s0 s1 s2 s3 s4 s5
          have hd1 : decide ((stepsT t : Int) ≤ lo) = true := by simpa using hst
          go_wp2_with fail
          go_ret
          refine ⟨?_, q7.out⟩
          simp
          omega
        · rw [hkc]
          go_wp2_with fail
          generalize World.alloc _ _ = W6 at *
          refine (steps_any (fun _ => False) (SizeOf.sizeOf t) t (Nat.le_refl _) (by omega) t.func Ab t.args.length cb t.res.list t.res.n AL t.res.l.length cL Ac cc W6 K6.out).mono ?_
          rintro e w7 ⟨rfl, hb7⟩
          have q7 := Lib.hid (below_step q6.out q6.out.size hb7)
          clear hb7 s0 s1 s2 s3 s4 s5
          have hd1 : decide ((stepsT t : Int) ≤ lo) = true := by simpa using hst
          go_wp2_with fail
          go_ret
          refine ⟨?_, q7.out⟩
          simp
          omega

end Go.Proofs.Ytgokgcnalgpiiaa
