/-
  The reference's Eval: what it needs; without fuel; numbers, variables, nil.
  The reference's Eval: operations with one operand.
-/
import Derived.Test.YtoankdaddgjnlaaRevMem
import Derived.Test.YtoankdaddgjnlaaFunRChk
namespace Go.Proofs.Ytoankdaddgjnlaa
open Go.ChangeShapes Go.WideShapes Go.ChangeAt Go.RowKit Go.Sort

theorem envL_cl : ∀ {l : List (ByteArray × Vl)}, (∀ p ∈ l, Cl p.2) → ∀ (e : ByteArray → Option Vl), (∀ s u, e s = some u → Cl u) → ∀ s u, l.foldl (fun e p => setV e p.1 p.2) e s = some u → Cl u
  | [], _, e, he, s, u, hs => he s u hs
  | p :: r, h, e, he, s, u, hs => by
    rw [List.foldl_cons] at hs
    refine envL_cl (l := r) (fun q hq => h q (by simp [hq])) _ (fun s' u' hs' => ?_) s u hs
    unfold setV at hs'
    split at hs'
    · cases hs'; exact h p (by simp)
    · exact he s' u' hs'
theorem cl_env {l : List (ByteArray × Vl)} (h : ∀ p ∈ l, Cl p.2) : ∀ s u, envL l s = some u → Cl u := envL_cl h _ (fun s u hs => by cases hs)
/-- What a call of Eval needs. -/
structure RPre (X : Nat → Prop) (A : Option Addr) (lib : List Fn1) (x : Nd) (Ak : Option Addr) (vs : List (ByteArray × Vl)) (Av : Option Addr) (F : Int) (act : Nat) (w : World) : Prop where
  lb : LibAt w A lib
  vars : VarsC w X Av vs
  kids : NdsAt w Ak x.kids
  fit : NdFit x
  form : formT x = true
  ar : arT lib x = true
  size : vs.length + sizeT x ≤ 1000000
  fuel : F ≤ 900000
  act : act ≤ 1000
  old : ∀ k, X k → k < w.heap.size
  cl : ∀ p ∈ vs, Cl p.2
def REvalC (A : Option Addr) (cap : Nat) (lib : List Fn1) (d : Nat) : Prop := ∀ (X : Nat → Prop) (x : Nd) (Ak : Option Addr) (ck : Nat) (vs : List (ByteArray × Vl)) (Av : Option Addr) (cv : Nat) (F : Int) (act : Nat) (w : World), RPre X A lib x Ak vs Av F act w → F.toNat ≤ d →
  Calls Try.prog 25 #[.slice A lib.length cap, .slice Av vs.length cv, .agg #[.int .u8 x.kind, .int .i64 x.num, .string x.name, .slice Ak x.kids.length ck], .int .i64 F, .int .i64 act] w (RetOu (ev apR lib d act (envL vs) x F.toNat) F.toNat X w)
theorem retou_err {k : Int} (h : k ≠ 0) {F : Nat} {X : Nat → Prop} {w w' : World} (hb : Below w.heap.size w w') : RetOu (.err k) F X w (.returned (.agg #[.bool false, .int .i64 0, .slice none 0 0, .int .i64 0, .slice none 0 0, .int .i64 k])) w' :=
  ⟨hb, h, false, 0, none, 0, 0, 0, none, 0, 0, rfl, CxX.nil _ _ _, Nat.zero_le _⟩
theorem retou_pre {o : Out} {c : List Tr} {F : Nat} {X : Nat → Prop} {w w' : World} {e : Ending} (h : RetOu o F X w e w') : RetOu (o.pre c) F X w e w' := by
  cases o with
  | err k => exact h
  | ok v f c' => exact h
set_option maxRecDepth 100000 in
set_option maxHeartbeats 1000000 in
theorem reval_0 {X : Nat → Prop} {A : Option Addr} {cap : Nat} {lib : List Fn1} {x : Nd} {Ak : Option Addr} (ck : Nat) {vs : List (ByteArray × Vl)} {Av : Option Addr} (cv : Nat) {F : Int} {act : Nat} {w : World} (hF : F ≤ 0) :
    Calls Try.prog 25 #[.slice A lib.length cap, .slice Av vs.length cv, .agg #[.int .u8 x.kind, .int .i64 x.num, .string x.name, .slice Ak x.kids.length ck], .int .i64 F, .int .i64 act] w (RetOu (.err 18) F.toNat X w) := by
  have H2 := Lib.hid (two_bx w #[.int .u8 x.kind, .int .i64 x.num, .string x.name, .slice Ak x.kids.length ck] #[.bool false, .int .i64 0, .slice none 0 0, .int .i64 0, .slice none 0 0, .int .i64 0] 41 82)
  go_enter Try.func25, Try.ntmps25
  go_upto_region 1 with fail
  generalize (w.alloc _).alloc _ = W at H2 ⊢
  obtain ⟨⟨y0, y1, y2, y3, y4, y5⟩, f0, f1, f2, f3, f4, f5⟩ := H2.out.2.1.six
  go_wp2_with fail
  have HF := Lib.hid (And.intro (H2.out.2.1.set6 (.bool false) (.int .i64 0) (.slice none 0 0) (.int .i64 0) (.slice none 0 0) (.int .i64 18)) (belowR6 H2.out.2.2 (Nat.le_add_right w.heap.size 1) (.bool false) (.int .i64 0) (.slice none 0 0) (.int .i64 0) (.slice none 0 0) (.int .i64 18)))
  generalize World.setCell _ _ _ = WF at HF ⊢
  obtain ⟨⟨g0, g1, g2, g3, g4, g5⟩, _⟩ := HF.out.1.six
  exact bodyPost_ret (v := .agg #[.bool false, .int .i64 0, .slice none 0 0, .int .i64 0, .slice none 0 0, .int .i64 18]) (by simp [results, Try.results25, go_sem, g0, g1, g2, g3, g4, g5]) rfl (retou_err (by decide) HF.out.2)
set_option maxRecDepth 100000 in
set_option maxHeartbeats 1000000 in
theorem reval_80 {X : Nat → Prop} {A : Option Addr} {cap : Nat} {lib : List Fn1} {x : Nd} {Ak : Option Addr} (ck : Nat) {vs : List (ByteArray × Vl)} {Av : Option Addr} (cv : Nat) {F : Int} {act : Nat} {w : World} (h : RPre X A lib x Ak vs Av F act w) (hF : 0 < F) (h80 : x.kind = 80) :
    Calls Try.prog 25 #[.slice A lib.length cap, .slice Av vs.length cv, .agg #[.int .u8 x.kind, .int .i64 x.num, .string x.name, .slice Ak x.kids.length ck], .int .i64 F, .int .i64 act] w (RetOu (.ok ⟨false, x.num, []⟩ (F.toNat - 1) []) F.toNat X w) := by
  have H2 := Lib.hid (two_bx w #[.int .u8 x.kind, .int .i64 x.num, .string x.name, .slice Ak x.kids.length ck] #[.bool false, .int .i64 0, .slice none 0 0, .int .i64 0, .slice none 0 0, .int .i64 0] 41 82)
  rw [h80] at H2 ⊢
  have hFu := h.fuel
  have hF0 : ¬ F ≤ 0 := by omega
  have HG := Lib.hid (show ((F.toNat - 1 : Nat) : Int) = F - 1 by omega)
  clear h
  go_enter Try.func25, Try.ntmps25
  go_upto_region 1 with fail
  generalize (w.alloc _).alloc _ = W at H2 ⊢
  obtain ⟨x0, x1, x2, x3, _⟩ := H2.out.1.four
  go_wp2_with fail
  refine (rnum_any x.num W).mono ?_
  rintro e w7 ⟨rfl, hb7⟩
  have HX7 := Lib.hid (H2.out.2.1.below hb7)
  have HB7 := Lib.hid (below_step H2.out.2.2 H2.out.2.2.size hb7)
  obtain ⟨⟨y0, y1, y2, y3, y4, y5⟩, f0, f1, f2, f3, f4, f5⟩ := HX7.out.six
  clear hb7
  go_wp2_with fail
  have HF := Lib.hid (And.intro (HX7.out.set6 (.bool false) (.int .i64 x.num) (.slice none 0 0) (.int .i64 (F - 1)) (.slice none 0 0) (.int .i64 0)) (belowR6 HB7.out (Nat.le_add_right w.heap.size 1) (.bool false) (.int .i64 x.num) (.slice none 0 0) (.int .i64 (F - 1)) (.slice none 0 0) (.int .i64 0)))
  generalize World.setCell _ _ _ = WF at HF ⊢
  obtain ⟨⟨g0, g1, g2, g3, g4, g5⟩, _⟩ := HF.out.1.six
  exact bodyPost_ret (v := .agg #[.bool false, .int .i64 x.num, .slice none 0 0, .int .i64 (F - 1), .slice none 0 0, .int .i64 0]) (by simp [results, Try.results25, go_sem, g0, g1, g2, g3, g4, g5]) rfl ⟨HF.out.2, none, 0, none, 0, 0, by rw [HG.out]; rfl, CxX.nil _ _ _, by omega, IntsX.nil _ _ _, Nat.le_refl 0, Nat.zero_le _⟩
set_option maxRecDepth 100000 in
set_option maxHeartbeats 1000000 in
theorem reval_81 {X : Nat → Prop} {A : Option Addr} {cap : Nat} {lib : List Fn1} {x : Nd} {Ak : Option Addr} (ck : Nat) {vs : List (ByteArray × Vl)} {Av : Option Addr} (cv : Nat) {F : Int} {act : Nat} {w : World} (h : RPre X A lib x Ak vs Av F act w) (hF : 0 < F) (h81 : x.kind = 81) :
    Calls Try.prog 25 #[.slice A lib.length cap, .slice Av vs.length cv, .agg #[.int .u8 x.kind, .int .i64 x.num, .string x.name, .slice Ak x.kids.length ck], .int .i64 F, .int .i64 act] w (RetOu (.ok ((envL vs x.name).getD zeroV) (F.toNat - 1) []) F.toNat X w) := by
  have H2 := Lib.hid (two_bx w #[.int .u8 x.kind, .int .i64 x.num, .string x.name, .slice Ak x.kids.length ck] #[.bool false, .int .i64 0, .slice none 0 0, .int .i64 0, .slice none 0 0, .int .i64 0] 41 82)
  rw [h81] at H2 ⊢
  have hFu := h.fuel
  have hF0 : ¬ F ≤ 0 := by omega
  have HG := Lib.hid (show ((F.toNat - 1 : Nat) : Int) = F - 1 by omega)
  have hvl : vs.length ≤ 1000000 := by have := h.size; omega
  have HV := Lib.hid h.vars
  clear h
  go_enter Try.func25, Try.ntmps25
  go_upto_region 1 with fail
  generalize (w.alloc _).alloc _ = W at H2 ⊢
  obtain ⟨x0, x1, x2, x3, _⟩ := H2.out.1.four
  have HFD := Lib.hid (rlook_any vs Av cv x.name (fun k => X k ∨ w.heap.size ≤ k) W (HV.out.below H2.out.2.2 (fun k hk e => e.resolve_right (by omega))) hvl)
  generalize (envL vs x.name).getD zeroV = v at *
  go_wp2_with fail
  refine HFD.out.mono ?_
  rintro e w7 ⟨hb7, A7, c7, rfl, hi7, hc7, hl7⟩
  have HX7 := Lib.hid (H2.out.2.1.below hb7)
  have HB7 := Lib.hid (below_step H2.out.2.2 H2.out.2.2.size hb7)
  have HI7 := Lib.hid hi7
  obtain ⟨⟨y0, y1, y2, y3, y4, y5⟩, f0, f1, f2, f3, f4, f5⟩ := HX7.out.six
  clear hb7 hi7
  go_wp2_with fail
  have HFR := Lib.hid (Fr.set6 w7 (w.heap.size + 1) (.bool v.list) (.int .i64 v.n) (.slice A7 v.l.length c7) (.int .i64 (F - 1)) (.slice none 0 0) (.int .i64 0))
  have HF := Lib.hid (And.intro (HX7.out.set6 (.bool v.list) (.int .i64 v.n) (.slice A7 v.l.length c7) (.int .i64 (F - 1)) (.slice none 0 0) (.int .i64 0)) (belowR6 HB7.out (Nat.le_add_right w.heap.size 1) (.bool v.list) (.int .i64 v.n) (.slice A7 v.l.length c7) (.int .i64 (F - 1)) (.slice none 0 0) (.int .i64 0)))
  generalize World.setCell _ _ _ = WF at HF HFR ⊢
  obtain ⟨⟨g0, g1, g2, g3, g4, g5⟩, _⟩ := HF.out.1.six
  have HIF := Lib.hid (HI7.out.le (Le.of_fr HFR.out (fun k _ e => .inr (by omega)) (X' := X) (fun k _ e => .inl e)))
  exact bodyPost_ret (v := .agg #[.bool v.list, .int .i64 v.n, .slice A7 v.l.length c7, .int .i64 (F - 1), .slice none 0 0, .int .i64 0]) (by simp [results, Try.results25, go_sem, g0, g1, g2, g3, g4, g5]) rfl ⟨HF.out.2, A7, c7, none, 0, 0, by rw [HG.out], CxX.nil _ _ _, by omega, HIF.out, hc7, hl7⟩

end Go.Proofs.Ytoankdaddgjnlaa

namespace Go.Proofs.Ytoankdaddgjnlaa
open Go.ChangeShapes Go.WideShapes Go.ChangeAt Go.RowKit Go.Sort

theorem retou_six {o : Out} {F : Nat} {X : Nat → Prop} {w w' : World} {e : Ending} (h : RetOu o F X w e w') : ∃ (bl : Bool) (n : Int) (A : Option Addr) (m c : Nat) (G : Int) (Ac : Option Addr) (mc cc : Nat) (q : Int), e = .returned (.agg #[.bool bl, .int .i64 n, .slice A m c, .int .i64 G, .slice Ac mc cc, .int .i64 q]) ∧ CxX w' X Ac mc ∧ mc ≤ F ∧ (match o with | .err k => q = k ∧ k ≠ 0 | .ok v f _ => q = 0 ∧ bl = v.list ∧ n = v.n ∧ m = v.l.length ∧ G = f ∧ mc + f ≤ F ∧ IntsX w' X A v.l ∧ v.l.length ≤ c ∧ v.l.length ≤ 1000000) := by
  cases o with
  | err k =>
    obtain ⟨_, hk, bl, n, A, m, c, G, Ac, mc, cc, rfl, hc, hm⟩ := h
    exact ⟨bl, n, A, m, c, G, Ac, mc, cc, k, rfl, hc, hm, rfl, hk⟩
  | ok v f t =>
    obtain ⟨_, A, c, Ac, mc, cc, rfl, hc, hm, hi, h1, h2⟩ := h
    exact ⟨_, _, A, _, c, _, Ac, mc, cc, 0, rfl, hc, by omega, rfl, rfl, rfl, rfl, rfl, hm, hi, h1, h2⟩
theorem retou_move {o : Out} {F G : Nat} {X X2 : Nat → Prop} {w wa w9 WF : World} {e : Ending} (h : RetOu o F X2 wa e w9) (hG : F ≤ G) (hb : Below w.heap.size w WF) (hl : Le w9 X2 WF X) : RetOu o G X w e WF := by
  refine ⟨hb, ?_⟩
  cases o with
  | err k =>
    obtain ⟨_, hk, bl, n, A, m, c, G, Ac, mc, cc, rfl, hc, hm⟩ := h
    exact ⟨hk, bl, n, A, m, c, G, Ac, mc, cc, rfl, hc.le hl, by omega⟩
  | ok v f t =>
    obtain ⟨_, A, c, Ac, mc, cc, rfl, hc, hm, hi, h1, h2⟩ := h
    exact ⟨A, c, Ac, mc, cc, rfl, hc.le hl, by omega, hi.le hl, h1, h2⟩
theorem ev_one {ap : Int → Int → Int → Int × Int} {lib : List Fn1} {d act : Nat} {env : ByteArray → Option Vl} {x y : Nd} {f : Nat} (h0 : f ≠ 0) (hk : x.kind = 88 ∨ x.kind = 89 ∨ x.kind = 90) (hx : x.kids = [y]) :
    (∀ k, ev ap lib d act env y (f - 1) = .err k → ev ap lib (d + 1) act env x f = .err k) ∧ (∀ v g c, ev ap lib d act env y (f - 1) = .ok v g c → ∃ c', ev ap lib (d + 1) act env x f = (opO ap x [v] g).pre c') := by
  rw [ev, if_neg h0, if_neg (by omega), if_neg (by omega), if_neg (by omega), if_neg (by omega), hx]
  unfold evL
  constructor
  · intro k hk2
    rw [hk2]; rfl
  · intro v g c hv
    rw [hv]
    refine ⟨c ++ [], ?_⟩
    show OutL.bind (.ok [v] g (c ++ [])) _ = _
    unfold OutL.bind
    dsimp only
    rw [if_neg (by omega)]
theorem one_kid {x : Nd} (hf : formT x = true) {n : Nat} (hk : kidsK x.kind = some n) : x.kids.length = n := form_lenK (formT_kids hf).1 hk
theorem sizeTL_kid {l : List Nd} {k : Nat} {y : Nd} (h : l[k]? = some y) : sizeT y ≤ sizeTL l := by
  obtain ⟨hk, rfl⟩ := List.getElem?_eq_some_iff.1 h
  have h1 := sizeTL_step hk
  have h2 := sizeTL_le (l := l) (k + 1)
  omega
theorem fit_kid {lib : List Fn1} {x y : Nd} {k : Nat} (hy : x.kids[k]? = some y) (hf : NdFit x) (hm : formT x = true) (ha : arT lib x = true) : NdFit y ∧ formT y = true ∧ arT lib y = true ∧ sizeT y + 1 ≤ sizeT x := by
  refine ⟨hf.kid hy, formT_kid (formT_kids hm).2 y (List.mem_of_getElem? hy), ?_, ?_⟩
  · rw [arT_eq] at ha
    exact arTL_kid (Bool.and_eq_true_iff.1 ha).2 hy
  · have := sizeT_eq x
    have := sizeTL_kid hy
    omega

set_option maxRecDepth 100000 in
set_option maxHeartbeats 4000000 in
theorem reval_1 {X : Nat → Prop} {A : Option Addr} {cap : Nat} {lib : List Fn1} {d : Nat} {x : Nd} {Ak : Option Addr} (ck : Nat) {vs : List (ByteArray × Vl)} {Av : Option Addr} (cv : Nat) {F : Int} {act : Nat} {w : World} (h : RPre X A lib x Ak vs Av F act w) (hF : 0 < F) (ih : REvalC A cap lib d) (hd : F.toNat ≤ d + 1) (hk : x.kind = 88 ∨ x.kind = 89 ∨ x.kind = 90) :
    Calls Try.prog 25 #[.slice A lib.length cap, .slice Av vs.length cv, .agg #[.int .u8 x.kind, .int .i64 x.num, .string x.name, .slice Ak x.kids.length ck], .int .i64 F, .int .i64 act] w (RetOu (ev apR lib (d + 1) act (envL vs) x F.toNat) F.toNat X w) := by
  have H2 := Lib.hid (two_bx w #[.int .u8 x.kind, .int .i64 x.num, .string x.name, .slice Ak x.kids.length ck] #[.bool false, .int .i64 0, .slice none 0 0, .int .i64 0, .slice none 0 0, .int .i64 0] 41 82)
  have hlen : x.kids.length = 1 := one_kid h.form (by rcases hk with e | e | e <;> rw [e] <;> rfl)
  obtain ⟨y, hy⟩ : ∃ y, x.kids = [y] := List.length_eq_one_iff.1 hlen
  have hEV := ev_one (ap := apR) (lib := lib) (d := d) (act := act) (env := envL vs) (show F.toNat ≠ 0 by omega) hk hy
  have HE1 := Lib.hid hEV.1
  have HE2 := Lib.hid hEV.2
  have hfn : firstN x = y := by
    unfold firstN kidN
    rw [if_neg (by rw [hy]; rintro (e | e); cases e; omega), hy]; rfl
  have HFS := Lib.hid (fun (W : World) (hb : Below w.heap.size w W) => rfirst_any x Ak ck W (h.kids.mono hb))
  rw [hfn] at HFS
  have hkid := fit_kid (k := 0) (y := y) (by rw [hy]; rfl) h.fit h.form h.ar
  have HR : Hid (∀ (W : World) (Ay : Option Addr) (cy : Nat), Below w.heap.size w W → w.heap.size + 1 < W.heap.size → NdsAt W Ay y.kids → Calls Try.prog 25 #[.slice A lib.length cap, .slice Av vs.length cv, .agg #[.int .u8 y.kind, .int .i64 y.num, .string y.name, .slice Ay y.kids.length cy], .int .i64 (F - 1), .int .i64 act] W (RetOu (ev apR lib d act (envL vs) y (F.toNat - 1)) (F.toNat - 1) (fun k => X k ∨ k = w.heap.size ∨ k = w.heap.size + 1) W)) := Lib.hid (fun W Ay cy hb hlt hn => by
    have := ih (fun k => X k ∨ k = w.heap.size ∨ k = w.heap.size + 1) y Ay cy vs Av cv (F - 1) act W ⟨h.lb.mono hb, h.vars.below hb (fun k hk e => by rcases e with e | e | e; exact e; omega; omega), hn, hkid.1, hkid.2.1, hkid.2.2.1, by have := h.size; have := hkid.2.2.2; omega, by have := h.fuel; omega, h.act, fun k e => by rcases e with e | e | e; have := h.old k e; have := hb.size; omega; omega; omega, h.cl⟩ (by omega)
    rw [show (F - 1).toNat = F.toNat - 1 by omega] at this
    exact this)
  obtain ⟨o, hoo⟩ : ∃ o, ev apR lib d act (envL vs) y (F.toNat - 1) = o := ⟨_, rfl⟩
  rw [hoo] at HR
  have HOO := Lib.hid hoo
  have HX := Lib.hid h.old
  have hFu := h.fuel
  have hF0 : ¬ F ≤ 0 := by omega
  have hkk := hk
  clear h hEV hfn hkid hlen hy hoo
  rcases hk with hk | hk | hk
  · have HK0 : x.kind = 88 := hk
    have HLI : Hid (∀ (v : Vl) (f F : Nat) (A : Option Addr) (c : Nat) (Ac : Option Addr) (mc cc : Nat) (X : Nat → Prop) (w : World), IntsX w X A v.l → v.l.length ≤ c → v.l.length ≤ 1000000 → CxX w X Ac mc → mc + f ≤ F → Calls Try.prog 38 #[.int .u8 88, .agg #[.bool v.list, .int .i64 v.n, .slice A v.l.length c, .int .i64 f, .slice Ac mc cc, .int .i64 0]] w (RetOu (opO apR x [v] f) F X w)) := Lib.hid (fun v f F A c Ac mc cc X w h1 h2 h3 h4 h5 => by
      have := rlist_any x (by omega) v f F A c Ac mc cc X w h1 h2 h3 h4 h5
      rw [HK0] at this
      exact this)
    rw [HK0] at H2 HFS ⊢
    clear hk HK0 hkk
    go_enter Try.func25, Try.ntmps25
    go_upto_region 1 with fail
    generalize (w.alloc _).alloc _ = W at H2 ⊢
    obtain ⟨x0, x1, x2, x3, _⟩ := H2.out.1.four
    go_wp2_with fail
    refine (HFS.out W H2.out.2.2).mono ?_
    rintro e w7 ⟨hb7, Ay, cy, rfl, hn7⟩
    have HB7 := Lib.hid (below_step H2.out.2.2 H2.out.2.2.size hb7)
    have hlt7 : w.heap.size + 1 < w7.heap.size := by have := H2.out.2.1.lt; have := hb7.size; omega
    have HN7 := Lib.hid hn7
    have HA7 := Lib.hid (H2.out.1.below hb7)
    have HC7 := Lib.hid (H2.out.2.1.below hb7)
    clear hb7 hn7 x0 x1 x2 x3
    go_wp2_with fail
    refine (HR.out w7 Ay cy HB7.out hlt7 HN7.out).mono ?_
    intro e w8 ho
    cases o with
    | err k =>
      obtain ⟨hb8, hk8, bl, n, A8, m8, c8, G8, Ac8, mc8, cc8, rfl, hx8, hm8⟩ := ho
      have HB8 := Lib.hid (below_step HB7.out HB7.out.size hb8)
      have hb9 := below_box w8 (Obj.cells #[.bool bl, .int .i64 n, .slice A8 m8 c8, .int .i64 G8, .slice Ac8 mc8 cc8, .int .i64 k] 82)
      have HO9 := Lib.hid (bx_new w8 #[.bool bl, .int .i64 n, .slice A8 m8 c8, .int .i64 G8, .slice Ac8 mc8 cc8, .int .i64 k] 82)
      have HB9 := Lib.hid (below_step HB8.out HB8.out.size hb9)
      have HA9 := Lib.hid ((HA7.out.below hb8).below hb9)
      have HC9 := Lib.hid ((HC7.out.below hb8).below hb9)
      have HX8 := Lib.hid hx8
      have HL9 := Lib.hid hb9
      have hlt8 : w.heap.size + 1 < w8.heap.size := by have := hb8.size; omega
      have HXX := Lib.hid (hx8.le (Le.below hb9 (fun _ _ e => e)))
      clear hb8 hb9 hx8 HA7 HC7 HB7 HN7
      go_upto_region 12 with fail
      generalize w8.alloc _ = W9 at HO9 HB9 HA9 HC9 HL9 HXX ⊢
      obtain ⟨a0, a1, a2, a3, _⟩ := HA9.out.four
      obtain ⟨⟨o0, o1, o2, o3, o4, o5⟩, p0, p1, p2, p3, p4, p5⟩ := HO9.out.six
      obtain ⟨⟨y0, y1, y2, y3, y4, y5⟩, f0, f1, f2, f3, f4, f5⟩ := HC9.out.six
      have hne : (k != 0) = true := bne_iff_ne.2 hk8
      have HER := Lib.hid (HE1.out k HOO.out)
      have HK8 := Lib.hid hk8
      clear hk8
      go_wp2_with fail
      have HF := Lib.hid (And.intro (HC9.out.set6 (.bool bl) (.int .i64 n) (.slice A8 m8 c8) (.int .i64 G8) (.slice Ac8 mc8 cc8) (.int .i64 k)) (belowR6 HB9.out (Nat.le_add_right w.heap.size 1) (.bool bl) (.int .i64 n) (.slice A8 m8 c8) (.int .i64 G8) (.slice Ac8 mc8 cc8) (.int .i64 k)))
      have HLE := Lib.hid (fun (Xa Xb : Nat → Prop) (h1 : ∀ k, k = w.heap.size + 1 → Xa k) (h2 : ∀ k, Xb k → Xa k) => Le.of_fr (X := Xa) (X' := Xb) (Fr.set6 W9 (w.heap.size + 1) (.bool bl) (.int .i64 n) (.slice A8 m8 c8) (.int .i64 G8) (.slice Ac8 mc8 cc8) (.int .i64 k)) (fun k _ e => h1 k e) (fun k _ e => h2 k e))
      generalize World.setCell _ _ _ = WF at HF HLE ⊢
      obtain ⟨⟨g0, g1, g2, g3, g4, g5⟩, _⟩ := HF.out.1.six
      exact bodyPost_ret (v := .agg #[.bool bl, .int .i64 n, .slice A8 m8 c8, .int .i64 G8, .slice Ac8 mc8 cc8, .int .i64 k]) (by simp [results, Try.results25, go_sem, g0, g1, g2, g3, g4, g5]) rfl (by rw [HER.out]; exact ⟨HF.out.2, HK8.out, bl, n, A8, m8, c8, G8, Ac8, mc8, cc8, rfl, HXX.out.le (HLE.out (fun k => X k ∨ k = w.heap.size ∨ k = w.heap.size + 1) X (fun k e => .inr (.inr e)) (fun k e => .inl e)), by omega⟩)
    | ok v f t =>
      obtain ⟨hb8, A8, c8, Ac8, mc8, cc8, rfl, hx8, hm8, hi8, hc8, hv8⟩ := ho
      have HB8 := Lib.hid (below_step HB7.out HB7.out.size hb8)
      have hb9 := below_box w8 (Obj.cells #[.bool v.list, .int .i64 v.n, .slice A8 v.l.length c8, .int .i64 f, .slice Ac8 mc8 cc8, .int .i64 0] 82)
      have HO9 := Lib.hid (bx_new w8 #[.bool v.list, .int .i64 v.n, .slice A8 v.l.length c8, .int .i64 f, .slice Ac8 mc8 cc8, .int .i64 0] 82)
      have HB9 := Lib.hid (below_step HB8.out HB8.out.size hb9)
      have HA9 := Lib.hid ((HA7.out.below hb8).below hb9)
      have HC9 := Lib.hid ((HC7.out.below hb8).below hb9)
      have HX8 := Lib.hid hx8
      have HL9 := Lib.hid hb9
      have hlt8 : w.heap.size + 1 < w8.heap.size := by have := hb8.size; omega
      have HXX := Lib.hid (hx8.le (Le.below hb9 (fun _ _ e => e)))
      clear hb8 hb9 hx8 HA7 HC7 HB7 HN7
      go_upto_region 12 with fail
      generalize w8.alloc _ = W9 at HO9 HB9 HA9 HC9 HL9 HXX ⊢
      obtain ⟨a0, a1, a2, a3, _⟩ := HA9.out.four
      obtain ⟨⟨o0, o1, o2, o3, o4, o5⟩, p0, p1, p2, p3, p4, p5⟩ := HO9.out.six
      obtain ⟨⟨y0, y1, y2, y3, y4, y5⟩, f0, f1, f2, f3, f4, f5⟩ := HC9.out.six
      have HOK := Lib.hid (HE2.out v f t HOO.out)
      have HII := Lib.hid (hi8.le (Le.below HL9.out (X' := fun k => (X k ∨ k = w.heap.size ∨ k = w.heap.size + 1) ∨ k = w8.heap.size) (fun k hk e => e.resolve_right (by omega))))
      have HXY := Lib.hid (HX8.out.le (Le.below HL9.out (X' := fun k => (X k ∨ k = w.heap.size ∨ k = w.heap.size + 1) ∨ k = w8.heap.size) (fun k hk e => e.resolve_right (by omega))))
      have HLS := Lib.hid (HLI.out v f (F.toNat - 1) A8 c8 Ac8 mc8 cc8 _ W9 HII.out hc8 hv8 HXY.out hm8)
      clear hi8
      go_wp2_with fail
      refine HLS.out.mono ?_
      intro e w10 hl
      have HB10 := Lib.hid (below_step HB9.out HB9.out.size hl.1)
      have HC10 := Lib.hid (HC9.out.below hl.1)
      have HHL := Lib.hid hl
      obtain ⟨bl, n, A10, m10, c10, G10, Ac10, mc10, cc10, q10, rfl, _, _, _⟩ := retou_six hl
      clear y0 y1 y2 y3 y4 y5 f0 f1 f2 f3 f4 f5
      obtain ⟨⟨y0, y1, y2, y3, y4, y5⟩, f0, f1, f2, f3, f4, f5⟩ := HC10.out.six
      go_wp2_with fail
      have HF := Lib.hid (And.intro (HC10.out.set6 (.bool bl) (.int .i64 n) (.slice A10 m10 c10) (.int .i64 G10) (.slice Ac10 mc10 cc10) (.int .i64 q10)) (belowR6 HB10.out (Nat.le_add_right w.heap.size 1) (.bool bl) (.int .i64 n) (.slice A10 m10 c10) (.int .i64 G10) (.slice Ac10 mc10 cc10) (.int .i64 q10)))
      have HLE := Lib.hid (fun (Xa Xb : Nat → Prop) (h1 : ∀ k, k = w.heap.size + 1 → Xa k) (h2 : ∀ k, Xb k → Xa k) => Le.of_fr (X := Xa) (X' := Xb) (Fr.set6 w10 (w.heap.size + 1) (.bool bl) (.int .i64 n) (.slice A10 m10 c10) (.int .i64 G10) (.slice Ac10 mc10 cc10) (.int .i64 q10)) (fun k _ e => h1 k e) (fun k _ e => h2 k e))
      generalize World.setCell _ _ _ = WF at HF HLE ⊢
      obtain ⟨⟨g0, g1, g2, g3, g4, g5⟩, _⟩ := HF.out.1.six
      obtain ⟨cx, hcx⟩ := HOK.out
      exact bodyPost_ret (v := .agg #[.bool bl, .int .i64 n, .slice A10 m10 c10, .int .i64 G10, .slice Ac10 mc10 cc10, .int .i64 q10]) (by simp [results, Try.results25, go_sem, g0, g1, g2, g3, g4, g5]) rfl (by rw [hcx]; exact retou_pre (retou_move HHL.out (by omega) HF.out.2 (HLE.out _ X (fun k e => .inl (.inr (.inr e))) (fun k e => .inl (.inl e)))))
  · have HK0 : x.kind = 89 := hk
    have HLI : Hid (∀ (v : Vl) (f F : Nat) (A : Option Addr) (c : Nat) (Ac : Option Addr) (mc cc : Nat) (X : Nat → Prop) (w : World), IntsX w X A v.l → v.l.length ≤ c → v.l.length ≤ 1000000 → CxX w X Ac mc → mc + f ≤ F → Calls Try.prog 38 #[.int .u8 89, .agg #[.bool v.list, .int .i64 v.n, .slice A v.l.length c, .int .i64 f, .slice Ac mc cc, .int .i64 0]] w (RetOu (opO apR x [v] f) F X w)) := Lib.hid (fun v f F A c Ac mc cc X w h1 h2 h3 h4 h5 => by
      have := rlist_any x (by omega) v f F A c Ac mc cc X w h1 h2 h3 h4 h5
      rw [HK0] at this
      exact this)
    rw [HK0] at H2 HFS ⊢
    clear hk HK0 hkk
    go_enter Try.func25, Try.ntmps25
    go_upto_region 1 with fail
    generalize (w.alloc _).alloc _ = W at H2 ⊢
    obtain ⟨x0, x1, x2, x3, _⟩ := H2.out.1.four
    go_wp2_with fail
    refine (HFS.out W H2.out.2.2).mono ?_
    rintro e w7 ⟨hb7, Ay, cy, rfl, hn7⟩
    have HB7 := Lib.hid (below_step H2.out.2.2 H2.out.2.2.size hb7)
    have hlt7 : w.heap.size + 1 < w7.heap.size := by have := H2.out.2.1.lt; have := hb7.size; omega
    have HN7 := Lib.hid hn7
    have HA7 := Lib.hid (H2.out.1.below hb7)
    have HC7 := Lib.hid (H2.out.2.1.below hb7)
    clear hb7 hn7 x0 x1 x2 x3
    go_wp2_with fail
    refine (HR.out w7 Ay cy HB7.out hlt7 HN7.out).mono ?_
    intro e w8 ho
    cases o with
    | err k =>
      obtain ⟨hb8, hk8, bl, n, A8, m8, c8, G8, Ac8, mc8, cc8, rfl, hx8, hm8⟩ := ho
      have HB8 := Lib.hid (below_step HB7.out HB7.out.size hb8)
      have hb9 := below_box w8 (Obj.cells #[.bool bl, .int .i64 n, .slice A8 m8 c8, .int .i64 G8, .slice Ac8 mc8 cc8, .int .i64 k] 82)
      have HO9 := Lib.hid (bx_new w8 #[.bool bl, .int .i64 n, .slice A8 m8 c8, .int .i64 G8, .slice Ac8 mc8 cc8, .int .i64 k] 82)
      have HB9 := Lib.hid (below_step HB8.out HB8.out.size hb9)
      have HA9 := Lib.hid ((HA7.out.below hb8).below hb9)
      have HC9 := Lib.hid ((HC7.out.below hb8).below hb9)
      have HX8 := Lib.hid hx8
      have HL9 := Lib.hid hb9
      have hlt8 : w.heap.size + 1 < w8.heap.size := by have := hb8.size; omega
      have HXX := Lib.hid (hx8.le (Le.below hb9 (fun _ _ e => e)))
      clear hb8 hb9 hx8 HA7 HC7 HB7 HN7
      go_upto_region 12 with fail
      generalize w8.alloc _ = W9 at HO9 HB9 HA9 HC9 HL9 HXX ⊢
      obtain ⟨a0, a1, a2, a3, _⟩ := HA9.out.four
      obtain ⟨⟨o0, o1, o2, o3, o4, o5⟩, p0, p1, p2, p3, p4, p5⟩ := HO9.out.six
      obtain ⟨⟨y0, y1, y2, y3, y4, y5⟩, f0, f1, f2, f3, f4, f5⟩ := HC9.out.six
      have hne : (k != 0) = true := bne_iff_ne.2 hk8
      have HER := Lib.hid (HE1.out k HOO.out)
      have HK8 := Lib.hid hk8
      clear hk8
      go_wp2_with fail
      have HF := Lib.hid (And.intro (HC9.out.set6 (.bool bl) (.int .i64 n) (.slice A8 m8 c8) (.int .i64 G8) (.slice Ac8 mc8 cc8) (.int .i64 k)) (belowR6 HB9.out (Nat.le_add_right w.heap.size 1) (.bool bl) (.int .i64 n) (.slice A8 m8 c8) (.int .i64 G8) (.slice Ac8 mc8 cc8) (.int .i64 k)))
      have HLE := Lib.hid (fun (Xa Xb : Nat → Prop) (h1 : ∀ k, k = w.heap.size + 1 → Xa k) (h2 : ∀ k, Xb k → Xa k) => Le.of_fr (X := Xa) (X' := Xb) (Fr.set6 W9 (w.heap.size + 1) (.bool bl) (.int .i64 n) (.slice A8 m8 c8) (.int .i64 G8) (.slice Ac8 mc8 cc8) (.int .i64 k)) (fun k _ e => h1 k e) (fun k _ e => h2 k e))
      generalize World.setCell _ _ _ = WF at HF HLE ⊢
      obtain ⟨⟨g0, g1, g2, g3, g4, g5⟩, _⟩ := HF.out.1.six
      exact bodyPost_ret (v := .agg #[.bool bl, .int .i64 n, .slice A8 m8 c8, .int .i64 G8, .slice Ac8 mc8 cc8, .int .i64 k]) (by simp [results, Try.results25, go_sem, g0, g1, g2, g3, g4, g5]) rfl (by rw [HER.out]; exact ⟨HF.out.2, HK8.out, bl, n, A8, m8, c8, G8, Ac8, mc8, cc8, rfl, HXX.out.le (HLE.out (fun k => X k ∨ k = w.heap.size ∨ k = w.heap.size + 1) X (fun k e => .inr (.inr e)) (fun k e => .inl e)), by omega⟩)
    | ok v f t =>
      obtain ⟨hb8, A8, c8, Ac8, mc8, cc8, rfl, hx8, hm8, hi8, hc8, hv8⟩ := ho
      have HB8 := Lib.hid (below_step HB7.out HB7.out.size hb8)
      have hb9 := below_box w8 (Obj.cells #[.bool v.list, .int .i64 v.n, .slice A8 v.l.length c8, .int .i64 f, .slice Ac8 mc8 cc8, .int .i64 0] 82)
      have HO9 := Lib.hid (bx_new w8 #[.bool v.list, .int .i64 v.n, .slice A8 v.l.length c8, .int .i64 f, .slice Ac8 mc8 cc8, .int .i64 0] 82)
      have HB9 := Lib.hid (below_step HB8.out HB8.out.size hb9)
      have HA9 := Lib.hid ((HA7.out.below hb8).below hb9)
      have HC9 := Lib.hid ((HC7.out.below hb8).below hb9)
      have HX8 := Lib.hid hx8
      have HL9 := Lib.hid hb9
      have hlt8 : w.heap.size + 1 < w8.heap.size := by have := hb8.size; omega
      have HXX := Lib.hid (hx8.le (Le.below hb9 (fun _ _ e => e)))
      clear hb8 hb9 hx8 HA7 HC7 HB7 HN7
      go_upto_region 12 with fail
      generalize w8.alloc _ = W9 at HO9 HB9 HA9 HC9 HL9 HXX ⊢
      obtain ⟨a0, a1, a2, a3, _⟩ := HA9.out.four
      obtain ⟨⟨o0, o1, o2, o3, o4, o5⟩, p0, p1, p2, p3, p4, p5⟩ := HO9.out.six
      obtain ⟨⟨y0, y1, y2, y3, y4, y5⟩, f0, f1, f2, f3, f4, f5⟩ := HC9.out.six
      have HOK := Lib.hid (HE2.out v f t HOO.out)
      have HII := Lib.hid (hi8.le (Le.below HL9.out (X' := fun k => (X k ∨ k = w.heap.size ∨ k = w.heap.size + 1) ∨ k = w8.heap.size) (fun k hk e => e.resolve_right (by omega))))
      have HXY := Lib.hid (HX8.out.le (Le.below HL9.out (X' := fun k => (X k ∨ k = w.heap.size ∨ k = w.heap.size + 1) ∨ k = w8.heap.size) (fun k hk e => e.resolve_right (by omega))))
      have HLS := Lib.hid (HLI.out v f (F.toNat - 1) A8 c8 Ac8 mc8 cc8 _ W9 HII.out hc8 hv8 HXY.out hm8)
      clear hi8
      go_wp2_with fail
      refine HLS.out.mono ?_
      intro e w10 hl
      have HB10 := Lib.hid (below_step HB9.out HB9.out.size hl.1)
      have HC10 := Lib.hid (HC9.out.below hl.1)
      have HHL := Lib.hid hl
      obtain ⟨bl, n, A10, m10, c10, G10, Ac10, mc10, cc10, q10, rfl, _, _, _⟩ := retou_six hl
      clear y0 y1 y2 y3 y4 y5 f0 f1 f2 f3 f4 f5
      obtain ⟨⟨y0, y1, y2, y3, y4, y5⟩, f0, f1, f2, f3, f4, f5⟩ := HC10.out.six
      go_wp2_with fail
      have HF := Lib.hid (And.intro (HC10.out.set6 (.bool bl) (.int .i64 n) (.slice A10 m10 c10) (.int .i64 G10) (.slice Ac10 mc10 cc10) (.int .i64 q10)) (belowR6 HB10.out (Nat.le_add_right w.heap.size 1) (.bool bl) (.int .i64 n) (.slice A10 m10 c10) (.int .i64 G10) (.slice Ac10 mc10 cc10) (.int .i64 q10)))
      have HLE := Lib.hid (fun (Xa Xb : Nat → Prop) (h1 : ∀ k, k = w.heap.size + 1 → Xa k) (h2 : ∀ k, Xb k → Xa k) => Le.of_fr (X := Xa) (X' := Xb) (Fr.set6 w10 (w.heap.size + 1) (.bool bl) (.int .i64 n) (.slice A10 m10 c10) (.int .i64 G10) (.slice Ac10 mc10 cc10) (.int .i64 q10)) (fun k _ e => h1 k e) (fun k _ e => h2 k e))
      generalize World.setCell _ _ _ = WF at HF HLE ⊢
      obtain ⟨⟨g0, g1, g2, g3, g4, g5⟩, _⟩ := HF.out.1.six
      obtain ⟨cx, hcx⟩ := HOK.out
      exact bodyPost_ret (v := .agg #[.bool bl, .int .i64 n, .slice A10 m10 c10, .int .i64 G10, .slice Ac10 mc10 cc10, .int .i64 q10]) (by simp [results, Try.results25, go_sem, g0, g1, g2, g3, g4, g5]) rfl (by rw [hcx]; exact retou_pre (retou_move HHL.out (by omega) HF.out.2 (HLE.out _ X (fun k e => .inl (.inr (.inr e))) (fun k e => .inl (.inl e)))))
  · have HK0 : x.kind = 90 := hk
    have HLI : Hid (∀ (v : Vl) (f F : Nat) (A : Option Addr) (c : Nat) (Ac : Option Addr) (mc cc : Nat) (X : Nat → Prop) (w : World), IntsX w X A v.l → v.l.length ≤ c → v.l.length ≤ 1000000 → CxX w X Ac mc → mc + f ≤ F → Calls Try.prog 38 #[.int .u8 90, .agg #[.bool v.list, .int .i64 v.n, .slice A v.l.length c, .int .i64 f, .slice Ac mc cc, .int .i64 0]] w (RetOu (opO apR x [v] f) F X w)) := Lib.hid (fun v f F A c Ac mc cc X w h1 h2 h3 h4 h5 => by
      have := rlist_any x (by omega) v f F A c Ac mc cc X w h1 h2 h3 h4 h5
      rw [HK0] at this
      exact this)
    rw [HK0] at H2 HFS ⊢
    clear hk HK0 hkk
    go_enter Try.func25, Try.ntmps25
    go_upto_region 1 with fail
    generalize (w.alloc _).alloc _ = W at H2 ⊢
    obtain ⟨x0, x1, x2, x3, _⟩ := H2.out.1.four
    go_wp2_with fail
    refine (HFS.out W H2.out.2.2).mono ?_
    rintro e w7 ⟨hb7, Ay, cy, rfl, hn7⟩
    have HB7 := Lib.hid (below_step H2.out.2.2 H2.out.2.2.size hb7)
    have hlt7 : w.heap.size + 1 < w7.heap.size := by have := H2.out.2.1.lt; have := hb7.size; omega
    have HN7 := Lib.hid hn7
    have HA7 := Lib.hid (H2.out.1.below hb7)
    have HC7 := Lib.hid (H2.out.2.1.below hb7)
    clear hb7 hn7 x0 x1 x2 x3
    go_wp2_with fail
    refine (HR.out w7 Ay cy HB7.out hlt7 HN7.out).mono ?_
    intro e w8 ho
    cases o with
    | err k =>
      obtain ⟨hb8, hk8, bl, n, A8, m8, c8, G8, Ac8, mc8, cc8, rfl, hx8, hm8⟩ := ho
      have HB8 := Lib.hid (below_step HB7.out HB7.out.size hb8)
      have hb9 := below_box w8 (Obj.cells #[.bool bl, .int .i64 n, .slice A8 m8 c8, .int .i64 G8, .slice Ac8 mc8 cc8, .int .i64 k] 82)
      have HO9 := Lib.hid (bx_new w8 #[.bool bl, .int .i64 n, .slice A8 m8 c8, .int .i64 G8, .slice Ac8 mc8 cc8, .int .i64 k] 82)
      have HB9 := Lib.hid (below_step HB8.out HB8.out.size hb9)
      have HA9 := Lib.hid ((HA7.out.below hb8).below hb9)
      have HC9 := Lib.hid ((HC7.out.below hb8).below hb9)
      have HX8 := Lib.hid hx8
      have HL9 := Lib.hid hb9
      have hlt8 : w.heap.size + 1 < w8.heap.size := by have := hb8.size; omega
      have HXX := Lib.hid (hx8.le (Le.below hb9 (fun _ _ e => e)))
      clear hb8 hb9 hx8 HA7 HC7 HB7 HN7
      go_upto_region 12 with fail
      generalize w8.alloc _ = W9 at HO9 HB9 HA9 HC9 HL9 HXX ⊢
      obtain ⟨a0, a1, a2, a3, _⟩ := HA9.out.four
      obtain ⟨⟨o0, o1, o2, o3, o4, o5⟩, p0, p1, p2, p3, p4, p5⟩ := HO9.out.six
      obtain ⟨⟨y0, y1, y2, y3, y4, y5⟩, f0, f1, f2, f3, f4, f5⟩ := HC9.out.six
      have hne : (k != 0) = true := bne_iff_ne.2 hk8
      have HER := Lib.hid (HE1.out k HOO.out)
      have HK8 := Lib.hid hk8
      clear hk8
      go_wp2_with fail
      have HF := Lib.hid (And.intro (HC9.out.set6 (.bool bl) (.int .i64 n) (.slice A8 m8 c8) (.int .i64 G8) (.slice Ac8 mc8 cc8) (.int .i64 k)) (belowR6 HB9.out (Nat.le_add_right w.heap.size 1) (.bool bl) (.int .i64 n) (.slice A8 m8 c8) (.int .i64 G8) (.slice Ac8 mc8 cc8) (.int .i64 k)))
      have HLE := Lib.hid (fun (Xa Xb : Nat → Prop) (h1 : ∀ k, k = w.heap.size + 1 → Xa k) (h2 : ∀ k, Xb k → Xa k) => Le.of_fr (X := Xa) (X' := Xb) (Fr.set6 W9 (w.heap.size + 1) (.bool bl) (.int .i64 n) (.slice A8 m8 c8) (.int .i64 G8) (.slice Ac8 mc8 cc8) (.int .i64 k)) (fun k _ e => h1 k e) (fun k _ e => h2 k e))
      generalize World.setCell _ _ _ = WF at HF HLE ⊢
      obtain ⟨⟨g0, g1, g2, g3, g4, g5⟩, _⟩ := HF.out.1.six
      exact bodyPost_ret (v := .agg #[.bool bl, .int .i64 n, .slice A8 m8 c8, .int .i64 G8, .slice Ac8 mc8 cc8, .int .i64 k]) (by simp [results, Try.results25, go_sem, g0, g1, g2, g3, g4, g5]) rfl (by rw [HER.out]; exact ⟨HF.out.2, HK8.out, bl, n, A8, m8, c8, G8, Ac8, mc8, cc8, rfl, HXX.out.le (HLE.out (fun k => X k ∨ k = w.heap.size ∨ k = w.heap.size + 1) X (fun k e => .inr (.inr e)) (fun k e => .inl e)), by omega⟩)
    | ok v f t =>
      obtain ⟨hb8, A8, c8, Ac8, mc8, cc8, rfl, hx8, hm8, hi8, hc8, hv8⟩ := ho
      have HB8 := Lib.hid (below_step HB7.out HB7.out.size hb8)
      have hb9 := below_box w8 (Obj.cells #[.bool v.list, .int .i64 v.n, .slice A8 v.l.length c8, .int .i64 f, .slice Ac8 mc8 cc8, .int .i64 0] 82)
      have HO9 := Lib.hid (bx_new w8 #[.bool v.list, .int .i64 v.n, .slice A8 v.l.length c8, .int .i64 f, .slice Ac8 mc8 cc8, .int .i64 0] 82)
      have HB9 := Lib.hid (below_step HB8.out HB8.out.size hb9)
      have HA9 := Lib.hid ((HA7.out.below hb8).below hb9)
      have HC9 := Lib.hid ((HC7.out.below hb8).below hb9)
      have HX8 := Lib.hid hx8
      have HL9 := Lib.hid hb9
      have hlt8 : w.heap.size + 1 < w8.heap.size := by have := hb8.size; omega
      have HXX := Lib.hid (hx8.le (Le.below hb9 (fun _ _ e => e)))
      clear hb8 hb9 hx8 HA7 HC7 HB7 HN7
      go_upto_region 12 with fail
      generalize w8.alloc _ = W9 at HO9 HB9 HA9 HC9 HL9 HXX ⊢
      obtain ⟨a0, a1, a2, a3, _⟩ := HA9.out.four
      obtain ⟨⟨o0, o1, o2, o3, o4, o5⟩, p0, p1, p2, p3, p4, p5⟩ := HO9.out.six
      obtain ⟨⟨y0, y1, y2, y3, y4, y5⟩, f0, f1, f2, f3, f4, f5⟩ := HC9.out.six
      have HOK := Lib.hid (HE2.out v f t HOO.out)
      have HII := Lib.hid (hi8.le (Le.below HL9.out (X' := fun k => (X k ∨ k = w.heap.size ∨ k = w.heap.size + 1) ∨ k = w8.heap.size) (fun k hk e => e.resolve_right (by omega))))
      have HXY := Lib.hid (HX8.out.le (Le.below HL9.out (X' := fun k => (X k ∨ k = w.heap.size ∨ k = w.heap.size + 1) ∨ k = w8.heap.size) (fun k hk e => e.resolve_right (by omega))))
      have HLS := Lib.hid (HLI.out v f (F.toNat - 1) A8 c8 Ac8 mc8 cc8 _ W9 HII.out hc8 hv8 HXY.out hm8)
      clear hi8
      go_wp2_with fail
      refine HLS.out.mono ?_
      intro e w10 hl
      have HB10 := Lib.hid (below_step HB9.out HB9.out.size hl.1)
      have HC10 := Lib.hid (HC9.out.below hl.1)
      have HHL := Lib.hid hl
      obtain ⟨bl, n, A10, m10, c10, G10, Ac10, mc10, cc10, q10, rfl, _, _, _⟩ := retou_six hl
      clear y0 y1 y2 y3 y4 y5 f0 f1 f2 f3 f4 f5
      obtain ⟨⟨y0, y1, y2, y3, y4, y5⟩, f0, f1, f2, f3, f4, f5⟩ := HC10.out.six
      go_wp2_with fail
      have HF := Lib.hid (And.intro (HC10.out.set6 (.bool bl) (.int .i64 n) (.slice A10 m10 c10) (.int .i64 G10) (.slice Ac10 mc10 cc10) (.int .i64 q10)) (belowR6 HB10.out (Nat.le_add_right w.heap.size 1) (.bool bl) (.int .i64 n) (.slice A10 m10 c10) (.int .i64 G10) (.slice Ac10 mc10 cc10) (.int .i64 q10)))
      have HLE := Lib.hid (fun (Xa Xb : Nat → Prop) (h1 : ∀ k, k = w.heap.size + 1 → Xa k) (h2 : ∀ k, Xb k → Xa k) => Le.of_fr (X := Xa) (X' := Xb) (Fr.set6 w10 (w.heap.size + 1) (.bool bl) (.int .i64 n) (.slice A10 m10 c10) (.int .i64 G10) (.slice Ac10 mc10 cc10) (.int .i64 q10)) (fun k _ e => h1 k e) (fun k _ e => h2 k e))
      generalize World.setCell _ _ _ = WF at HF HLE ⊢
      obtain ⟨⟨g0, g1, g2, g3, g4, g5⟩, _⟩ := HF.out.1.six
      obtain ⟨cx, hcx⟩ := HOK.out
      exact bodyPost_ret (v := .agg #[.bool bl, .int .i64 n, .slice A10 m10 c10, .int .i64 G10, .slice Ac10 mc10 cc10, .int .i64 q10]) (by simp [results, Try.results25, go_sem, g0, g1, g2, g3, g4, g5]) rfl (by rw [hcx]; exact retou_pre (retou_move HHL.out (by omega) HF.out.2 (HLE.out _ X (fun k e => .inl (.inr (.inr e))) (fun k e => .inl (.inl e)))))

end Go.Proofs.Ytoankdaddgjnlaa
