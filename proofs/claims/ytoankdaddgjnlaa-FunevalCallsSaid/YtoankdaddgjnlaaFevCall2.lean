/-
  The contracts of funeval.Call and Trace.
-/
import Derived.Test.YtoankdaddgjnlaaFevStart
namespace Go.Proofs.Ytoankdaddgjnlaa
open Go.ChangeShapes Go.WideShapes Go.ChangeAt Go.RowKit Go.Sort Go.Maps

/-- .. the list is new, and can be written. -/
def RetCallN (o : OutT) (w : World) (e : Ending) (w' : World) : Prop :=
  Below w.heap.size w w' ∧
  ((∃ n, o = .err n ∧ n ≠ 0 ∧ e = .returned (.tuple #[.agg #[.bool false, .int .i64 0, .slice none 0 0], .int .i64 n])) ∨
  (∃ t f1, o = .ok t f1 ∧ t.res.l.length ≤ 1000000 ∧ ∃ A c, IntsC w' (Nw w w') A c t.res.l ∧ e = .returned (.tuple #[.agg #[.bool t.res.list, .int .i64 t.res.n, .slice A t.res.l.length c], .int .i64 0])))
/-- What funeval.Call returns. -/
def RetCall (o : OutT) (w : World) (e : Ending) (w' : World) : Prop :=
  Below w.heap.size w w' ∧
  ((∃ n, o = .err n ∧ n ≠ 0 ∧ e = .returned (.tuple #[.agg #[.bool false, .int .i64 0, .slice none 0 0], .int .i64 n])) ∨
  (∃ t f1, o = .ok t f1 ∧ t.res.l.length ≤ 1000000 ∧ ∃ A c, IntsC w' (fun k => k < w.heap.size) A c t.res.l ∧ e = .returned (.tuple #[.agg #[.bool t.res.list, .int .i64 t.res.n, .slice A t.res.l.length c], .int .i64 0])))

set_option maxRecDepth 100000 in
set_option maxHeartbeats 2000000 in
theorem evcall_anyN (lib : List Fn1) (A : Option Addr) (cap : Nat) (name : ByteArray) (args : List Vl) (Aa : Option Addr) (ca : Nat) (F : Int) (w : World) (hL : LibAt w A lib) (hF : LibFit lib) (hP : FewParams lib) (hN : FewNodes lib) (hV : VlsX w (fun _ => False) Aa args) (hvl : ∀ v ∈ args, v.l.length ≤ 1000000) (hal : args.length ≤ 1000000) (hFu : F ≤ 900000) :
    Calls Try.prog 6 #[.slice A lib.length cap, .string name, .slice Aa args.length ca, .int .i64 F] w (RetCallN (startR lib name args F) w) := by
  have b1 := below_box w (Obj.cells #[.bool false, .int .i64 0, .slice none 0 0] 28)
  have rb := bx_new w #[.bool false, .int .i64 0, .slice none 0 0] 28
  have HST := Lib.hid (start_any lib A cap name args Aa ca F false (fun _ => False) _ (hL.mono b1) hF hP hN (hV.le (Le.of_fr (X' := fun _ => False) (Fr.of_below b1 (fun _ => False)) (fun _ _ e => e) fun _ _ e => e)) (fun _ e => e.elim) hvl hal hFu)
  clear hL hV hvl
  go_enter Try.func6, Try.ntmps6
  go_wp2_with fail
  generalize w.alloc _ = W at b1 rb HST ⊢
  refine HST.out.mono ?_
  clear HST
  rintro e w6 ⟨hb6, h6⟩
  have q6 := Lib.hid (below_step b1 b1.size hb6)
  have rb6 := rb.below hb6
  have hrl := rb6.lt
  have hb1s := b1.size
  have hb6s := hb6.size
  have hrlW := rb.lt
  obtain ⟨y0, y1, y2, x0, x1, x2⟩ := rb6.three
  rcases h6 with ⟨n, ho, hn0, rfl⟩ | ⟨t, f1, ho, htl, cs, htc, hnr, rfl⟩
  · have HO := Lib.hid ho
    clear ho
    go_wp2_with fail
    have rbF := rb6.set3 (.bool false) (.int .i64 0) (.slice none 0 0)
    have qF := (Fr.set3 w6 w.heap.size (.bool false) (.int .i64 0) (.slice none 0 0)).toBelow q6.out q6.out.size (fun k e => by omega)
    generalize World.setCell _ _ _ = WF at rbF qF ⊢
    have bbF := below_box WF (Obj.cells #[.int .i64 0, .slice none 0 0, .bool false, .int .i64 0, .slice none 0 0, .slice none 0 0] 50)
    have rbG := rbF.below bbF
    have qG := below_step qF qF.size bbF
    generalize World.alloc _ _ = WG at rbG qG ⊢
    obtain ⟨s0, s1, s2, _⟩ := rbG.three
    exact bodyPost_ret (v := .tuple #[.agg #[.bool false, .int .i64 0, .slice none 0 0], .int .i64 n]) (by simp [results, Try.results6, go_sem, s0, s1, s2]) rfl ⟨qG, .inl ⟨n, HO.out, hn0, rfl⟩⟩
  · have HO := Lib.hid ho
    obtain ⟨Aa', ca', AL', cL', Ac', cc', rfl, _, hi6, _⟩ := htc
    obtain ⟨A9, m9, c9, e9, _, n9⟩ := hnr
    have i9 := n9 rfl
    clear n9
    have hA : AL' = A9 := by simp at e9; exact e9.1
    have hres : (trT false t).res = t.res := rfl
    subst hA
    rw [hres] at hi6 ⊢
    have HI := Lib.hid (And.intro hi6.1 i9)
    generalize (trT false t).args.length = na at *
    generalize (trT false t).calls.length = nk at *
    generalize (trT false t).func = tf at *
    clear ho e9 hi6 i9
    go_wp2_with fail
    have rbF := rb6.set3 (.bool t.res.list) (.int .i64 t.res.n) (.slice AL' t.res.l.length cL')
    have f7 := Fr.set3 w6 w.heap.size (.bool t.res.list) (.int .i64 t.res.n) (.slice AL' t.res.l.length cL')
    have qF := f7.toBelow q6.out q6.out.size (fun k e => by omega)
    have i10 := HI.out.2.le (Le.of_nw (w := w) f7 (fun k _ e => .inl (by omega)) (fun k _ e => .inl (by omega)) (fun k e => .inr e))
    generalize World.setCell _ _ _ = WF at rbF qF i10 ⊢
    have bbF := below_box WF (Obj.cells #[.int .i64 tf, .slice Aa' na ca', .bool t.res.list, .int .i64 t.res.n, .slice AL' t.res.l.length cL', .slice Ac' nk cc'] 50)
    have rbG := rbF.below bbF
    have qG := below_step qF qF.size bbF
    have i11 := i10.le (Le.of_nw (w := w) (Fr.of_below bbF (fun _ => False)) (fun _ _ e => e.elim) (fun _ _ e => .inl e) (fun _ e => .inr e))
    generalize World.alloc _ _ = WG at rbG qG i11 ⊢
    obtain ⟨s0, s1, s2, _⟩ := rbG.three
    exact bodyPost_ret (v := .tuple #[.agg #[.bool t.res.list, .int .i64 t.res.n, .slice AL' t.res.l.length cL'], .int .i64 0]) (by simp [results, Try.results6, go_sem, s0, s1, s2]) rfl ⟨qG, .inr ⟨t, f1, HO.out, htl, AL', cL', ⟨HI.out.1, i11⟩, rfl⟩⟩

theorem evcall_any (lib : List Fn1) (A : Option Addr) (cap : Nat) (name : ByteArray) (args : List Vl) (Aa : Option Addr) (ca : Nat) (F : Int) (w : World) (hL : LibAt w A lib) (hF : LibFit lib) (hP : FewParams lib) (hN : FewNodes lib) (hV : VlsX w (fun _ => False) Aa args) (hvl : ∀ v ∈ args, v.l.length ≤ 1000000) (hal : args.length ≤ 1000000) (hFu : F ≤ 900000) :
    Calls Try.prog 6 #[.slice A lib.length cap, .string name, .slice Aa args.length ca, .int .i64 F] w (RetCall (startR lib name args F) w) :=
  (evcall_anyN lib A cap name args Aa ca F w hL hF hP hN hV hvl hal hFu).mono fun _ _ h => ⟨h.1, by
    rcases h.2 with h | ⟨t, f1, h1, h2, A', c', h3, h4⟩
    · exact .inl h
    · exact .inr ⟨t, f1, h1, h2, A', c', h3.old, h4⟩⟩

set_option maxRecDepth 100000 in
set_option maxHeartbeats 2000000 in
theorem trace_anyX (S : Nat → Prop) (lib : List Fn1) (A : Option Addr) (cap : Nat) (name : ByteArray) (args : List Vl) (Aa : Option Addr) (ca : Nat) (F : Int) (w : World) (hS : ∀ k, S k → k < w.heap.size) (hL : LibAt w A lib) (hF : LibFit lib) (hP : FewParams lib) (hN : FewNodes lib) (hV : VlsX w S Aa args) (hvl : ∀ v ∈ args, v.l.length ≤ 1000000) (hal : args.length ≤ 1000000) (hFu : F ≤ 900000) :
    Calls Try.prog 10 #[.slice A lib.length cap, .string name, .slice Aa args.length ca, .int .i64 F] w (RetS (startR lib name args F) true S w) := by
  have b1 := below_box w (Obj.cells #[.int .i64 0, .slice none 0 0, .bool false, .int .i64 0, .slice none 0 0, .slice none 0 0] 50)
  have rb := bx_new w #[.int .i64 0, .slice none 0 0, .bool false, .int .i64 0, .slice none 0 0, .slice none 0 0] 50
  have HST := Lib.hid (start_any lib A cap name args Aa ca F true (fun k => S k ∨ k = w.heap.size) _ (hL.mono b1) hF hP hN (hV.le (Le.of_fr (X' := fun k => S k ∨ k = w.heap.size) (Fr.of_below b1 (fun _ => False)) (fun _ _ e => e.elim) fun k hk e => by
    rcases e with e | e
    · exact e
    · omega)) (fun k e => by
    rcases e with e | e
    · have := hS k e; simp; omega
    · rw [e]; simp) hvl hal hFu)
  clear hL hV hvl
  go_enter Try.func10, Try.ntmps10
  go_wp2_with fail
  generalize w.alloc _ = W at b1 rb HST ⊢
  refine HST.out.mono ?_
  clear HST
  rintro e w6 ⟨hb6, h6⟩
  have q6 := Lib.hid (below_step b1 b1.size hb6)
  have rb6 := rb.below hb6
  have hrl := rb6.lt
  have hb1s := b1.size
  have hb6s := hb6.size
  have hrlW := rb.lt
  obtain ⟨⟨y0, y1, y2, y3, y4, y5⟩, x0, x1, x2, x3, x4, x5⟩ := rb6.six
  rcases h6 with ⟨n, ho, hn0, rfl⟩ | ⟨t, f1, ho, htl, cs, htc, hnr, rfl⟩
  · have HO := Lib.hid ho
    clear ho
    go_wp2_with fail
    have rbF := rb6.set6 (.int .i64 0) (.slice none 0 0) (.bool false) (.int .i64 0) (.slice none 0 0) (.slice none 0 0)
    have qF := (Fr.set6 w6 w.heap.size (.int .i64 0) (.slice none 0 0) (.bool false) (.int .i64 0) (.slice none 0 0) (.slice none 0 0)).toBelow q6.out q6.out.size (fun k e => by omega)
    generalize World.setCell _ _ _ = WF at rbF qF ⊢
    obtain ⟨⟨s0, s1, s2, s3, s4, s5⟩, _⟩ := rbF.six
    exact bodyPost_ret (v := .tuple #[.agg #[.int .i64 0, .slice none 0 0, .bool false, .int .i64 0, .slice none 0 0, .slice none 0 0], .int .i64 n]) (by simp [results, Try.results10, go_sem, s0, s1, s2, s3, s4, s5]) rfl (RetS.err qF hn0 true HO.out)
  · have HO := Lib.hid ho
    obtain ⟨Aa', ca', AL', cL', Ac', cc', rfl, _, _, _⟩ := id htc
    have HTC := Lib.hid htc
    have HNR := Lib.hid hnr
    generalize hta : (trT true t).args.length = na at *
    generalize htk : (trT true t).calls.length = nk at *
    generalize htf : (trT true t).func = tf at *
    generalize htb : (trT true t).res.list = tb at *
    generalize htn : (trT true t).res.n = tn at *
    generalize hts : (trT true t).res.l.length = tl at *
    clear htc hnr ho
    go_wp2_with fail
    have f7 := Fr.set6 w6 w.heap.size (.int .i64 tf) (.slice Aa' na ca') (.bool tb) (.int .i64 tn) (.slice AL' tl cL') (.slice Ac' nk cc')
    have rbF := rb6.set6 (.int .i64 tf) (.slice Aa' na ca') (.bool tb) (.int .i64 tn) (.slice AL' tl cL') (.slice Ac' nk cc')
    have qF := f7.toBelow q6.out q6.out.size (fun k e => by omega)
    have tc7 := TrC.le (Le.of_fr (X' := S) f7 (fun k _ e => .inr e) fun _ _ e => .inl e) _ _ HTC.out
    obtain ⟨A9, m9, c9, e9, i9, _⟩ := HNR.out
    have i10 := i9.le (X' := fun k => k < w.heap.size) (Le.of_fr f7 (fun k _ e => by show k < W.heap.size; omega) fun k _ e => (show k < W.heap.size from by have : k < w.heap.size := e; omega))
    generalize World.setCell _ _ _ = WF at rbF qF tc7 i10 ⊢
    obtain ⟨⟨s0, s1, s2, s3, s4, s5⟩, _⟩ := rbF.six
    exact bodyPost_ret (v := .tuple #[.agg #[.int .i64 tf, .slice Aa' na ca', .bool tb, .int .i64 tn, .slice AL' tl cL', .slice Ac' nk cc'], .int .i64 0]) (by simp [results, Try.results10, go_sem, s0, s1, s2, s3, s4, s5]) rfl ⟨qF, .inr ⟨t, f1, HO.out, htl, _, tc7, ⟨A9, m9, c9, e9, i10, fun e => (by cases e)⟩, rfl⟩⟩

theorem trace_any (lib : List Fn1) (A : Option Addr) (cap : Nat) (name : ByteArray) (args : List Vl) (Aa : Option Addr) (ca : Nat) (F : Int) (w : World) (hL : LibAt w A lib) (hF : LibFit lib) (hP : FewParams lib) (hN : FewNodes lib) (hV : VlsX w (fun _ => False) Aa args) (hvl : ∀ v ∈ args, v.l.length ≤ 1000000) (hal : args.length ≤ 1000000) (hFu : F ≤ 900000) :
    Calls Try.prog 10 #[.slice A lib.length cap, .string name, .slice Aa args.length ca, .int .i64 F] w (RetS (startR lib name args F) true (fun _ => False) w) :=
  trace_anyX (fun _ => False) lib A cap name args Aa ca F w (fun _ e => e.elim) hL hF hP hN hV hvl hal hFu

end Go.Proofs.Ytoankdaddgjnlaa
