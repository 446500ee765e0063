/-
  Normalized libraries in memory.
  anf.Normalize.
-/
import Derived.Test.YtcoeakdpcigogaaDoorAnfNrm
import Derived.Test.YtcoeakdpcigogaaDoorFunValid
namespace Go.Proofs.YtcoeakdpcigogaaDoor
open Go.ChangeShapes Go.WideShapes Go.ChangeAt Go.RowKit Go.Sort Go.Maps

theorem AfC.le {w w' : World} {X X' : Nat → Prop} (_hz : w.heap.size ≤ w'.heap.size) (hX : ∀ k, k < w.heap.size → X' k → X k) (hl : Le w X w' X') {cs : List Value} {f : Af} (h : AfC w X cs f) : AfC w' X' cs f := by
  obtain ⟨Ap, cp, At, ct, Ab, cb, e, h1, h2, h3⟩ := h
  exact ⟨Ap, cp, At, ct, Ab, cb, e, h1.le hl hX, h2.le hl hX, h3.le hl⟩
theorem AfC.below {w w' : World} (hb : Below w.heap.size w w') (cs : List Value) (f : Af) (h : AfC w (fun _ => False) cs f) : AfC w' (fun _ => False) cs f := h.le hb.size (fun _ _ e => e) (Le.belowA hb fun _ _ e => e)
theorem AfC.len {w : World} {X : Nat → Prop} (cs : List Value) (f : Af) (h : AfC w X cs f) : cs.length = 6 := by
  obtain ⟨Ap, cp, At, ct, Ab, cb, rfl, _⟩ := h; rfl
theorem AfC.one {w : World} {X : Nat → Prop} (cs : List Value) (f : Af) (h : AfC w X cs f) : ∀ u ∈ cs, u.oneCell' = true := by
  obtain ⟨Ap, cp, At, ct, Ab, cb, rfl, _⟩ := h
  intro u hu
  simp at hu
  rcases hu with rfl | rfl | rfl | rfl | rfl | rfl <;> rfl
/-- A library of normalized functions. -/
def AfsAt (w : World) (A : Option Addr) (l : List Af) : Prop := ∀ k f, l[k]? = some f → ∃ b o cs, A = some ⟨b, o, none⟩ ∧ AfC w (fun _ => False) cs f ∧ ∀ j u, cs[j]? = some u → w.cell? ⟨b, o + k * 6 + j, none⟩ = some u
theorem AfsAt.below {w w' : World} {A : Option Addr} {l : List Af} (h : AfsAt w A l) (hb : Below w.heap.size w w') : AfsAt w' A l := fun k f hk => by
  obtain ⟨b, o, cs, e, h1, h2⟩ := h k f hk
  exact ⟨b, o, cs, e, AfC.below hb cs f h1, fun j u hu => below_cell hb (h2 j u hu)⟩
theorem AfsAt.nil (w : World) (A : Option Addr) : AfsAt w A [] := fun k x hk => by simp at hk
theorem afs_of_own {w : World} {base : Nat} {e : TypeId} {v : Value} {cs : List Value} {l : List Af} (h : w.ownsRow base e 6 v l.length cs) (hr : RowG (AfC w fun _ => False) cs l) : ∃ A c, v = .slice A l.length c ∧ AfsAt w A l := by
  rcases id h.2 with ⟨rfl, h0⟩ | ⟨g, cap, cur, rfl, hg, hh, hc1, hc2, hc3, hc4⟩
  · refine ⟨none, 0, by rw [h0], fun k x hk => ?_⟩
    have : l = [] := List.length_eq_zero_iff.1 h0
    subst this; simp at hk
  · refine ⟨some ⟨g, 0, none⟩, cap, rfl, fun k x hk => ?_⟩
    obtain ⟨c6, h3, h4⟩ := hr.get AfC.len k x hk
    refine ⟨g, 0, c6, rfl, h3, fun j u hu => ?_⟩
    have hj : j < 6 := by have := (List.getElem?_eq_some_iff.1 hu).1; rw [AfC.len _ _ h3] at this; exact this
    have hlen := hr.len AfC.len
    have hlt : k * 6 + j < cs.length := by
      have := (List.getElem?_eq_some_iff.1 hk).1; omega
    have := h.cells (g := g) rfl (k * 6 + j) _ (List.getElem?_eq_getElem hlt)
    rw [add0] at this
    rw [Nat.zero_add, this, ← List.getElem?_eq_getElem hlt, h4 j hj, hu]
theorem info_af : (Tryd.prog.info? 39).map (fun i => (i.zero, i.size, i.bytes)) = some (some (.agg #[.string ⟨#[]⟩, .slice none 0 0, .bool false, .slice none 0 0, .slice none 0 0, .string ⟨#[]⟩]), 6, 112) := by kernel_rfl

/-! ### What validity gives -/
theorem envP_F (l : List Pm) : envF l = fun q => (envP l q).map Pm.list := by
  unfold envP envF
  have key : ∀ (l : List Pm) (e1 : ByteArray → Option Bool) (e2 : ByteArray → Option Pm), (e1 = fun q => (e2 q).map Pm.list) → (l.foldl (fun env p => setE env p.name (some p.list)) e1) = fun q => ((l.foldl (fun env p => setP env p.name (some p)) e2) q).map Pm.list := by
    intro l
    induction l with
    | nil => intro e1 e2 h; exact h
    | cons p r ih =>
      intro e1 e2 h
      rw [List.foldl_cons, List.foldl_cons]
      refine ih _ _ ?_
      funext q
      unfold setE setP
      by_cases hq : q = p.name
      · rw [if_pos hq, if_pos hq]; rfl
      · rw [if_neg hq, if_neg hq, h]
  exact key l _ _ rfl
/-- What normalize needs of a function of a valid library. -/
theorem nr_need {lib : List Fn1} (hv : (validR lib).2 = 0) {i : Nat} {f : Fn1} (hf : lib[i]? = some f) : formT f.body = true ∧ arT lib f.body = true ∧ nsT f.body (fun q => (envP f.params q).isSome) = true ∧ sizeT f.body ≤ 20000 ∧ f.params.length ≤ 10000 := by
  obtain ⟨_, _, _, h4, h5, _, h7, h8⟩ := one_facts (valid_facts hv hf)
  have hc : (chkT lib f.body (envF f.params)).2 = 0 := by rw [h8]
  refine ⟨h5, chk_ar lib f.body _ hc, ?_, by omega, ?_⟩
  · have := chk_ns lib f.body _ hc
    rw [envP_F] at this
    rw [← this]
    congr 1
    funext q
    show (envP f.params q).isSome = (Option.map Pm.list (envP f.params q)).isSome
    rw [Option.isSome_map]
  · unfold paramE at h4
    by_cases h : 8 < f.params.length
    · rw [if_pos h] at h4; cases h4
    · omega
def normL (lib : List Fn1) : List Af := lib.map (normF lib)
theorem normL_step {lib : List Fn1} {k : Nat} (h : k < lib.length) : (normL lib).take (k + 1) = (normL lib).take k ++ [normF lib lib[k]] := by
  unfold normL
  rw [List.take_succ_eq_append_getElem (by simpa using h), List.getElem_map]

/-- The functions so far. -/
def NzR (w1 wr : World) (v : Value) (l : List Af) : Prop := Below w1.heap.size w1 wr ∧ ∃ cs, wr.ownsRow w1.heap.size 39 6 v l.length cs ∧ RowG (AfC wr fun k => v.ownBlock = some k) cs l
theorem NzR.start (w : World) : NzR w w (.slice none 0 0) [] := ⟨Below.refl _ _, [], ⟨rfl, .inl ⟨rfl, rfl⟩⟩, .nil⟩
theorem NzR.push {w1 wr W w5 w9 : World} {v v' : Value} {l : List Af} {f : Af} {cs c6 : List Value} {o : Obj} (hb1 : Below w1.heap.size w1 wr) (ho : wr.ownsRow w1.heap.size 39 6 v l.length cs) (hr : RowG (AfC wr fun k => v.ownBlock = some k) cs l) (hbW : Below wr.heap.size wr W) (hb5 : Below W.heap.size W w5) (hc : AfC w5 (fun k => k < W.heap.size) c6 f)
    (hown' : w9.ownsRow w1.heap.size 39 6 v' (l.length + 1) (cs ++ c6)) (hg : (w5.alloc o).grownBy w9 v.ownBlock) (hat : v'.ownBlock = v.ownBlock ∨ v'.ownBlock = some (w5.alloc o).heap.size) : NzR w1 w9 v' (l ++ [f]) := by
  have hlt := fun g e => (ho.lt g e).2
  have hge := fun g e => (own_ty ho g e).1
  have hsW := hbW.size
  have hs5 := hb5.size
  have hso : (w5.alloc o).heap.size = w5.heap.size + 1 := by simp
  have f5 : Fr w5 w9 (fun k => some k = v.ownBlock) := (Fr.of_below (below_box w5 o) _).trans (Fr.of_grown hg) fun _ _ e => e
  have f9 : Fr wr w9 (fun k => some k = v.ownBlock) := ((Fr.of_below hbW (fun k => some k = v.ownBlock)).trans (Fr.of_below hb5 _) fun _ _ e => e).trans f5 fun _ _ e => e
  have hs9 := f9.size
  refine ⟨f9.toBelow hb1 hb1.size fun k e => hge k e.symm, cs ++ c6, by rw [List.length_append]; exact hown', .snoc (hr.map fun c x h => h.le hs9 (fun k hk e => ?_) (Le.of_fr f9 (fun k _ e => e.symm) fun k hk e => ?_)) (hc.le f5.size (fun k hk e => ?_) (Le.of_fr f5 (fun k _ e => ?_) fun k hk e => ?_))⟩
  all_goals
    first
      | (have := hlt k e.symm; show k < W.heap.size; omega)
      | (rcases hat with q | q
         · first
             | exact q ▸ e
             | (have := hlt k (q ▸ e); show k < W.heap.size; omega)
         · rw [q] at e; cases e; omega)
theorem NzR.done {w1 wr : World} {v : Value} {l : List Af} (h : NzR w1 wr v l) : ∃ A c, v = .slice A l.length c ∧ AfsAt wr A l := by
  obtain ⟨_, cs, ho, hr⟩ := h
  exact afs_of_own ho (hr.map fun c x h => h.le (Nat.le_refl _) (fun _ _ e => e.elim) (Le.less fun _ _ e => e.elim))
theorem NzR.form {w1 wr : World} {v : Value} {l : List Af} (h : NzR w1 wr v l) : ∃ A c, v = .slice A l.length c := by
  obtain ⟨_, cs, ho, hr⟩ := h
  obtain ⟨A, c, e, _⟩ := own_formB ho
  exact ⟨A, c, e⟩

end Go.Proofs.YtcoeakdpcigogaaDoor

namespace Go.Proofs.YtcoeakdpcigogaaDoor
open Go.ChangeShapes Go.WideShapes Go.ChangeAt Go.RowKit Go.Sort Go.Maps

def RetNz (lib : List Fn1) (w : World) (e : Ending) (w' : World) : Prop := Below w.heap.size w w' ∧ (((validR lib).2 ≠ 0 ∧ e = .returned (.tuple #[.slice none 0 0, .int .i64 (validR lib).2])) ∨ ((validR lib).2 = 0 ∧ ∃ A c, e = .returned (.tuple #[.slice A lib.length c, .int .i64 0]) ∧ AfsAt w' A (normL lib)))

set_option maxRecDepth 100000 in
set_option maxHeartbeats 2000000 in
theorem Normalize_any {w : World} (hW : Wld w) {lib : List Fn1} {A : Option Addr} {cap : Nat} (hL : LibAt w A lib) (hF : LibFit lib) (hP : FewParams lib) (hN : FewNodes lib) (hl8 : lib.length ≤ 1000) :
    Calls Tryd.prog 11 #[.slice A lib.length cap] w (RetNz lib w) := by
  have HVA := Lib.hid (valid_any lib A cap w hL hF hP hN)
  have HL := Lib.hid (And.intro hW (And.intro hL hF))
  clear hW hL hF hP hN
  go_enter Tryd.func11, Tryd.ntmps11
  go_wp2_with fail
  refine HVA.out.mono ?_
  clear HVA
  rintro e w1 ⟨rfl, hb1⟩
  by_cases hv : (validR lib).2 = 0
  rotate_left
  · have hne : ((validR lib).2 != 0) = true := by simpa using hv
    have HR := Lib.hid (show RetNz lib w (.returned (.tuple #[.slice none 0 0, .int .i64 (validR lib).2])) w1 from ⟨hb1, .inl ⟨hv, rfl⟩⟩)
    clear hb1 hv
    generalize (validR lib).2 = ev at hne HR ⊢
    generalize (validR lib).1 = ei
    go_wp2_with fail
    go_ret2
    exact HR.out
  · have hne : ((validR lib).2 != 0) = false := by rw [hv]; rfl
    have HB1 := Lib.hid hb1
    have HVV := Lib.hid hv
    generalize (validR lib).1 = ei
    rw [hv] at hne ⊢
    clear hb1 hv
    obtain ⟨i0, hi0, hz0, hz1, hz2⟩ := info_parts info_af
    have HI := Lib.hid (And.intro hi0 (And.intro hz0 (And.intro hz1 hz2)))
    clear hi0 hz0 hz1 hz2
    go_wp2_with fail
    go_loopw [6, 19] (fun v i wr => ∃ k : Nat, k ≤ lib.length ∧ i = .int .i64 k ∧ Hid (NzR w1 wr v ((normL lib).take k))) (fun _ i _ => lib.length - (intOf i).toNat)
    case atStart => exact ⟨0, by omega, rfl, Lib.hid (NzR.start w1)⟩
    case round =>
      obtain ⟨k, hk, rfl, hrow⟩ := hrel
      by_cases hin : k < lib.length
      · obtain ⟨hb, cs, ho, hr⟩ := hrow.out
        have HSTP := Lib.hid (normL_step hin)
        have hlen : ((normL lib).take k).length = k := by rw [List.length_take]; unfold normL; rw [List.length_map]; omega
        rw [hlen] at ho
        obtain ⟨Av, cv, rfl, hcv, hqq⟩ := own_formB ho
        clear hqq
        have HO := Lib.hid ho
        have HR := Lib.hid hr
        have HBR := Lib.hid hb
        have HBW := Lib.hid (below_step HB1.out HB1.out.size hb)
        obtain ⟨b, o, rfl, hfo⟩ := (HL.out.2.1.mono HBW.out).at_ hin
        have hget : lib[k]? = some lib[k] := List.getElem?_eq_getElem hin
        have HNE := Lib.hid (nr_need HVV.out hget)
        have HFI := Lib.hid (HL.out.2.2.2 k _ hget)
        generalize lib[k] = f at *
        have hlt := hfo.lt
        obtain ⟨c0, ⟨A1, cp1, c1, hps⟩, c2, hbody⟩ := hfo
        obtain ⟨A3, cp3, d0, d1, d2, d3, hks⟩ := hbody.open_
        have bx := bx_new wr #[.string f.name, .slice A1 f.params.length cp1, .bool f.list, .int .u8 f.body.kind, .int .i64 f.body.num, .string f.body.name, .slice A3 f.body.kids.length cp3] 55
        have HBX := Lib.hid (below_box wr (Obj.cells #[.string f.name, .slice A1 f.params.length cp1, .bool f.list, .int .u8 f.body.kind, .int .i64 f.body.num, .string f.body.name, .slice A3 f.body.kids.length cp3] 55))
        have HBF := Lib.hid (below_step HBW.out HBW.out.size HBX.out)
        have HPK := Lib.hid (And.intro (hps.mono HBX.out) (hks.mono HBX.out))
        have rk1 : (0 : Int) ≤ k := by omega
        clear hrow ho hr hb hget hps hks hbody
        go_upto_region 8 with fail
        clear c0 c1 c2 d0 d1 d2 d3
        have HFC := Lib.hid (normalize_any (cap := cap) (cp := cp1) (ck := cp3) (HL.out.1.below HBF.out) (HL.out.2.1.mono HBF.out) HL.out.2.2 HPK.out.1 HPK.out.2 HFI.out HNE.out.1 HNE.out.2.1 HNE.out.2.2.1 HNE.out.2.2.2.1 HNE.out.2.2.2.2)
        have HBX7 := Lib.hid bx
        clear bx
        generalize wr.alloc _ = W at HBX HBF HPK HFC HBX7 ⊢
        obtain ⟨a0, a1, a2, a3, a4, a5, a6⟩ := HBX7.out.seven
        have hlt7 := HBX7.out.lt
        go_wp2_with fail
        refine HFC.out.mono ?_
        clear HFC a0 a1 a2 a3 a4 a5 a6 hlt7
        rintro e w5 ⟨cs5, rfl, hc5, hb5⟩
        have HC5 := Lib.hid hc5
        have HB5 := Lib.hid hb5
        have hszs : w1.heap.size ≤ w5.heap.size := by have := HBR.out.size; have := HBX.out.size; have := hb5.size; omega
        obtain ⟨Ap5, cp5, At5, ct5, Ab5, cb5, rfl, _⟩ := hc5
        clear hb5
        go_wp2_with (at_builtin; go_loud (refine wpList_app _ rfl _ _ 25 rfl w1.heap.size 39 i0 (.agg #[.string ⟨#[]⟩, .slice none 0 0, .bool false, .slice none 0 0, .slice none 0 0, .string ⟨#[]⟩]) 6 112 Tryd.underlying25 HI.out.1 HI.out.2.1 HI.out.2.2.1 HI.out.2.2.2 rfl (by decide) (.slice Av k cv) k cs rfl (own_below HO.out (below_step (below_step HBX.out HBX.out.size HB5.out) (by have := HBX.out.size; have := HB5.out.size; omega) (below_box w5 _))) (some ⟨w5.heap.size, 0, none⟩) 1 1 [.string (normF lib f).name, .slice Ap5 (normF lib f).params.length cp5, .bool (normF lib f).list, .slice At5 (normF lib f).temps.length ct5, .slice Ab5 (normF lib f).body.length cb5, .string (normF lib f).result] rfl rfl (cells_newC w5 rfl _ _) (fun u hu => by simp at hu; rcases hu with rfl | rfl | rfl | rfl | rfl | rfl <;> rfl) (by unfold maxLen; omega) (by omega) (by simp; omega) ?_; intro v' w9 hown' hgrow hat))
        have hpu := NzR.push (l := (normL lib).take k) HBR.out (by rw [hlen]; exact HO.out) HR.out HBX.out HB5.out HC5.out (by rw [hlen]; exact hown') hgrow hat
        rw [← HSTP.out] at hpu
        exact ⟨⟨k + 1, by omega, by go_num, Lib.hid hpu⟩, by simp [intOf]; omega⟩
      · obtain rfl : k = lib.length := by omega
        have hnl : (normL lib).length = lib.length := by unfold normL; rw [List.length_map]
        rw [List.take_of_length_le (by omega)] at hrow
        obtain ⟨A5, c5, rfl, h5⟩ := hrow.out.done
        have HE := Lib.hid (show RetNz lib w (.returned (.tuple #[.slice A5 lib.length c5, .int .i64 0])) wr from ⟨below_step HB1.out HB1.out.size hrow.out.1, .inr ⟨HVV.out, A5, c5, rfl, h5⟩⟩)
        rw [hnl]
        clear hrow h5
        go_wp2_with fail
        go_ret2
        exact HE.out

end Go.Proofs.YtcoeakdpcigogaaDoor
