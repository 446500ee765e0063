/-
  The contracts of the reference's visible, result and Check.
-/
import Derived.Test.YtoankdaddgjnlaaFunAppG
import Derived.Test.YtoankdaddgjnlaaFunChk2
import Derived.Deep.DeepCutAuto
import Derived.Deep.CutBlock
namespace Go.Proofs.Ytoankdaddgjnlaa
open Go.ChangeShapes Go.WideShapes Go.ChangeAt Go.RowKit Go.Sort

theorem envF_hit {l : List Pm} {p : Pm} {s : ByteArray} (h : p.name = s) : envF (l ++ [p]) s = some p.list := by
  rw [envF_snoc]; unfold setE; rw [if_pos h.symm]
theorem envF_miss {l : List Pm} {p : Pm} {s : ByteArray} (h : p.name ≠ s) : envF (l ++ [p]) s = envF l s := by
  rw [envF_snoc]; unfold setE; rw [if_neg (fun e => h e.symm)]

set_option maxRecDepth 100000 in
set_option maxHeartbeats 1000000 in
theorem visible_any (l : List Pm) (A : Option Addr) (cap : Nat) (s : ByteArray) (w : World) (hP : PmsAt w A l) (hl : l.length ≤ 1000000) :
    Calls Try.prog 50 #[.slice A l.length cap, .string s] w fun e w' => e = .returned (.tuple #[.bool ((envF l s).getD false), .bool (envF l s).isSome]) ∧ w' = w := by
  have HP := Lib.hid hP
  clear hP
  go_enter Try.func50, Try.ntmps50
  go_wp2_with fail
  go_loop [6] (fun i => ∃ k : Nat, k ≤ l.length ∧ i = .int .i64 ((k : Int) - 1) ∧ Hid (envF l s = envF (l.take k) s)) (fun i => (intOf i + 1).toNat)
  case atStart => exact ⟨l.length, by omega, rfl, by rw [List.take_length]; exact rfl⟩
  case round =>
    obtain ⟨k, hk, rfl, hz⟩ := hrel
    by_cases h0 : k = 0
    · subst h0
      have hz' := Lib.hid (show envF l s = none by rw [hz.out]; rfl)
      clear hz
      go_wp2_with fail
      go_ret2
      exact ⟨by rw [hz'.out]; rfl, rfl⟩
    · obtain ⟨m, rfl⟩ : ∃ m, k = m + 1 := ⟨k - 1, by omega⟩
      have hin : m < l.length := by omega
      have e1 : ((m + 1 : Nat) : Int) - 1 = m := by omega
      rw [e1]
      clear e1
      obtain ⟨b, o, rfl, c0, c1⟩ := HP.out.at_ hin
      have htk := List.take_succ_eq_append_getElem hin
      rw [htk] at hz
      generalize l[m] = p at *
      clear htk h0
      have hlt := block_lt_of_cell c0
      have r1 : (0 : Int) ≤ m := by omega
      have r2 : (m : Int) < l.length := by omega
      cases hpz : (p.name.toList == s.toList) with
      | true =>
        have hz' := Lib.hid (hz.out.trans (envF_hit (eqS_iff.1 hpz)))
        clear hz
        go_wp2_with fail
        go_ret2
        exact ⟨by rw [hz'.out]; rfl, rfl⟩
      | false =>
        have hz' := Lib.hid (hz.out.trans (envF_miss (fun e => by rw [eqS_iff.2 e] at hpz; cases hpz)))
        clear hz
        go_wp2_with fail
        exact ⟨⟨m, by omega, rfl, hz'⟩, by simp [intOf]⟩

set_option maxRecDepth 100000 in
theorem rresult_any (a b : Bool) (w : World) :
    Calls Try.prog 51 #[.bool a, .bool b] w fun e w' => e = .returned (.tuple #[.bool (a && b), .int .i64 (if b = true then 0 else 7)]) ∧ w = w' := by
  cases b
  all_goals
    go_enter Try.func51, Try.ntmps51
    go_wp2_with fail
    go_ret2
    exact ⟨by cases a <;> rfl, rfl⟩

theorem rresult_s (a b : Bool) (w : World) : Calls Try.prog 51 #[.bool a, .bool b] w fun e w' => e = .returned (.tuple #[.bool (a && b), .int .i64 (if b = true then 0 else 7)]) ∧ w' = w :=
  (rresult_any a b w).mono fun _ _ ⟨h1, h2⟩ => ⟨h1, h2.symm⟩
/-- The cells of parameters. -/
def pCells (l : List Pm) : List Value := l.flatMap fun p => [.string p.name, .bool p.list]
theorem pCells_len (l : List Pm) : (pCells l).length = l.length * 2 := by
  unfold pCells
  induction l with
  | nil => rfl
  | cons p r ih => rw [List.flatMap_cons, List.length_append, ih]; simp; omega
theorem pCells_snoc (l : List Pm) (p : Pm) : pCells (l ++ [p]) = pCells l ++ [.string p.name, .bool p.list] := by
  unfold pCells; rw [List.flatMap_append]; simp
theorem pCells_get : ∀ (l : List Pm) (k : Nat) (p : Pm), l[k]? = some p → (pCells l)[k * 2]? = some (.string p.name) ∧ (pCells l)[k * 2 + 1]? = some (.bool p.list)
  | [], k, p, h => by simp at h
  | q :: r, 0, p, h => by simp at h; subst h; unfold pCells; simp
  | q :: r, k + 1, p, h => by
    have := pCells_get r k p (by simpa using h)
    have e : pCells (q :: r) = [.string q.name, .bool q.list] ++ pCells r := by unfold pCells; simp
    rw [e, List.getElem?_append_right (by simp; omega), List.getElem?_append_right (by simp; omega)]
    have e1 : (k + 1) * 2 - [Value.string q.name, Value.bool q.list].length = k * 2 := by simp; omega
    have e2 : (k + 1) * 2 + 1 - [Value.string q.name, Value.bool q.list].length = k * 2 + 1 := by simp; omega
    rw [e1, e2]; exact this
theorem pCells_one (l : List Pm) : ∀ u ∈ pCells l, u.oneCell' = true := by
  intro u hu
  unfold pCells at hu
  obtain ⟨p, _, h⟩ := List.mem_flatMap.1 hu
  simp at h
  rcases h with rfl | rfl <;> rfl
theorem PmsAt.cells {w : World} {A : Option Addr} {l : List Pm} (h : PmsAt w A l) : CellsAt w A (pCells l) := fun j u hu => by
  have hj : j < (pCells l).length := (List.getElem?_eq_some_iff.1 hu).1
  rw [pCells_len] at hj
  have hk : j / 2 < l.length := by omega
  obtain ⟨b, o, e, c0, c1⟩ := h.at_ hk
  obtain ⟨g0, g1⟩ := pCells_get l (j / 2) _ (List.getElem?_eq_getElem hk)
  refine ⟨b, o, e, ?_⟩
  by_cases h2 : j % 2 = 0
  · have hj2 : j = j / 2 * 2 := by omega
    rw [hj2, g0] at hu
    rw [hj2, c0]; exact hu
  · have hj2 : j = j / 2 * 2 + 1 := by omega
    rw [hj2, g1] at hu
    rw [hj2, ← Nat.add_assoc, c1]; exact hu
theorem pms_of_own {w : World} {base : Nat} {e : TypeId} {v : Value} {l : List Pm} (h : w.ownsRow base e 2 v l.length (pCells l)) : ∃ A c, v = .slice A l.length c ∧ PmsAt w A l := by
  obtain ⟨h1, h2⟩ := id h
  rcases h2 with ⟨rfl, h0⟩ | ⟨g, cap, cur, rfl, hg, hh, hc1, hc2, hc3, hc4⟩
  · refine ⟨none, 0, by rw [h0], fun k x hk => ?_⟩
    have : l = [] := List.length_eq_zero_iff.1 h0
    subst this; simp at hk
  · refine ⟨some ⟨g, 0, none⟩, cap, rfl, fun k p hk => ⟨g, 0, rfl, ?_, ?_⟩⟩
    · have := h.cells (g := g) rfl _ _ (pCells_get l k p hk).1
      rw [add0] at this; simpa using this
    · have := h.cells (g := g) rfl _ _ (pCells_get l k p hk).2
      rw [add0] at this; simpa using this
theorem own_emptyP (w : World) {e : TypeId} {size : Nat} : (w.alloc (Obj.cells #[] e)).ownsRow w.heap.size e size (.slice (some ⟨w.heap.size, 0, none⟩) 0 0) 0 [] :=
  ⟨by simp, .inr ⟨w.heap.size, 0, #[], rfl, Nat.le_refl _, heap_alloc_new w _, Nat.le_refl _, by simp [maxLen], by simp, by simp⟩⟩
theorem info_param : (Try.prog.info? 44).map (fun i => (i.zero, i.size, i.bytes)) = some (some (.agg #[.string ⟨#[]⟩, .bool false]), 2, 24) := by kernel_rfl

theorem belowDrawnP {B : Nat} {W w : World} (h : RowKit.Below B W w) : RowKit.Below B W w.drew := h.trans ⟨rfl, rfl, rfl, Nat.le_refl _, fun _ _ => rfl⟩
theorem two_cells (w : World) (s : ByteArray) (b : Bool) (T : TypeId) : CellsAt (w.alloc (Obj.cells #[.string s, .bool b] T)).drew (some ⟨w.heap.size, 0, none⟩) [.string s, .bool b] := fun j u hj => by
  refine ⟨w.heap.size, 0, rfl, ?_⟩
  match j, hj with
  | 0, hj => simp at hj; subst hj; simp [go_sem]
  | 1, hj => simp at hj; subst hj; simp [go_sem]
  | j + 2, hj => simp at hj
theorem two_one (s : ByteArray) (b : Bool) : ∀ u ∈ [Value.string s, Value.bool b], u.oneCell' = true := by
  intro u hu; simp at hu; rcases hu with rfl | rfl <;> rfl
theorem pms_snoc {w : World} {base : Nat} {e : TypeId} {v : Value} {l : List Pm} {s : ByteArray} {b : Bool} (h : w.ownsRow base e 2 v (l.length + 1) (pCells l ++ [.string s, .bool b])) : ∃ A c, v = .slice A (l.length + 1) c ∧ PmsAt w A (l ++ [⟨s, b⟩]) := by
  have e1 : (l ++ [(⟨s, b⟩ : Pm)]).length = l.length + 1 := by simp
  have := pms_of_own (l := l ++ [⟨s, b⟩]) (w := w) (base := base) (e := e) (v := v) (by rw [e1, pCells_snoc]; exact h)
  rw [e1] at this
  exact this

def kidsK (k : Nat) : Option Nat := if k = 80 ∨ k = 81 ∨ k = 86 then some 0 else if k = 88 ∨ k = 89 ∨ k = 90 then some 1 else if k = 82 ∨ k = 84 ∨ k = 87 then some 2 else if k = 83 then some 3 else none
theorem form_kind {k : Nat} {m : Int} {s : ByteArray} {n : Nat} (h : formB k m s n = true) : 80 ≤ k ∧ k ≤ 90 := by
  rcases kind_cases k with e | e | e | e | e | e | e | e | e | e | e | e
  all_goals first | omega | skip
  unfold formB at h
  rw [if_neg (by omega), if_neg (by omega), if_neg (by omega), if_neg (by omega), if_neg (by omega), if_neg (by omega), if_neg (by omega), if_neg (by omega), if_neg (by omega)] at h
  simp at h
theorem form_lenK {k : Nat} {m : Int} {s : ByteArray} {n j : Nat} (h : formB k m s n = true) (hk : kidsK k = some j) : n = j := by
  rcases kind_cases k with rfl | rfl | rfl | rfl | rfl | rfl | rfl | rfl | rfl | rfl | rfl | e
  all_goals first | (simp [kidsK] at hk; done) | (simp [kidsK] at hk; simp [formB] at h; omega) | skip
  unfold kidsK at hk
  rw [if_neg (by omega), if_neg (by omega), if_neg (by omega), if_neg (by omega)] at hk
  cases hk

/-- What the first switch leaves. -/
def SwAt (lib : List Fn1) (vs : List Pm) (x : Nd) (fi : Int) (ow : Bool) : Prop :=
  reachE lib (envF vs) x = 0 ∧ (x.kind = 85 → fi = findF lib x.name 0) ∧ (x.kind = 81 → ow = (envF vs x.name).getD false)

set_option maxRecDepth 100000 in
set_option maxHeartbeats 4000000 in
theorem rchk_any (lib : List Fn1) (A : Option Addr) (cap : Nat) (hF : LibFit lib) (N : Nat) : ∀ (x : Nd), SizeOf.sizeOf x ≤ N → NdFit x → formT x = true → ∀ (vs : List Pm) (Av : Option Addr) (cv : Nat) (Ak : Option Addr) (ck : Nat) (w : World), LibAt w A lib → PmsAt w Av vs → NdsAt w Ak x.kids → vs.length + sizeT x ≤ 1000000 →
    Calls Try.prog 34 #[.slice A lib.length cap, .slice Av vs.length cv, .agg #[.int .u8 x.kind, .int .i64 x.num, .string x.name, .slice Ak x.kids.length ck]] w fun e w' => e = .returned (.tuple #[.bool (chkT lib x (envF vs)).1, .int .i64 (chkT lib x (envF vs)).2]) ∧ Below w.heap.size w w' := by
  induction N with
  | zero => intro x hx; exfalso; cases x; simp at hx
  | succ N ih =>
    intro x hx hfit hform vs Av cv Ak ck w hL hV hK hn
    obtain ⟨hf1, hf2, hf3, hf4⟩ := hfit.facts
    obtain ⟨hfb, hfl⟩ := formT_kids hform
    have hse := sizeT_eq x
    have hkl := len_le_sizeTL x.kids
    have hl := hF.1
    have hbW := below_box w (Obj.cells #[.int .u8 x.kind, .int .i64 x.num, .string x.name, .slice Ak x.kids.length ck] 41)
    have bx := Lib.hid (ndB_box w 41 x Ak ck hK)
    have HE := Lib.hid (chkT_eq lib x (envF vs))
    have HL := Lib.hid hL
    have HV := Lib.hid hV
    have HK := Lib.hid hK
    have HFB := Lib.hid hfb
    have HFL := Lib.hid hfl
    clear hL hV hK hfb hfl hform
    go_enter Try.func34, Try.ntmps34
    go_upto_block 0 with fail
    generalize w.alloc _ = W at hbW bx ⊢
    have HV1 := Lib.hid (HV.out.mono hbW)
    have HL1 := Lib.hid (HL.out.mono hbW)
    have hW1 : w.heap.size < W.heap.size := bx.out.lt
    have HBW := Lib.hid hbW
    clear hbW
    go_cut [8, 9] (fun f own wc => ∃ (fi : Int) (ow : Bool), f = .int .i64 fi ∧ own = .bool ow ∧ Hid (SwAt lib vs x fi ow) ∧ Below W.heap.size W wc)
    case first =>
      obtain ⟨b0, b1, b2, b3, _⟩ := bx.out
      rcases kind3 x.kind with ⟨k81, h⟩ | ⟨k81, k84, h⟩ | ⟨k81, k84, k85, h⟩ | ⟨k81, k84, k85, h⟩
      · have hre : reachE lib (envF vs) x = if (envF vs x.name).isSome = true then 0 else 6 := by unfold reachE; rw [if_pos h]
        have HRE := Lib.hid hre
        have HKI := Lib.hid h
        clear h hre
        go_wp2_with fail
        refine (visible_any vs Av cv x.name W HV1.out (by omega)).mono ?_
        rintro e W' ⟨rfl, rfl⟩
        cases hen : envF vs x.name with
        | none =>
          rw [hen] at HRE
          have hR := Lib.hid (show chkT lib x (envF vs) = (false, 6) by rw [HE.out, HRE.out]; rfl)
          go_wp2_with fail
          go_ret2
          exact ⟨by rw [hR.out]; rfl, HBW.out⟩
        | some ow =>
          rw [hen] at HRE
          go_wp2_with fail
          go_meet
          exact ⟨-1, ow, rfl, rfl, ⟨HRE.out, (fun e => by rw [HKI.out] at e; cases e), (fun _ => by rw [hen]; rfl)⟩, Below.refl _ _⟩
      · have hre : reachE lib (envF vs) x = if (envF vs x.name).isSome = true then 22 else 0 := by unfold reachE; rw [if_neg (by omega), if_pos h]
        have HRE := Lib.hid hre
        have HKI := Lib.hid h
        have k85 : ((x.kind : Int) == 85) = false := by rw [h]; rfl
        clear h hre
        go_wp2_with fail
        refine (visible_any vs Av cv x.name W HV1.out (by omega)).mono ?_
        rintro e W' ⟨rfl, rfl⟩
        cases hen : envF vs x.name with
        | none =>
          rw [hen] at HRE
          go_wp2_with fail
          go_meet
          exact ⟨-1, false, rfl, rfl, ⟨HRE.out, (fun e => by rw [HKI.out] at e; cases e), (fun e => by rw [HKI.out] at e; cases e)⟩, Below.refl _ _⟩
        | some ow =>
          rw [hen] at HRE
          have hR := Lib.hid (show chkT lib x (envF vs) = (false, 22) by rw [HE.out, HRE.out]; rfl)
          go_wp2_with fail
          go_ret2
          exact ⟨by rw [hR.out]; rfl, HBW.out⟩
      · have hre : reachE lib (envF vs) x = if findF lib x.name 0 < 0 then 6 else if x.kids.length ≠ ((lib[(findF lib x.name 0).toNat]?).map fun f => f.params.length).getD 0 then 7 else 0 := by unfold reachE; rw [if_neg (by omega), if_neg (by omega), if_pos h]
        have HRE := Lib.hid hre
        have HKI := Lib.hid h
        clear h hre
        go_wp2_with fail
        refine (rfind_any lib A cap x.name W HL1.out hl).mono ?_
        rintro e W' ⟨rfl, rfl⟩
        rcases findF_range x.name lib 0 with hfi | ⟨i, hi, hfi, hi', _⟩
        · rw [hfi] at HRE ⊢
          have hR := Lib.hid (show chkT lib x (envF vs) = (false, 6) by rw [HE.out, HRE.out]; rfl)
          go_wp2_with fail
          go_ret2
          exact ⟨by rw [hR.out]; rfl, HBW.out⟩
        · have hfi2 : findF lib x.name 0 = i := by rw [hfi]; omega
          rw [hfi2, if_neg (by omega), Int.toNat_natCast, List.getElem?_eq_getElem hi'] at HRE
          have HFI := Lib.hid hfi2
          rw [hfi2]
          obtain ⟨b, o, rfl, hfo⟩ := HL1.out.at_ hi'
          have hlt := hfo.lt
          obtain ⟨c0, ⟨A1, cp1, c1, hps⟩, c2, hbody⟩ := hfo
          clear c0 c2 hps hbody hfi hfi2
          have r0 : ¬ ((i : Int) < 0) := by omega
          have r1 : (0 : Int) ≤ i := by omega
          have r2 : (i : Int) < lib.length := by omega
          generalize lib[i] = g at *
          by_cases hlen : x.kids.length = g.params.length
          · have HRE0 := Lib.hid (show reachE lib (envF vs) x = 0 by rw [HRE.out, if_neg (fun h => h hlen)])
            have hne : ((x.kids.length : Int) != g.params.length) = false := by rw [hlen]; simp
            clear hlen HRE
            go_wp2_with fail
            go_quiet (fail)
            go_wp2_with fail
            go_meet
            exact ⟨i, false, rfl, rfl, ⟨HRE0.out, (fun _ => HFI.out.symm), (fun e => by rw [HKI.out] at e; cases e)⟩, ⟨rfl, rfl, rfl, Nat.le_refl _, fun _ _ => rfl⟩⟩
          · have hR := Lib.hid (show chkT lib x (envF vs) = (false, 7) by rw [HE.out, HRE.out]; simp [hlen])
            have hne : ((x.kids.length : Int) != g.params.length) = true := bne_iff_ne.2 (by omega)
            clear hlen HRE
            go_wp2_with fail
            go_quiet (fail)
            go_wp2_with fail
            go_ret2
            exact ⟨by rw [hR.out]; rfl, HBW.out.trans ⟨rfl, rfl, rfl, Nat.le_refl _, fun _ _ => rfl⟩⟩
      · have HRE := Lib.hid (show reachE lib (envF vs) x = 0 by unfold reachE; rw [if_neg h.1, if_neg h.2.1, if_neg h.2.2])
        have HKI := Lib.hid h
        clear h
        go_wp2_with fail
        go_meet
        exact ⟨-1, false, rfl, rfl, ⟨HRE.out, fun e => absurd e HKI.out.2.2, fun e => absurd e HKI.out.1⟩, Below.refl _ _⟩
    case rest =>
      obtain ⟨fi, ow, rfl, rfl, hSW, hbc⟩ := hcut
      have bxc := Lib.hid (bx.out.mono hbc)
      have q0 := Lib.hid (below_step HBW.out HBW.out.size hbc)
      have HLc := Lib.hid (HL1.out.mono hbc)
      have HVc := Lib.hid (HV1.out.mono hbc)
      have HE2 := Lib.hid (HE.out.trans (if_neg (fun h => h hSW.out.1)))
      have hWc : w.heap.size < wc.heap.size := bxc.out.lt
      clear HBW bx HL1 HV1 HE hbc
      obtain ⟨i0, hi0, hz0, hz1, hz2⟩ := info_parts info_bool
      have HI := Lib.hid (And.intro hi0 (And.intro hz0 (And.intro hz1 hz2)))
      obtain ⟨j0, hj0, hy0, hy1, hy2⟩ := info_parts info_param
      have HJ := Lib.hid (And.intro hj0 (And.intro hy0 (And.intro hy1 hy2)))
      clear hi0 hz0 hz1 hz2 hj0 hy0 hy1 hy2
      go_wp2_with fail
      go_loopw [14, 15] (fun v i wr => ∃ (k : Nat) (ts : List Bool), k ≤ x.kids.length ∧ ts.length = k ∧ i = .int .i64 k ∧ Hid (chkTL lib x.kids (envF vs) x.kind x.name 0 [] = chkTL lib (x.kids.drop k) (envF vs) x.kind x.name k ts) ∧ Hid (wr.ownsRow (w.heap.size + 1) 4 1 v k (ts.map Value.bool)) ∧ Hid (NdB wr w.heap.size x Ak ck) ∧ Hid (Below w.heap.size w wr)) (fun _ i _ => x.kids.length - (intOf i).toNat)
      case atStart => exact ⟨0, [], by omega, rfl, rfl, rfl, ⟨rfl, .inl ⟨rfl, rfl⟩⟩, bxc, q0⟩
      case round =>
        obtain ⟨k, ts, hk, hts, rfl, hz, hown, bxr, hbr⟩ := hrel
        have hsr : w.heap.size < wr.heap.size := bxr.out.lt
        obtain ⟨b0, b1, b2, b3, _⟩ := bxr.out
        by_cases hin : k < x.kids.length
        · have hz1 := Lib.hid (hz.out.trans (chkTL_step hin (envF vs) x.kind x.name ts))
          have hst := sizeTL_step hin
          have hsl := sizeTL_le (l := x.kids) (k + 1)
          obtain ⟨b, o, A', cap', rfl, hlt, c0, c1, c2, c3, hK0⟩ := (HK.out.mono hbr.out).kid hin
          have hget : x.kids[k]? = some x.kids[k] := List.getElem?_eq_getElem hin
          have hfy := hfit.kid hget
          have hoy := formTL_kid HFL.out hget
          have hszy := Nd.kid_lt hget
          generalize x.kids[k] = y at *
          have hny : sizeT y + 1 ≤ sizeT x := by omega
          have HK0 := Lib.hid hK0
          have HBR := Lib.hid hbr.out
          have hbE := Lib.hid (below_box wr (Obj.cells #[] 44))
          have HOWP := Lib.hid (own_emptyP wr (e := 44) (size := 2))
          have HPC := Lib.hid (((HV.out.mono hbr.out).mono hbE.out).cells)
          have HTS := Lib.hid hts
          clear hget hz hst hsl hK0 hts
          by_cases hbd : x.kind = 84 ∧ k = 1
          · obtain ⟨hk84, rfl⟩ := hbd
            obtain ⟨t0, rfl⟩ : ∃ t0, ts = [t0] := by
              match ts, HTS.out with
              | [a], _ => exact ⟨a, rfl⟩
            have hea : envAt x.kind x.name (envF vs) 1 [t0] = envF (vs ++ [⟨x.name, t0⟩]) := by unfold envAt; rw [if_pos ⟨hk84, rfl⟩, envF_snoc]; rfl
            rw [hea] at hz1
            have k1 : ((x.kind : Int) == 84) = true := by rw [hk84]; rfl
            obtain ⟨Av', cv', rfl, _, hgv⟩ := own_formB hown.out
            obtain ⟨gv, rfl, hgvge⟩ := hgv (by omega)
            have hc0 : wr.cell? ⟨gv, 0, none⟩ = some (.bool t0) := by have := hown.out.cellAt (g := gv) 0 (by omega); simpa using this
            clear hea hk84 hgv
            go_wp2_with (at_builtin; refine wpList_app _ rfl (.tmp 69) (.tmp 70) 45 rfl wr.heap.size 44 j0 (.agg #[.string ⟨#[]⟩, .bool false]) 2 24 Try.underlying45 HJ.out.1 HJ.out.2.1 HJ.out.2.2.1 HJ.out.2.2.2 rfl (by decide) _ 0 [] rfl HOWP.out Av vs.length cv (pCells vs) rfl (pCells_len vs) HPC.out (pCells_one _) (by unfold maxLen; omega) (by omega) hbE.out.size ?_; intro v5 w5 hown5 hgrow5 _; have q5 := Lib.hid (hbE.out.grown hgrow5 hbE.out.size (fun k hk => (by cases hk; exact Nat.le_refl _))); rw [Nat.zero_add, List.nil_append] at hown5; have HO5 := Lib.hid hown5; obtain ⟨A5, c5, rfl, hp5⟩ := pms_of_own hown5; have HP5 := Lib.hid hp5; have bx5 := Lib.hid (bxr.out.mono q5.out); have e0 := below_cell q5.out b0; have e1 := below_cell q5.out b1; have e2 := below_cell q5.out b2; have e3 := below_cell q5.out b3; have f0 := below_cell q5.out c0; have f1 := below_cell q5.out c1; have f2 := below_cell q5.out c2; have f3 := below_cell q5.out c3; have OWN5 := Lib.hid (own_below hown.out q5.out); have hz5 := q5.out.size; clear hown5 hgrow5 hp5)
            have g0 := below_cell q5.out hc0
            have hbN := Lib.hid (belowDrawnP (below_box w5 (Obj.cells #[.string x.name, .bool t0] 44)))
            have HO5a := Lib.hid (show (w5.alloc (Obj.cells #[.string x.name, .bool t0] 44)).drew.ownsRow wr.heap.size 44 2 (.slice A5 vs.length c5) vs.length (pCells vs) from HO5.out.alloc _)
            have HNEW := Lib.hid (show CellsAt (w5.alloc (Obj.cells #[.string x.name, .bool t0] 44)).drew (some ⟨w5.heap.size, 0, none⟩) [.string x.name, .bool t0] from two_cells w5 _ _ _)
            have S5b := Lib.hid (And.intro (below_cell hbN.out e2) (below_cell hbN.out g0))
            have HTW := Lib.hid (two_one x.name t0)
            go_region_held3 (fun w' => w'.cell? ⟨w.heap.size, 2, none⟩ = some (.string x.name) ∧ w'.cell? ⟨gv, 0, none⟩ = some (.bool t0)) (first | exact ⟨e2, g0⟩ | exact S5b.out | exact S6.out) ((refine step_app _ (by rfl) (.tmp 79) (.tmp 86) 45 (by rfl) wr.heap.size 44 j0 (.agg #[.string ⟨#[]⟩, .bool false]) 2 24 Try.underlying45 HJ.out.1 HJ.out.2.1 HJ.out.2.2.1 HJ.out.2.2.2 rfl (by decide) (.slice A5 vs.length c5) vs.length (pCells vs) (by simp [Act.eval]) HO5a.out (some ⟨w5.heap.size, 0, none⟩) 1 1 [.string x.name, .bool t0] (by simp [Act.eval]) rfl HNEW.out HTW.out (by unfold maxLen; omega) (by omega) (Nat.le_trans q5.out.size hbN.out.size) ?_; intro v6 w6 hown6 hgrow6 _; have q6 := Lib.hid ((below_step q5.out q5.out.size hbN.out).grown hgrow6 (Nat.le_trans q5.out.size hbN.out.size) (fun j hj => own_block_geB HO5.out j hj)); have S6 := Lib.hid (And.intro (below_cell q6.out b2) (below_cell q6.out hc0)); have HO6 := Lib.hid hown6; clear hown6 hgrow6))
            obtain ⟨A6, c6, rfl, hp6⟩ := pms_snoc HO6.out
            have bx6 := Lib.hid (bxr.out.mono q6.out)
            have OWN6 := Lib.hid (own_below hown.out q6.out)
            have HP6 := Lib.hid hp6
            clear e0 e1 e2 e3 f0 f1 f2 f3 hp6 HO6 S6 S5b g0 HO5 HO5a HNEW bx5 OWN5 HP5
            have e0 := below_cell q6.out b0
            have e1 := below_cell q6.out b1
            have e2 := below_cell q6.out b2
            have e3 := below_cell q6.out b3
            have f0 := below_cell q6.out c0
            have f1 := below_cell q6.out c1
            have f2 := below_cell q6.out c2
            have f3 := below_cell q6.out c3
            have hih := ih y (by omega) hfy hoy (vs ++ [⟨x.name, t0⟩]) A6 c6 A' cap' w6 ((HL.out.mono HBR.out).mono q6.out) HP6.out (HK0.out.mono q6.out) (by simp; omega)
            rw [show (vs ++ [(⟨x.name, t0⟩ : Pm)]).length = vs.length + 1 by simp] at hih
            have HIH := Lib.hid hih
            have hz6' := q6.out.size
            clear hih
            go_wp2_with fail
            refine HIH.out.mono ?_
            rintro e w6 ⟨rfl, hb7⟩
            have bx7' := Lib.hid (bx6.out.mono hb7)
            have OWN7' := Lib.hid (own_below OWN6.out hb7)
            have p6 := Lib.hid (below_step (below_step HBR.out HBR.out.size q6.out) (by have := HBR.out.size; omega) hb7)
            clear bx6 OWN6
            have bx6 := bx7'
            have OWN6 := OWN7'
            have hz6 : w.heap.size + 1 ≤ w6.heap.size := bx6.out.lt
            clear bx7' OWN7' hb7 e0 e1 e2 e3 f0 f1 f2 f3 q5 q6 HOWP HPC b0 b1 b2 b3 c0 c1 c2 c3 bxr hbE hbN HP6 HIH hc0 HTW
            by_cases her : (chkT lib y (envF (vs ++ [⟨x.name, t0⟩]))).2 = 0
            · have hz2 := Lib.hid (hz1.out.trans (if_neg (fun h => h her)))
              have her' : ((chkT lib y (envF (vs ++ [⟨x.name, t0⟩]))).2 != 0) = false := by rw [her]; rfl
              generalize (chkT lib y (envF (vs ++ [⟨x.name, t0⟩]))).1 = ty at *
              generalize (chkT lib y (envF (vs ++ [⟨x.name, t0⟩]))).2 = er at *
              clear her
              go_wp2_with (at_builtin; go_loud (refine wpList_append_own _ rfl (.tmp 102) (.tmp 104) 112 rfl (w.heap.size + 1) 4 i0 (.bool false) 1 1 Try.underlying112 HI.out.1 HI.out.2.1 HI.out.2.2.1 HI.out.2.2.2 rfl (by decide) _ 1 _ rfl (OWN6.out.alloc _) ⟨w6.heap.size, 0, none⟩ 1 1 [.bool ty] rfl rfl (one_newB rfl _ _) (one_bool _) (by unfold maxLen; omega) (by omega) (by simp; omega) ?_; intro v7 w7 hown7 hgrow7 _))
              have p7 : Below w.heap.size w w7 := (p6.out.alloc p6.out.size _).grown hgrow7 (by have := p6.out.size; simp; omega) (fun j hj => by have := own_block_geB OWN6.out j hj; omega)
              have bx7 : NdB w7 w.heap.size x _ ck := (bx6.out.mono (below_box w6 _)).grown hgrow7 (fun e => by have := own_block_geB OWN6.out _ e.symm; omega) (HK.out.mono p7)
              exact ⟨⟨1 + 1, [t0] ++ [ty], by omega, by have hh := HTS.out; rw [List.length_append, hh]; rfl, by go_num, hz2, Lib.hid (by rw [List.map_append]; exact hown7), Lib.hid bx7, Lib.hid p7⟩, by simp [intOf]; omega⟩
            · have hz2 := Lib.hid (hz1.out.trans (if_pos her))
              have her' : ((chkT lib y (envF (vs ++ [⟨x.name, t0⟩]))).2 != 0) = true := by simpa using her
              generalize (chkT lib y (envF (vs ++ [⟨x.name, t0⟩]))).1 = ty at *
              generalize (chkT lib y (envF (vs ++ [⟨x.name, t0⟩]))).2 = er at *
              have hR := Lib.hid (show chkT lib x (envF vs) = (false, er) by rw [HE2.out, hz2.out]; exact if_pos her)
              go_wp2_with fail
              go_ret2
              exact ⟨by rw [hR.out]; rfl, p6.out⟩
          · have hea : envAt x.kind x.name (envF vs) k ts = envF vs := by unfold envAt; rw [if_neg hbd]
            rw [hea] at hz1
            have hbb : ((x.kind : Int) == 84) = false ∨ (((x.kind : Int) == 84) = true ∧ ((k : Int) == 1) = false) := by
              by_cases h1 : x.kind = 84
              · exact .inr ⟨by rw [h1]; rfl, beqK (n := 1) (fun h => hbd ⟨h1, h⟩)⟩
              · exact .inl (beqK (n := 84) h1)
            clear hea hbd
            rcases hbb with k1 | ⟨k1, k2⟩
            all_goals
              go_wp2_with (at_builtin; refine wpList_app _ rfl (.tmp 69) (.tmp 70) 45 rfl wr.heap.size 44 j0 (.agg #[.string ⟨#[]⟩, .bool false]) 2 24 Try.underlying45 HJ.out.1 HJ.out.2.1 HJ.out.2.2.1 HJ.out.2.2.2 rfl (by decide) _ 0 [] rfl HOWP.out Av vs.length cv (pCells vs) rfl (pCells_len vs) HPC.out (pCells_one _) (by unfold maxLen; omega) (by omega) hbE.out.size ?_; intro v5 w5 hown5 hgrow5 _; have q5 := Lib.hid (hbE.out.grown hgrow5 hbE.out.size (fun k hk => (by cases hk; exact Nat.le_refl _))); rw [Nat.zero_add, List.nil_append] at hown5; have HO5 := Lib.hid hown5; obtain ⟨A5, c5, rfl, hp5⟩ := pms_of_own hown5; have HP5 := Lib.hid hp5; have bx5 := Lib.hid (bxr.out.mono q5.out); have e0 := below_cell q5.out b0; have e1 := below_cell q5.out b1; have e2 := below_cell q5.out b2; have e3 := below_cell q5.out b3; have f0 := below_cell q5.out c0; have f1 := below_cell q5.out c1; have f2 := below_cell q5.out c2; have f3 := below_cell q5.out c3; have OWN5 := Lib.hid (own_below hown.out q5.out); have hz5 := q5.out.size; clear hown5 hgrow5 hp5)
              refine (ih y (by omega) hfy hoy vs A5 c5 A' cap' w5 ((HL.out.mono HBR.out).mono q5.out) HP5.out (HK0.out.mono q5.out) (by omega)).mono ?_
              rintro e w6 ⟨rfl, hb6⟩
              have bx6 := Lib.hid (bx5.out.mono hb6)
              have OWN6 := Lib.hid (own_below OWN5.out hb6)
              have p6 := Lib.hid (below_step (below_step HBR.out HBR.out.size q5.out) (by have := HBR.out.size; omega) hb6)
              have hz6 : w.heap.size + 1 ≤ w6.heap.size := bx6.out.lt
              clear hb6 e0 e1 e2 e3 f0 f1 f2 f3 bx5 OWN5 HP5 HO5 q5 HOWP HPC b0 b1 b2 b3 c0 c1 c2 c3 bxr hbE
              by_cases her : (chkT lib y (envF vs)).2 = 0
              · have hz2 := Lib.hid (hz1.out.trans (if_neg (fun h => h her)))
                have her' : ((chkT lib y (envF vs)).2 != 0) = false := by rw [her]; rfl
                generalize (chkT lib y (envF vs)).1 = ty at *
                generalize (chkT lib y (envF vs)).2 = er at *
                clear her
                go_wp2_with (at_builtin; go_loud (refine wpList_append_own _ rfl (.tmp 102) (.tmp 104) 112 rfl (w.heap.size + 1) 4 i0 (.bool false) 1 1 Try.underlying112 HI.out.1 HI.out.2.1 HI.out.2.2.1 HI.out.2.2.2 rfl (by decide) _ k _ rfl (OWN6.out.alloc _) ⟨w6.heap.size, 0, none⟩ 1 1 [.bool ty] rfl rfl (one_newB rfl _ _) (one_bool _) (by unfold maxLen; omega) (by omega) (by simp; omega) ?_; intro v7 w7 hown7 hgrow7 _))
                have p7 : Below w.heap.size w w7 := (p6.out.alloc p6.out.size _).grown hgrow7 (by have := p6.out.size; simp; omega) (fun j hj => by have := own_block_geB OWN6.out j hj; omega)
                have bx7 : NdB w7 w.heap.size x _ ck := (bx6.out.mono (below_box w6 _)).grown hgrow7 (fun e => by have := own_block_geB OWN6.out _ e.symm; omega) (HK.out.mono p7)
                exact ⟨⟨k + 1, ts ++ [ty], by omega, by have hh := HTS.out; rw [List.length_append, hh]; rfl, by go_num, hz2, Lib.hid (by rw [List.map_append]; exact hown7), Lib.hid bx7, Lib.hid p7⟩, by simp [intOf]; omega⟩
              · have hz2 := Lib.hid (hz1.out.trans (if_pos her))
                have her' : ((chkT lib y (envF vs)).2 != 0) = true := by simpa using her
                generalize (chkT lib y (envF vs)).1 = ty at *
                generalize (chkT lib y (envF vs)).2 = er at *
                have hR := Lib.hid (show chkT lib x (envF vs) = (false, er) by rw [HE2.out, hz2.out]; exact if_pos her)
                go_wp2_with fail
                go_ret2
                exact ⟨by rw [hR.out]; rfl, p6.out⟩
        · have htl : ts.length = x.kids.length := by omega
          have hzf := Lib.hid (show chkTL lib x.kids (envF vs) x.kind x.name 0 [] = (ts, 0) by rw [hz.out, List.drop_of_length_le (by omega), chkTL])
          have HE3 := Lib.hid (show chkT lib x (envF vs) = if x.kind = 81 then ((envF vs x.name).getD false, 0) else resR lib x ts by rw [HE2.out, hzf.out]; rfl)
          clear hz hzf HE2
          have hown2 := hown.out
          rw [← hts] at hown2
          obtain ⟨Aw, cw, rfl, hbl⟩ := bls_of_own hown2
          have HBL := Lib.hid hbl
          have HTS := Lib.hid hts
          have HTL := Lib.hid htl
          have hfb := HFB.out
          clear hown hown2 hbl hts htl
          rcases kind_cases x.kind with h | h | h | h | h | h | h | h | h | h | h | h
          · have hln : ts.length = 0 := by rw [HTL.out]; exact form_lenK hfb (by rw [h]; rfl)
            obtain rfl : ts = [] := List.length_eq_zero_iff.1 hln
            have HE4 := Lib.hid (HE3.out.trans (if_neg (by omega)))
            have HR := Lib.hid (show chkT lib x (envF vs) = resQ [] ([], false) by rw [HE4.out]; unfold resR wantR; rw [if_neg (by omega), if_neg (by omega), if_neg (by omega), if_neg (by omega), if_neg (by omega), if_neg (by omega), if_neg (by omega), if_neg (by omega)] <;> rfl)
            have k80 : ((x.kind : Int) == 80) = true := by rw [h]; rfl
            clear h hln hfb
            go_wp2_with fail
            go_ret2
            exact ⟨by rw [HR.out]; rfl, hbr.out⟩
          · have hln : ts.length = 0 := by rw [HTL.out]; exact form_lenK hfb (by rw [h]; rfl)
            obtain rfl : ts = [] := List.length_eq_zero_iff.1 hln
            have HE4 := Lib.hid (HE3.out.trans (if_pos h))
            have HR := Lib.hid (show chkT lib x (envF vs) = (ow, 0) by rw [HE4.out, hSW.out.2.2 h])
            have k80 : ((x.kind : Int) == 80) = false := by rw [h]; rfl
            have k81 : ((x.kind : Int) == 81) = true := by rw [h]; rfl
            clear h hln hfb
            go_wp2_with fail
            go_ret2
            exact ⟨by rw [HR.out]; rfl, hbr.out⟩
          · have hln : ts.length = 2 := by rw [HTL.out]; exact form_lenK hfb (by rw [h]; rfl)
            obtain ⟨t0, t1, rfl⟩ : ∃ t0 t1, ts = [t0, t1] := by
              match ts, hln with
              | [t0, t1], _ => exact ⟨t0, t1, rfl⟩
            have HE4 := Lib.hid (HE3.out.trans (if_neg (by omega)))
            have HR := Lib.hid (show chkT lib x (envF vs) = resQ [t0, t1] ([false, false], false) by rw [HE4.out]; unfold resR wantR; rw [if_pos h] <;> rfl)
            have k80 : ((x.kind : Int) == 80) = false := by rw [h]; rfl
            have k81 : ((x.kind : Int) == 81) = false := by rw [h]; rfl
            have k86 : ((x.kind : Int) == 86) = false := by rw [h]; rfl
            have k82 : ((x.kind : Int) == 82) = true := by rw [h]; rfl
            clear h hln hfb
            obtain ⟨bw0, ow0, hAw0, d0⟩ := HBL.out 0 _ rfl
            obtain ⟨bw1, ow1, hAw1, d1⟩ := HBL.out 1 _ rfl
            subst hAw0
            simp at hAw1
            obtain ⟨rfl, rfl⟩ := hAw1
            rw [Nat.add_zero] at d0
            have hlw := block_lt_of_cell d0
            cases t0 <;> cases t1
            all_goals
              go_wp2_with fail
              refine (rresult_any _ _ wr).mono ?_
              rintro e w9 ⟨rfl, rfl⟩
              go_wp2_with fail
              go_ret2
              exact ⟨by rw [HR.out]; rfl, hbr.out⟩
          · have hln : ts.length = 3 := by rw [HTL.out]; exact form_lenK hfb (by rw [h]; rfl)
            obtain ⟨t0, t1, t2, rfl⟩ : ∃ t0 t1 t2, ts = [t0, t1, t2] := by
              match ts, hln with
              | [t0, t1, t2], _ => exact ⟨t0, t1, t2, rfl⟩
            have HE4 := Lib.hid (HE3.out.trans (if_neg (by omega)))
            have HR := Lib.hid (show chkT lib x (envF vs) = resQ [t0, t1, t2] ([false, t1, t1], t1) by rw [HE4.out]; unfold resR wantR; rw [if_neg (by omega), if_pos h] <;> rfl)
            have k80 : ((x.kind : Int) == 80) = false := by rw [h]; rfl
            have k81 : ((x.kind : Int) == 81) = false := by rw [h]; rfl
            have k86 : ((x.kind : Int) == 86) = false := by rw [h]; rfl
            have k82 : ((x.kind : Int) == 82) = false := by rw [h]; rfl
            have k83 : ((x.kind : Int) == 83) = true := by rw [h]; rfl
            clear h hln hfb
            obtain ⟨bw0, ow0, hAw0, d0⟩ := HBL.out 0 _ rfl
            obtain ⟨bw1, ow1, hAw1, d1⟩ := HBL.out 1 _ rfl
            obtain ⟨bw2, ow2, hAw2, d2⟩ := HBL.out 2 _ rfl
            subst hAw0
            simp at hAw1
            obtain ⟨rfl, rfl⟩ := hAw1
            simp at hAw2
            obtain ⟨rfl, rfl⟩ := hAw2
            rw [Nat.add_zero] at d0
            have hlw := block_lt_of_cell d0
            cases t0 <;> cases t1 <;> cases t2
            all_goals
              go_wp2_with fail
              go_quiet ((go_at_call 51; exact Calls.quiet_of_same (rresult_s _ _ _)))
              go_wp2_with fail
              go_ret2
              exact ⟨by rw [HR.out]; rfl, hbr.out.trans ⟨rfl, rfl, rfl, Nat.le_refl _, fun _ _ => rfl⟩⟩
          · have hln : ts.length = 2 := by rw [HTL.out]; exact form_lenK hfb (by rw [h]; rfl)
            obtain ⟨t0, t1, rfl⟩ : ∃ t0 t1, ts = [t0, t1] := by
              match ts, hln with
              | [t0, t1], _ => exact ⟨t0, t1, rfl⟩
            have HE4 := Lib.hid (HE3.out.trans (if_neg (by omega)))
            have HR := Lib.hid (show chkT lib x (envF vs) = resQ [t0, t1] ([t0, t1], t1) by rw [HE4.out]; unfold resR wantR; rw [if_neg (by omega), if_neg (by omega), if_pos h] <;> rfl)
            have k80 : ((x.kind : Int) == 80) = false := by rw [h]; rfl
            have k81 : ((x.kind : Int) == 81) = false := by rw [h]; rfl
            have k86 : ((x.kind : Int) == 86) = false := by rw [h]; rfl
            have k82 : ((x.kind : Int) == 82) = false := by rw [h]; rfl
            have k83 : ((x.kind : Int) == 83) = false := by rw [h]; rfl
            have k84 : ((x.kind : Int) == 84) = true := by rw [h]; rfl
            clear h hln hfb
            obtain ⟨bw0, ow0, hAw0, d0⟩ := HBL.out 0 _ rfl
            obtain ⟨bw1, ow1, hAw1, d1⟩ := HBL.out 1 _ rfl
            subst hAw0
            simp at hAw1
            obtain ⟨rfl, rfl⟩ := hAw1
            rw [Nat.add_zero] at d0
            have hlw := block_lt_of_cell d0
            cases t0 <;> cases t1
            all_goals
              go_wp2_with fail
              go_ret2
              exact ⟨by rw [HR.out]; rfl, hbr.out⟩
          · have hfi := hSW.out.2.1 h
            have hre := hSW.out.1
            unfold reachE at hre
            rw [if_neg (by omega), if_neg (by omega), if_pos h, ← hfi] at hre
            have HE4 := Lib.hid (HE3.out.trans (if_neg (by omega)))
            rcases findF_range x.name lib 0 with hq | ⟨i, hi, hq, hi', _⟩
            · rw [hfi, hq] at hre; cases hre
            have hfi2 : fi = i := by rw [hfi, hq]; omega
            subst hfi2
            rw [if_neg (by omega), Int.toNat_natCast, List.getElem?_eq_getElem hi'] at hre
            have hre : (if x.kids.length ≠ lib[i].params.length then (7 : Int) else 0) = 0 := hre
            have hgl : x.kids.length = lib[i].params.length := by
              by_cases e : x.kids.length = lib[i].params.length
              · exact e
              · rw [if_pos e] at hre; cases hre
            have HR := Lib.hid (show chkT lib x (envF vs) = resQ ts (lib[i].params.map Pm.list, lib[i].list) by rw [HE4.out]; unfold resR wantR; rw [if_neg (by omega), if_neg (by omega), if_neg (by omega), if_pos h, ← hfi, Int.toNat_natCast, List.getElem?_eq_getElem hi'])
            have k80 : ((x.kind : Int) == 80) = false := by rw [h]; rfl
            have k81 : ((x.kind : Int) == 81) = false := by rw [h]; rfl
            have k86 : ((x.kind : Int) == 86) = false := by rw [h]; rfl
            have k82 : ((x.kind : Int) == 82) = false := by rw [h]; rfl
            have k83 : ((x.kind : Int) == 83) = false := by rw [h]; rfl
            have k84 : ((x.kind : Int) == 84) = false := by rw [h]; rfl
            have k87 : ((x.kind : Int) == 87) = false := by rw [h]; rfl
            have k88 : ((x.kind : Int) == 88) = false := by rw [h]; rfl
            have k90 : ((x.kind : Int) == 90) = false := by rw [h]; rfl
            have k89 : ((x.kind : Int) == 89) = false := by rw [h]; rfl
            obtain ⟨b, o, rfl, hfo⟩ := (HL.out.mono hbr.out).at_ hi'
            have htg : ts.length = lib[i].params.length := by rw [HTL.out]; exact hgl
            generalize lib[i] = g at *
            have HFO := Lib.hid hfo
            have HTG := Lib.hid htg
            have hpl : ts.length ≤ 1000000 := by rw [HTL.out]; omega
            have r1 : (0 : Int) ≤ i := by omega
            have r2 : (i : Int) < lib.length := by omega
            clear h hfb hfi hre hq hgl hfo htg HE3 HE4
            go_wp2_with fail
            obtain ⟨wo, rfl⟩ : ∃ wo : World, wo = wr := ⟨_, rfl⟩
            go_loopw [19] (fun i wr => ∃ m : Nat, m ≤ ts.length ∧ i = .int .i64 m ∧ Hid (∀ j, j < m → ts[j]? = (g.params.map Pm.list)[j]?) ∧ Below wo.heap.size wo wr) (fun i _ => ts.length - (intOf i).toNat)
            case atStart => exact ⟨0, by omega, rfl, fun j hj => by omega, Below.refl _ _⟩
            case round =>
              obtain ⟨m, hm, rfl, hz, hb⟩ := hrel
              have hfr := HFO.out.mono hb
              have hlt := hfr.lt
              obtain ⟨c0, ⟨A1, cp1, c1, hps⟩, c2, hbody⟩ := hfr
              by_cases hin : m < ts.length
              · have hin' : m < g.params.length := by rw [← HTG.out]; exact hin
                obtain ⟨bt, ot, rfl, dt⟩ := (HBL.out.mono hb).at_ hin
                obtain ⟨bp, op, rfl, dp0, dp1⟩ := hps.at_ hin'
                have HX := Lib.hid (List.getElem?_eq_getElem hin)
                have HY := Lib.hid (show (g.params.map Pm.list)[m]? = some g.params[m].list by rw [List.getElem?_map, List.getElem?_eq_getElem hin']; rfl)
                generalize ts[m] = tm at *
                generalize g.params[m].list = pm at *
                have s1 : (0 : Int) ≤ m := by omega
                have s2 : (m : Int) < ts.length := by omega
                have s3 : (m : Int) < g.params.length := by omega
                have hl1 := block_lt_of_cell dt
                have hl2 := block_lt_of_cell dp1
                clear c0 c2 hbody hps
                by_cases hxy : tm = pm
                · subst hxy
                  have hz' := Lib.hid (fun j (hj : j < m + 1) => show ts[j]? = (g.params.map Pm.list)[j]? from by
                    by_cases e : j = m
                    · rw [e, HX.out, HY.out]
                    · exact hz.out j (by omega))
                  clear hz HX HY
                  cases tm
                  all_goals
                    go_wp2_with fail
                    go_quiet (fail)
                    go_wp2_with fail
                    exact ⟨⟨m + 1, by omega, by go_num, hz', hb.trans ⟨rfl, rfl, rfl, Nat.le_refl _, fun _ _ => rfl⟩⟩, by simp [intOf]; omega⟩
                · have hR2 := Lib.hid (show chkT lib x (envF vs) = (false, 7) by
                    rw [HR.out]; unfold resQ
                    rw [if_neg (fun e => ?_)]
                    have e : ts = g.params.map Pm.list := e
                    have h2 := HX.out; rw [e, HY.out] at h2
                    exact hxy (Option.some.inj h2).symm)
                  have hp := below_step hbr.out hbr.out.size hb
                  have hc : (tm = true ∧ pm = false) ∨ (tm = false ∧ pm = true) := by cases tm <;> cases pm <;> simp at hxy ⊢
                  clear hz HX HY hxy
                  rcases hc with ⟨rfl, rfl⟩ | ⟨rfl, rfl⟩
                  all_goals
                    go_wp2_with fail
                    go_quiet (fail)
                    go_wp2_with fail
                    go_ret2
                    exact ⟨by rw [hR2.out]; rfl, hp.trans ⟨rfl, rfl, rfl, Nat.le_refl _, fun _ _ => rfl⟩⟩
              · have hR2 := Lib.hid (show chkT lib x (envF vs) = (g.list, 0) by
                  rw [HR.out]; unfold resQ
                  rw [if_pos]
                  apply List.ext_getElem?
                  intro j
                  by_cases hj : j < m
                  · exact hz.out j hj
                  · have := HTG.out
                    rw [List.getElem?_eq_none (by omega), List.getElem?_eq_none (by simp; omega)])
                clear hz
                go_wp2_with fail
                go_ret2
                exact ⟨by rw [hR2.out]; rfl, below_step hbr.out hbr.out.size hb⟩
          · have hln : ts.length = 0 := by rw [HTL.out]; exact form_lenK hfb (by rw [h]; rfl)
            obtain rfl : ts = [] := List.length_eq_zero_iff.1 hln
            have HE4 := Lib.hid (HE3.out.trans (if_neg (by omega)))
            have HR := Lib.hid (show chkT lib x (envF vs) = resQ [] ([], true) by rw [HE4.out]; unfold resR wantR; rw [if_neg (by omega), if_neg (by omega), if_neg (by omega), if_neg (by omega), if_pos h] <;> rfl)
            have k80 : ((x.kind : Int) == 80) = false := by rw [h]; rfl
            have k81 : ((x.kind : Int) == 81) = false := by rw [h]; rfl
            have k86 : ((x.kind : Int) == 86) = true := by rw [h]; rfl
            clear h hln hfb
            go_wp2_with fail
            go_ret2
            exact ⟨by rw [HR.out]; rfl, hbr.out⟩
          · have hln : ts.length = 2 := by rw [HTL.out]; exact form_lenK hfb (by rw [h]; rfl)
            obtain ⟨t0, t1, rfl⟩ : ∃ t0 t1, ts = [t0, t1] := by
              match ts, hln with
              | [t0, t1], _ => exact ⟨t0, t1, rfl⟩
            have HE4 := Lib.hid (HE3.out.trans (if_neg (by omega)))
            have HR := Lib.hid (show chkT lib x (envF vs) = resQ [t0, t1] ([false, true], true) by rw [HE4.out]; unfold resR wantR; rw [if_neg (by omega), if_neg (by omega), if_neg (by omega), if_neg (by omega), if_neg (by omega), if_pos h] <;> rfl)
            have k80 : ((x.kind : Int) == 80) = false := by rw [h]; rfl
            have k81 : ((x.kind : Int) == 81) = false := by rw [h]; rfl
            have k86 : ((x.kind : Int) == 86) = false := by rw [h]; rfl
            have k82 : ((x.kind : Int) == 82) = false := by rw [h]; rfl
            have k83 : ((x.kind : Int) == 83) = false := by rw [h]; rfl
            have k84 : ((x.kind : Int) == 84) = false := by rw [h]; rfl
            have k87 : ((x.kind : Int) == 87) = true := by rw [h]; rfl
            clear h hln hfb
            obtain ⟨bw0, ow0, hAw0, d0⟩ := HBL.out 0 _ rfl
            obtain ⟨bw1, ow1, hAw1, d1⟩ := HBL.out 1 _ rfl
            subst hAw0
            simp at hAw1
            obtain ⟨rfl, rfl⟩ := hAw1
            rw [Nat.add_zero] at d0
            have hlw := block_lt_of_cell d0
            cases t0 <;> cases t1
            all_goals
              go_wp2_with fail
              refine (rresult_any _ _ wr).mono ?_
              rintro e w9 ⟨rfl, rfl⟩
              go_wp2_with fail
              go_ret2
              exact ⟨by rw [HR.out]; rfl, hbr.out⟩
          · have hln : ts.length = 1 := by rw [HTL.out]; exact form_lenK hfb (by rw [h]; rfl)
            obtain ⟨t0, rfl⟩ : ∃ t0, ts = [t0] := by
              match ts, hln with
              | [t0], _ => exact ⟨t0, rfl⟩
            have HE4 := Lib.hid (HE3.out.trans (if_neg (by omega)))
            have HR := Lib.hid (show chkT lib x (envF vs) = resQ [t0] ([true], false) by rw [HE4.out]; unfold resR wantR; rw [if_neg (by omega), if_neg (by omega), if_neg (by omega), if_neg (by omega), if_neg (by omega), if_neg (by omega), if_pos (by omega)] <;> rfl)
            have k80 : ((x.kind : Int) == 80) = false := by rw [h]; rfl
            have k81 : ((x.kind : Int) == 81) = false := by rw [h]; rfl
            have k86 : ((x.kind : Int) == 86) = false := by rw [h]; rfl
            have k82 : ((x.kind : Int) == 82) = false := by rw [h]; rfl
            have k83 : ((x.kind : Int) == 83) = false := by rw [h]; rfl
            have k84 : ((x.kind : Int) == 84) = false := by rw [h]; rfl
            have k87 : ((x.kind : Int) == 87) = false := by rw [h]; rfl
            have k88 : ((x.kind : Int) == 88) = true := by rw [h]; rfl
            clear h hln hfb
            obtain ⟨bw0, ow0, hAw0, d0⟩ := HBL.out 0 _ rfl
            subst hAw0
            rw [Nat.add_zero] at d0
            have hlw := block_lt_of_cell d0
            cases t0
            all_goals
              go_wp2_with fail
              refine (rresult_any _ _ wr).mono ?_
              rintro e w9 ⟨rfl, rfl⟩
              go_wp2_with fail
              go_ret2
              exact ⟨by rw [HR.out]; rfl, hbr.out⟩
          · have hln : ts.length = 1 := by rw [HTL.out]; exact form_lenK hfb (by rw [h]; rfl)
            obtain ⟨t0, rfl⟩ : ∃ t0, ts = [t0] := by
              match ts, hln with
              | [t0], _ => exact ⟨t0, rfl⟩
            have HE4 := Lib.hid (HE3.out.trans (if_neg (by omega)))
            have HR := Lib.hid (show chkT lib x (envF vs) = resQ [t0] ([true], true) by rw [HE4.out]; unfold resR wantR; rw [if_neg (by omega), if_neg (by omega), if_neg (by omega), if_neg (by omega), if_neg (by omega), if_neg (by omega), if_neg (by omega), if_pos h] <;> rfl)
            have k80 : ((x.kind : Int) == 80) = false := by rw [h]; rfl
            have k81 : ((x.kind : Int) == 81) = false := by rw [h]; rfl
            have k86 : ((x.kind : Int) == 86) = false := by rw [h]; rfl
            have k82 : ((x.kind : Int) == 82) = false := by rw [h]; rfl
            have k83 : ((x.kind : Int) == 83) = false := by rw [h]; rfl
            have k84 : ((x.kind : Int) == 84) = false := by rw [h]; rfl
            have k87 : ((x.kind : Int) == 87) = false := by rw [h]; rfl
            have k88 : ((x.kind : Int) == 88) = false := by rw [h]; rfl
            have k90 : ((x.kind : Int) == 90) = false := by rw [h]; rfl
            have k89 : ((x.kind : Int) == 89) = true := by rw [h]; rfl
            clear h hln hfb
            obtain ⟨bw0, ow0, hAw0, d0⟩ := HBL.out 0 _ rfl
            subst hAw0
            rw [Nat.add_zero] at d0
            have hlw := block_lt_of_cell d0
            cases t0
            all_goals
              go_wp2_with fail
              refine (rresult_any _ _ wr).mono ?_
              rintro e w9 ⟨rfl, rfl⟩
              go_wp2_with fail
              go_ret2
              exact ⟨by rw [HR.out]; rfl, hbr.out⟩
          · have hln : ts.length = 1 := by rw [HTL.out]; exact form_lenK hfb (by rw [h]; rfl)
            obtain ⟨t0, rfl⟩ : ∃ t0, ts = [t0] := by
              match ts, hln with
              | [t0], _ => exact ⟨t0, rfl⟩
            have HE4 := Lib.hid (HE3.out.trans (if_neg (by omega)))
            have HR := Lib.hid (show chkT lib x (envF vs) = resQ [t0] ([true], false) by rw [HE4.out]; unfold resR wantR; rw [if_neg (by omega), if_neg (by omega), if_neg (by omega), if_neg (by omega), if_neg (by omega), if_neg (by omega), if_pos (by omega)] <;> rfl)
            have k80 : ((x.kind : Int) == 80) = false := by rw [h]; rfl
            have k81 : ((x.kind : Int) == 81) = false := by rw [h]; rfl
            have k86 : ((x.kind : Int) == 86) = false := by rw [h]; rfl
            have k82 : ((x.kind : Int) == 82) = false := by rw [h]; rfl
            have k83 : ((x.kind : Int) == 83) = false := by rw [h]; rfl
            have k84 : ((x.kind : Int) == 84) = false := by rw [h]; rfl
            have k87 : ((x.kind : Int) == 87) = false := by rw [h]; rfl
            have k88 : ((x.kind : Int) == 88) = false := by rw [h]; rfl
            have k90 : ((x.kind : Int) == 90) = true := by rw [h]; rfl
            clear h hln hfb
            obtain ⟨bw0, ow0, hAw0, d0⟩ := HBL.out 0 _ rfl
            subst hAw0
            rw [Nat.add_zero] at d0
            have hlw := block_lt_of_cell d0
            cases t0
            all_goals
              go_wp2_with fail
              refine (rresult_any _ _ wr).mono ?_
              rintro e w9 ⟨rfl, rfl⟩
              go_wp2_with fail
              go_ret2
              exact ⟨by rw [HR.out]; rfl, hbr.out⟩
          · exact absurd (form_kind hfb) (by omega)

end Go.Proofs.Ytoankdaddgjnlaa
