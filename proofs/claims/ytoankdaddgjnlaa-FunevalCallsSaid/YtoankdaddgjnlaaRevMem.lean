/-
  The reference's evaluator: environments as lists, and how the reference's values lie in memory.
  The contracts of the reference's small functions: num, Find, first.
  The contracts of the reference's small functions: first, list.
  The contract of the reference's Apply.
  With cleaned values in the environment all values are clean (plain).
-/
import Derived.Test.YtoankdaddgjnlaaFevMem
import Derived.Test.YtoankdaddgjnlaaFevType
import Derived.Test.YtoankdaddgjnlaaFevArith
import Derived.Test.YtoankdaddgjnlaaFunTree
import Derived.Deep.RegionLaw
import Derived.Deep.DeepCutAuto
import Derived.Deep.CutBlock
import Derived.Test.YtoankdaddgjnlaaFevPlain
namespace Go.Proofs.Ytoankdaddgjnlaa
open Go.ChangeShapes Go.WideShapes Go.ChangeAt Go.RowKit Go.Sort

/-! ### Environments (plain) -/
def envL (l : List (ByteArray × Vl)) : ByteArray → Option Vl := l.foldl (fun e p => setV e p.1 p.2) (fun _ => none)
theorem envL_snoc (l : List (ByteArray × Vl)) (s : ByteArray) (v : Vl) : envL (l ++ [(s, v)]) = setV (envL l) s v := by unfold envL; rw [List.foldl_append]; rfl
theorem envL_hit {l : List (ByteArray × Vl)} {p : ByteArray × Vl} {s : ByteArray} (h : p.1 = s) : envL (l ++ [p]) s = some p.2 := by
  obtain ⟨a, b⟩ := p
  rw [envL_snoc]; unfold setV; rw [if_pos h.symm]
theorem envL_miss {l : List (ByteArray × Vl)} {p : ByteArray × Vl} {s : ByteArray} (h : p.1 ≠ s) : envL (l ++ [p]) s = envL l s := by
  obtain ⟨a, b⟩ := p
  rw [envL_snoc]; unfold setV; rw [if_neg (fun e => h e.symm)]
def zipV (ps : List Pm) (vs : List Vl) : List (ByteArray × Vl) := (ps.zip vs).map fun q => (q.1.name, q.2)
theorem envV_L : ∀ (ps : List Pm) (vs : List Vl) (l : List (ByteArray × Vl)), envV ps vs (envL l) = envL (l ++ zipV ps vs)
  | [], vs, l => by simp [envV, zipV]
  | p :: ps, [], l => by simp [envV, zipV]
  | p :: ps, v :: vs, l => by
    rw [envV, ← envL_snoc, envV_L ps vs]
    simp [zipV]
theorem zipV_len (ps : List Pm) (vs : List Vl) (h : vs.length = ps.length) : (zipV ps vs).length = vs.length := by simp [zipV, h]
theorem zipV_take {ps : List Pm} {vs : List Vl} {k : Nat} (hp : k < ps.length) (hv : k < vs.length) : zipV (ps.take (k + 1)) (vs.take (k + 1)) = zipV (ps.take k) (vs.take k) ++ [(ps[k].name, vs[k])] := by
  unfold zipV
  rw [List.take_succ_eq_append_getElem hp, List.take_succ_eq_append_getElem hv, List.zip_append (by rw [List.length_take, List.length_take]; omega), List.map_append]
  rfl

/-! ### Memory -/
theorem Le.below {w w' : World} {X X' : Nat → Prop} (hb : Below w.heap.size w w') (hX : ∀ k, k < w.heap.size → X' k → X k) : Le w X w' X' := Le.of_fr (Fr.of_below hb fun _ => False) (fun _ _ e => e.elim) hX
def VarC (w : World) (X : Nat → Prop) (c : List Value) (p : ByteArray × Vl) : Prop := ∃ A cc, c = [.string p.1, .bool p.2.list, .int .i64 p.2.n, .slice A p.2.l.length cc] ∧ IntsX w X A p.2.l ∧ p.2.l.length ≤ cc ∧ p.2.l.length ≤ 1000000
def ValC (w : World) (X : Nat → Prop) (c : List Value) (v : Vl) : Prop := ∃ A cc, c = [.bool v.list, .int .i64 v.n, .slice A v.l.length cc] ∧ IntsX w X A v.l ∧ v.l.length ≤ cc ∧ v.l.length ≤ 1000000
theorem VarC.le {w w' : World} {X X' : Nat → Prop} (hb : Le w X w' X') (c : List Value) (p : ByteArray × Vl) (h : VarC w X c p) : VarC w' X' c p := by
  obtain ⟨A, cc, e, h1, h2⟩ := h; exact ⟨A, cc, e, h1.le hb, h2⟩
theorem ValC.le {w w' : World} {X X' : Nat → Prop} (hb : Le w X w' X') (c : List Value) (p : Vl) (h : ValC w X c p) : ValC w' X' c p := by
  obtain ⟨A, cc, e, h1, h2⟩ := h; exact ⟨A, cc, e, h1.le hb, h2⟩
theorem VarC.len {w : World} {X : Nat → Prop} (c : List Value) (p : ByteArray × Vl) (h : VarC w X c p) : c.length = 4 := by obtain ⟨A, cc, rfl, _⟩ := h; rfl
theorem ValC.len {w : World} {X : Nat → Prop} (c : List Value) (p : Vl) (h : ValC w X c p) : c.length = 3 := by obtain ⟨A, cc, rfl, _⟩ := h; rfl
theorem VarC.one {w : World} {X : Nat → Prop} (c : List Value) (p : ByteArray × Vl) (h : VarC w X c p) : ∀ u ∈ c, u.oneCell' = true := by
  obtain ⟨A, cc, rfl, _⟩ := h
  intro u hu
  simp at hu
  rcases hu with h | h | h | h <;> subst h <;> rfl
theorem ValC.one {w : World} {X : Nat → Prop} (c : List Value) (p : Vl) (h : ValC w X c p) : ∀ u ∈ c, u.oneCell' = true := by
  obtain ⟨A, cc, rfl, _⟩ := h
  intro u hu
  simp at hu
  rcases hu with h | h | h <;> subst h <;> rfl
/-- A slice of variables, of values; what they hold lies outside of X. -/
def VarsC (w : World) (X : Nat → Prop) (A : Option Addr) (l : List (ByteArray × Vl)) : Prop := ∃ cs, RowG (VarC w X) cs l ∧ CellsAt w A cs
def ValsC (w : World) (X : Nat → Prop) (A : Option Addr) (l : List Vl) : Prop := ∃ cs, RowG (ValC w X) cs l ∧ CellsAt w A cs
theorem VarsC.below {w w' : World} {X X' : Nat → Prop} {A : Option Addr} {l : List (ByteArray × Vl)} (h : VarsC w X A l) (hb : Below w.heap.size w w') (hX : ∀ k, k < w.heap.size → X' k → X k) : VarsC w' X' A l := by
  obtain ⟨cs, h1, h2⟩ := h; exact ⟨cs, h1.map (VarC.le (Le.below hb hX)), h2.mono hb⟩
theorem ValsC.below {w w' : World} {X X' : Nat → Prop} {A : Option Addr} {l : List Vl} (h : ValsC w X A l) (hb : Below w.heap.size w w') (hX : ∀ k, k < w.heap.size → X' k → X k) : ValsC w' X' A l := by
  obtain ⟨cs, h1, h2⟩ := h; exact ⟨cs, h1.map (ValC.le (Le.below hb hX)), h2.mono hb⟩
theorem VarsC.at_ {w : World} {X : Nat → Prop} {A : Option Addr} {l : List (ByteArray × Vl)} (h : VarsC w X A l) {k : Nat} (hk : k < l.length) : ∃ b o A' cc, A = some ⟨b, o, none⟩ ∧ w.cell? ⟨b, o + k * 4, none⟩ = some (.string l[k].1) ∧ w.cell? ⟨b, o + k * 4 + 1, none⟩ = some (.bool l[k].2.list) ∧ w.cell? ⟨b, o + k * 4 + 2, none⟩ = some (.int .i64 l[k].2.n) ∧ w.cell? ⟨b, o + k * 4 + 3, none⟩ = some (.slice A' l[k].2.l.length cc) ∧ IntsX w X A' l[k].2.l ∧ l[k].2.l.length ≤ cc ∧ l[k].2.l.length ≤ 1000000 := by
  obtain ⟨cs, h1, h2⟩ := h
  obtain ⟨c, hc, hg⟩ := h1.get VarC.len k _ (List.getElem?_eq_getElem hk)
  obtain ⟨A', cc, rfl, hi, hl, hm⟩ := hc
  obtain ⟨b, o, e, c0⟩ := h2 _ _ (hg 0 (by omega))
  obtain ⟨b1, o1, e1, c1⟩ := h2 _ _ (hg 1 (by omega))
  obtain ⟨b2, o2, e2, c2⟩ := h2 _ _ (hg 2 (by omega))
  obtain ⟨b3, o3, e3, c3⟩ := h2 _ _ (hg 3 (by omega))
  subst e
  cases e1
  cases e2
  cases e3
  exact ⟨b, o, A', cc, rfl, c0, c1, c2, c3, hi, hl, hm⟩
theorem ValsC.at_ {w : World} {X : Nat → Prop} {A : Option Addr} {l : List Vl} (h : ValsC w X A l) {k : Nat} (hk : k < l.length) : ∃ b o A' cc, A = some ⟨b, o, none⟩ ∧ w.cell? ⟨b, o + k * 3, none⟩ = some (.bool l[k].list) ∧ w.cell? ⟨b, o + k * 3 + 1, none⟩ = some (.int .i64 l[k].n) ∧ w.cell? ⟨b, o + k * 3 + 2, none⟩ = some (.slice A' l[k].l.length cc) ∧ IntsX w X A' l[k].l ∧ l[k].l.length ≤ cc ∧ l[k].l.length ≤ 1000000 := by
  obtain ⟨cs, h1, h2⟩ := h
  obtain ⟨c, hc, hg⟩ := h1.get ValC.len k _ (List.getElem?_eq_getElem hk)
  obtain ⟨A', cc, rfl, hi, hl, hm⟩ := hc
  obtain ⟨b, o, e, c0⟩ := h2 _ _ (hg 0 (by omega))
  obtain ⟨b1, o1, e1, c1⟩ := h2 _ _ (hg 1 (by omega))
  obtain ⟨b2, o2, e2, c2⟩ := h2 _ _ (hg 2 (by omega))
  subst e
  cases e1
  cases e2
  exact ⟨b, o, A', cc, rfl, c0, c1, c2, hi, hl, hm⟩
/-- Cells of call trees outside of X: what they hold is not looked at. -/
def CxX (w : World) (X : Nat → Prop) (A : Option Addr) (m : Nat) : Prop := ∃ cs : List Value, cs.length = m * 6 ∧ (∀ (j : Nat) (u : Value), cs[j]? = some u → ∃ b o, A = some ⟨b, o, none⟩ ∧ ¬ X b ∧ w.cell? ⟨b, o + j, none⟩ = some u) ∧ ∀ u ∈ cs, u.oneCell' = true
theorem CxX.le {w w' : World} {X X' : Nat → Prop} {A : Option Addr} {m : Nat} (h : CxX w X A m) (hb : Le w X w' X') : CxX w' X' A m := by
  obtain ⟨cs, h1, h2, h3⟩ := h
  refine ⟨cs, h1, fun j u hu => ?_, h3⟩
  obtain ⟨b, o, e, hx, hc⟩ := h2 j u hu
  obtain ⟨h4, h5⟩ := hb _ _ hc hx
  exact ⟨b, o, e, h5, h4⟩
theorem CxX.nil (w : World) (X : Nat → Prop) (A : Option Addr) : CxX w X A 0 := ⟨[], rfl, fun j u hu => by simp at hu, fun u hu => by simp at hu⟩
theorem CxX.cells {w : World} {X : Nat → Prop} {A : Option Addr} {m : Nat} (h : CxX w X A m) : ∃ cs : List Value, cs.length = m * 6 ∧ CellsAt w A cs ∧ ∀ u ∈ cs, u.oneCell' = true := by
  obtain ⟨cs, h1, h2, h3⟩ := h
  refine ⟨cs, h1, fun j u hu => ?_, h3⟩
  obtain ⟨b, o, e, _, hc⟩ := h2 j u hu
  exact ⟨b, o, e, hc⟩
/-- A row of the call's own, as cells. -/
theorem cells_of_own {w : World} {base : Nat} {e : TypeId} {size n : Nat} {v : Value} {xs : List Value} (h : w.ownsRow base e size v n xs) (hx : xs.length = n * size) : ∃ A c, v = .slice A n c ∧ n ≤ c ∧ ∀ (j : Nat) (u : Value), xs[j]? = some u → ∃ b o, A = some ⟨b, o, none⟩ ∧ base ≤ b ∧ w.cell? ⟨b, o + j, none⟩ = some u := by
  rcases id h.2 with ⟨rfl, h0⟩ | ⟨g, cap, cur, rfl, hg, hh, hc1, hc2, hc3, hc4⟩
  · refine ⟨none, 0, by rw [h0], by omega, fun k x hk => ?_⟩
    have : xs = [] := List.length_eq_zero_iff.1 (by rw [hx, h0]; simp)
    subst this; simp at hk
  · refine ⟨some ⟨g, 0, none⟩, cap, rfl, hc1, fun k x hk => ⟨g, 0, rfl, hg, ?_⟩⟩
    have := h.cells (g := g) rfl k x hk
    rw [add0] at this
    rw [Nat.zero_add]; exact this
/-- What the reference's Eval answers. -/
def RetOu (o : Out) (F : Nat) (X : Nat → Prop) (w : World) (e : Ending) (w' : World) : Prop :=
  Below w.heap.size w w' ∧ match o with
  | .err k => k ≠ 0 ∧ ∃ (bl : Bool) (n : Int) (A : Option Addr) (m c : Nat) (G : Int) (Ac : Option Addr) (mc cc : Nat), e = .returned (.agg #[.bool bl, .int .i64 n, .slice A m c, .int .i64 G, .slice Ac mc cc, .int .i64 k]) ∧ CxX w' X Ac mc ∧ mc ≤ F
  | .ok v f _ => ∃ (A : Option Addr) (c : Nat) (Ac : Option Addr) (mc cc : Nat), e = .returned (.agg #[.bool v.list, .int .i64 v.n, .slice A v.l.length c, .int .i64 f, .slice Ac mc cc, .int .i64 0]) ∧ CxX w' X Ac mc ∧ mc + f ≤ F ∧ IntsX w' X A v.l ∧ v.l.length ≤ c ∧ v.l.length ≤ 1000000

end Go.Proofs.Ytoankdaddgjnlaa

namespace Go.Proofs.Ytoankdaddgjnlaa
open Go.ChangeShapes Go.WideShapes Go.ChangeAt Go.RowKit Go.Sort

theorem belowR3 {B : Nat} {a w : World} (h : Below B a w) {b : Nat} (hb : B ≤ b) (v0 v1 v2 : Value) : Below B a (((w.setCell ⟨b, 0, none⟩ v0).setCell ⟨b, 1, none⟩ v1).setCell ⟨b, 2, none⟩ v2) :=
  ((h.setCell (p := ⟨b, 0, none⟩) hb v0).setCell (p := ⟨b, 1, none⟩) hb v1).setCell (p := ⟨b, 2, none⟩) hb v2
theorem belowR4 {B : Nat} {a w : World} (h : Below B a w) {b : Nat} (hb : B ≤ b) (v0 v1 v2 v3 : Value) : Below B a ((((w.setCell ⟨b, 0, none⟩ v0).setCell ⟨b, 1, none⟩ v1).setCell ⟨b, 2, none⟩ v2).setCell ⟨b, 3, none⟩ v3) :=
  (belowR3 h hb v0 v1 v2).setCell (p := ⟨b, 3, none⟩) hb v3
theorem belowR6 {B : Nat} {a w : World} (h : Below B a w) {b : Nat} (hb : B ≤ b) (v0 v1 v2 v3 v4 v5 : Value) : Below B a ((((((w.setCell ⟨b, 0, none⟩ v0).setCell ⟨b, 1, none⟩ v1).setCell ⟨b, 2, none⟩ v2).setCell ⟨b, 3, none⟩ v3).setCell ⟨b, 4, none⟩ v4).setCell ⟨b, 5, none⟩ v5) :=
  ((belowR4 h hb v0 v1 v2 v3).setCell (p := ⟨b, 4, none⟩) hb v4).setCell (p := ⟨b, 5, none⟩) hb v5
theorem Bx.setR4 {w : World} {b : Nat} {u0 u1 u2 u3 : Value} (h : Bx w b #[u0, u1, u2, u3]) (v0 v1 v2 v3 : Value) : Bx ((((w.setCell ⟨b, 0, none⟩ v0).setCell ⟨b, 1, none⟩ v1).setCell ⟨b, 2, none⟩ v2).setCell ⟨b, 3, none⟩ v3) b #[v0, v1, v2, v3] :=
  (((h.set 0 v0).set 1 v1).set 2 v2).set 3 v3

set_option maxRecDepth 100000 in
theorem rnum_any (n : Int) (w : World) :
    Calls Try.prog 17 #[.int .i64 n] w fun e w' => e = .returned (.agg #[.bool false, .int .i64 n, .slice none 0 0]) ∧ Below w.heap.size w w' := by
  have HB := below_box w (Obj.cells #[.bool false, .int .i64 0, .slice none 0 0] 28)
  have HX := bx_new w #[.bool false, .int .i64 0, .slice none 0 0] 28
  go_enter Try.func17, Try.ntmps17
  go_upto_region 1 with fail
  generalize w.alloc _ = W at HX HB ⊢
  obtain ⟨x0, x1, x2, f0, f1, f2⟩ := HX.three
  go_wp2_with fail
  have HF := Lib.hid (And.intro (HX.set3 (.bool false) (.int .i64 n) (.slice none 0 0)) (belowR3 HB (Nat.le_refl _) (.bool false) (.int .i64 n) (.slice none 0 0)))
  generalize World.setCell _ _ _ = WF at HF ⊢
  obtain ⟨g0, g1, g2, _⟩ := HF.out.1.three
  exact bodyPost_ret (v := .agg #[.bool false, .int .i64 n, .slice none 0 0]) (by simp [results, Try.results17, go_sem, g0, g1, g2]) rfl ⟨rfl, HF.out.2⟩

/-- A value handed back. -/
def RetVl (v : Vl) (X : Nat → Prop) (w : World) (e : Ending) (w' : World) : Prop := Below w.heap.size w w' ∧ ∃ A c, e = .returned (.agg #[.bool v.list, .int .i64 v.n, .slice A v.l.length c]) ∧ IntsX w' X A v.l ∧ v.l.length ≤ c ∧ v.l.length ≤ 1000000
set_option maxRecDepth 100000 in
set_option maxHeartbeats 1000000 in
theorem rlook_any (l : List (ByteArray × Vl)) (A : Option Addr) (cap : Nat) (s : ByteArray) (X : Nat → Prop) (w : World) (hV : VarsC w X A l) (hl : l.length ≤ 1000000) :
    Calls Try.prog 35 #[.slice A l.length cap, .string s] w (RetVl ((envL l s).getD zeroV) X w) := by
  have HB := Lib.hid (below_box w (Obj.cells #[.bool false, .int .i64 0, .slice none 0 0] 28))
  have HX := Lib.hid (bx_new w #[.bool false, .int .i64 0, .slice none 0 0] 28)
  have HV := Lib.hid hV
  clear hV
  go_enter Try.func35, Try.ntmps35
  go_upto_region 1 with fail
  generalize w.alloc _ = W at HX HB ⊢
  go_wp2_with fail
  go_loop [5] (fun i => ∃ k : Nat, k ≤ l.length ∧ i = .int .i64 ((k : Int) - 1) ∧ Hid (envL l s = envL (l.take k) s)) (fun i => (intOf i + 1).toNat)
  case atStart => exact ⟨l.length, by omega, rfl, by rw [List.take_length]; exact rfl⟩
  case round =>
    obtain ⟨k, hk, rfl, hz⟩ := hrel
    obtain ⟨x0, x1, x2, f0, f1, f2⟩ := HX.out.three
    by_cases h0 : k = 0
    · subst h0
      have hz' := Lib.hid (show (envL l s).getD zeroV = zeroV by rw [hz.out]; rfl)
      clear hz
      go_wp2_with fail
      have HF := Lib.hid (And.intro (HX.out.set3 (.bool false) (.int .i64 0) (.slice none 0 0)) (belowR3 HB.out (Nat.le_refl _) (.bool false) (.int .i64 0) (.slice none 0 0)))
      generalize World.setCell _ _ _ = WF at HF ⊢
      obtain ⟨g0, g1, g2, _⟩ := HF.out.1.three
      exact bodyPost_ret (v := .agg #[.bool false, .int .i64 0, .slice none 0 0]) (by simp [results, Try.results35, go_sem, g0, g1, g2]) rfl ⟨HF.out.2, none, 0, by rw [hz'.out]; rfl, fun k x hk => by rw [hz'.out] at hk; simp [zeroV] at hk, by rw [hz'.out]; exact Nat.le_refl 0, by rw [hz'.out]; exact Nat.zero_le _⟩
    · obtain ⟨m, rfl⟩ : ∃ m, k = m + 1 := ⟨k - 1, by omega⟩
      have hin : m < l.length := by omega
      have e1 : ((m + 1 : Nat) : Int) - 1 = m := by omega
      rw [e1]
      clear e1
      obtain ⟨b, o, Ay, cy, rfl, c0, c1, c2, c3, hi, hc, hm⟩ := HV.out.at_ hin
      replace c0 := below_cell HB.out c0
      replace c1 := below_cell HB.out c1
      replace c2 := below_cell HB.out c2
      replace c3 := below_cell HB.out c3
      have htk := List.take_succ_eq_append_getElem hin
      rw [htk] at hz
      generalize l[m] = p at *
      clear htk h0
      have hlt := block_lt_of_cell c0
      have r1 : (0 : Int) ≤ m := by omega
      have r2 : (m : Int) < l.length := by omega
      cases hpz : (p.1.toList == s.toList) with
      | true =>
        have hz' := Lib.hid (show (envL l s).getD zeroV = p.2 by rw [hz.out, envL_hit (eqS_iff.1 hpz)]; rfl)
        have HI := Lib.hid (And.intro hi (And.intro hc hm))
        clear hz hi hc hm
        go_wp2_with fail
        have HF := Lib.hid (And.intro (HX.out.set3 (.bool p.2.list) (.int .i64 p.2.n) (.slice Ay p.2.l.length cy)) (belowR3 HB.out (Nat.le_refl _) (.bool p.2.list) (.int .i64 p.2.n) (.slice Ay p.2.l.length cy)))
        generalize World.setCell _ _ _ = WF at HF ⊢
        obtain ⟨g0, g1, g2, _⟩ := HF.out.1.three
        exact bodyPost_ret (v := .agg #[.bool p.2.list, .int .i64 p.2.n, .slice Ay p.2.l.length cy]) (by simp [results, Try.results35, go_sem, g0, g1, g2]) rfl ⟨HF.out.2, Ay, cy, by rw [hz'.out], by rw [hz'.out]; exact HI.out.1.le (Le.below HF.out.2 fun _ _ e => e), by rw [hz'.out]; exact HI.out.2.1, by rw [hz'.out]; exact HI.out.2.2⟩
      | false =>
        have hz' := Lib.hid (hz.out.trans (envL_miss (fun e => by rw [eqS_iff.2 e] at hpz; cases hpz)))
        clear hz hi hc hm
        go_wp2_with fail
        exact ⟨⟨m, by omega, rfl, hz'⟩, by simp [intOf]⟩

end Go.Proofs.Ytoankdaddgjnlaa

namespace Go.Proofs.Ytoankdaddgjnlaa
open Go.ChangeShapes Go.WideShapes Go.ChangeAt Go.RowKit Go.Sort

/-- Two blocks that lie one behind the other. -/
theorem two_bx (w : World) (a b : Array Value) (ta tb : TypeId) : Bx ((w.alloc (Obj.cells a ta)).alloc (Obj.cells b tb)) w.heap.size a ∧ Bx ((w.alloc (Obj.cells a ta)).alloc (Obj.cells b tb)) (w.heap.size + 1) b ∧ Below w.heap.size w ((w.alloc (Obj.cells a ta)).alloc (Obj.cells b tb)) := by
  have q1 := below_box w (Obj.cells a ta)
  have q2 := below_box (w.alloc (Obj.cells a ta)) (Obj.cells b tb)
  have z1 : (w.alloc (Obj.cells a ta)).heap.size = w.heap.size + 1 := by simp
  have h1 := (bx_new w a ta).below q2
  have h2 := bx_new (w.alloc (Obj.cells a ta)) b tb
  rw [z1] at h2
  exact ⟨h1, h2, below_step q1 q1.size q2⟩
def nd0 : Nd := .mk 80 0 ⟨#[]⟩ []
def firstN (x : Nd) : Nd := if x.kids = [] ∨ x.kind = 85 then nd0 else kidN x 0
/-- A node handed back. -/
def RetNd (y : Nd) (w : World) (e : Ending) (w' : World) : Prop := Below w.heap.size w w' ∧ ∃ A c, e = .returned (.agg #[.int .u8 y.kind, .int .i64 y.num, .string y.name, .slice A y.kids.length c]) ∧ NdsAt w' A y.kids
theorem ndsAt_nil (w : World) (A : Option Addr) : NdsAt w A [] := by
  unfold NdsAt
  intro k x hk
  simp at hk
set_option maxRecDepth 100000 in
set_option maxHeartbeats 1000000 in
theorem rfirst_any (x : Nd) (Ak : Option Addr) (ck : Nat) (w : World) (hK : NdsAt w Ak x.kids) :
    Calls Try.prog 36 #[.agg #[.int .u8 x.kind, .int .i64 x.num, .string x.name, .slice Ak x.kids.length ck]] w (RetNd (firstN x) w) := by
  have H2 := Lib.hid (two_bx w #[.int .u8 x.kind, .int .i64 x.num, .string x.name, .slice Ak x.kids.length ck] #[.int .u8 0, .int .i64 0, .string ⟨#[]⟩, .slice none 0 0] 41 41)
  have HK := Lib.hid hK
  clear hK
  go_enter Try.func36, Try.ntmps36
  go_upto_region 1 with fail
  generalize (w.alloc _).alloc _ = W at H2 ⊢
  obtain ⟨x0, x1, x2, x3, _⟩ := H2.out.1.four
  obtain ⟨y0, y1, y2, y3, f0, f1, f2, f3⟩ := H2.out.2.1.four
  by_cases hc : x.kids = [] ∨ x.kind = 85
  · have HN := Lib.hid (show firstN x = nd0 from if_pos hc)
    have HF := Lib.hid (And.intro (H2.out.2.1.setR4 (.int .u8 80) (.int .i64 0) (.string ⟨#[]⟩) (.slice none 0 0)) (belowR4 H2.out.2.2 (Nat.le_add_right w.heap.size 1) (.int .u8 80) (.int .i64 0) (.string ⟨#[]⟩) (.slice none 0 0)))
    by_cases h0 : x.kids = []
    · rw [show x.kids.length = 0 by rw [h0]; rfl] at x3
      clear hc h0
      go_wp2_with fail
      generalize World.setCell _ _ _ = WF at HF ⊢
      obtain ⟨g0, g1, g2, g3, _⟩ := HF.out.1.four
      exact bodyPost_ret (v := .agg #[.int .u8 80, .int .i64 0, .string ⟨#[]⟩, .slice none 0 0]) (by simp [results, Try.results36, go_sem, g0, g1, g2, g3]) rfl ⟨HF.out.2, none, 0, by rw [HN.out]; rfl, by rw [HN.out]; exact ndsAt_nil _ _⟩
    · have h85 := hc.resolve_left h0
      have hp : 0 < x.kids.length := List.length_pos_iff.2 h0
      have hne2 : ((x.kids.length : Int) == 0) = false := beq_eq_false_iff_ne.2 (by omega)
      rw [h85] at x0
      clear hc h0
      go_wp2_with fail
      generalize World.setCell _ _ _ = WF at HF ⊢
      obtain ⟨g0, g1, g2, g3, _⟩ := HF.out.1.four
      exact bodyPost_ret (v := .agg #[.int .u8 80, .int .i64 0, .string ⟨#[]⟩, .slice none 0 0]) (by simp [results, Try.results36, go_sem, g0, g1, g2, g3]) rfl ⟨HF.out.2, none, 0, by rw [HN.out]; rfl, by rw [HN.out]; exact ndsAt_nil _ _⟩
  · have h0 : x.kids ≠ [] := fun e => hc (.inl e)
    have h85 : ¬ x.kind = 85 := fun e => hc (.inr e)
    have hp : 0 < x.kids.length := List.length_pos_iff.2 h0
    have HN := Lib.hid (show firstN x = x.kids[0] by unfold firstN kidN; rw [if_neg hc, List.getElem?_eq_getElem hp]; rfl)
    obtain ⟨kb, ko, Ay, cy, rfl, kl, c0, c1, c2, c3, hks⟩ := HK.out.kid hp
    simp only [Nat.zero_mul, Nat.add_zero] at c0 c1 c2 c3
    replace c0 := below_cell H2.out.2.2 c0
    replace c1 := below_cell H2.out.2.2 c1
    replace c2 := below_cell H2.out.2.2 c2
    replace c3 := below_cell H2.out.2.2 c3
    generalize x.kids[0] = y at *
    have hne : ¬ (x.kids.length : Int) = 0 := by omega
    have hne2 : ((x.kids.length : Int) == 0) = false := beq_eq_false_iff_ne.2 hne
    have h852 : ((x.kind : Int) == 85) = false := beq_eq_false_iff_ne.2 (by omega)
    have hpi : (0 : Int) < x.kids.length := by omega
    have HF := Lib.hid (And.intro (H2.out.2.1.setR4 (.int .u8 y.kind) (.int .i64 y.num) (.string y.name) (.slice Ay y.kids.length cy)) (belowR4 H2.out.2.2 (Nat.le_add_right w.heap.size 1) (.int .u8 y.kind) (.int .i64 y.num) (.string y.name) (.slice Ay y.kids.length cy)))
    have HKS := Lib.hid hks
    clear hc h0 hks
    go_wp2_with fail
    generalize World.setCell _ _ _ = WF at HF ⊢
    obtain ⟨g0, g1, g2, g3, _⟩ := HF.out.1.four
    exact bodyPost_ret (v := .agg #[.int .u8 y.kind, .int .i64 y.num, .string y.name, .slice Ay y.kids.length cy]) (by simp [results, Try.results36, go_sem, g0, g1, g2, g3]) rfl ⟨HF.out.2, Ay, cy, by rw [HN.out], by rw [HN.out]; exact HKS.out.mono HF.out.2⟩

/-- Three cells of one block stored, then six of the next one. -/
theorem set36 {B X : Nat} {w0 w : World} {z0 z1 z2 z3 z4 z5 : Value} (h : Bx w (X + 1) #[z0, z1, z2, z3, z4, z5]) (hb : Below B w0 w) (hB : B ≤ X) (a0 a1 a2 v0 v1 v2 v3 v4 v5 : Value) :
    Bx (((((((((w.setCell ⟨X, 0, none⟩ a0).setCell ⟨X, 1, none⟩ a1).setCell ⟨X, 2, none⟩ a2).setCell ⟨X + 1, 0, none⟩ v0).setCell ⟨X + 1, 1, none⟩ v1).setCell ⟨X + 1, 2, none⟩ v2).setCell ⟨X + 1, 3, none⟩ v3).setCell ⟨X + 1, 4, none⟩ v4).setCell ⟨X + 1, 5, none⟩ v5) (X + 1) #[v0, v1, v2, v3, v4, v5] ∧
    Below B w0 (((((((((w.setCell ⟨X, 0, none⟩ a0).setCell ⟨X, 1, none⟩ a1).setCell ⟨X, 2, none⟩ a2).setCell ⟨X + 1, 0, none⟩ v0).setCell ⟨X + 1, 1, none⟩ v1).setCell ⟨X + 1, 2, none⟩ v2).setCell ⟨X + 1, 3, none⟩ v3).setCell ⟨X + 1, 4, none⟩ v4).setCell ⟨X + 1, 5, none⟩ v5) :=
  ⟨(h.fr (Fr.set3 w X a0 a1 a2) (by omega)).set6 v0 v1 v2 v3 v4 v5, belowR6 (belowR3 hb hB a0 a1 a2) (by omega) v0 v1 v2 v3 v4 v5⟩
theorem ropR_88 (ap : Int → Int → Int → Int × Int) (num : Int) (v : Vl) : opR ap 88 num [v] = match v.l with | [] => (zeroV, 13) | y :: _ => (⟨false, y, []⟩, 0) := rfl
theorem ropR_89 (ap : Int → Int → Int → Int × Int) (num : Int) (v : Vl) : opR ap 89 num [v] = match v.l with | [] => (zeroV, 13) | _ :: r => (⟨true, 0, r⟩, 0) := rfl
theorem ropR_90 (ap : Int → Int → Int → Int × Int) (num : Int) (v : Vl) : opR ap 90 num [v] = match v.l with | [] => (⟨false, 1, []⟩, 0) | _ :: _ => (zeroV, 0) := rfl
theorem intsAt_nil (w : World) (A : Option Addr) : IntsAt w A [] := fun k x hk => by simp at hk
theorem intsAt_tail {w : World} {b o : Nat} {y : Int} {q : List Int} (h : IntsAt w (some ⟨b, o, none⟩) (y :: q)) : IntsAt w (some ⟨b, o + 1, none⟩) q := fun k x hk => by
  obtain ⟨b', o', e, hc⟩ := h (k + 1) x (by simpa using hk)
  cases e
  exact ⟨b, o + 1, rfl, by rw [show o + 1 + k = o + (k + 1) by omega]; exact hc⟩
theorem Bx.pre3 {w : World} {b : Nat} {u0 u1 u2 u3 u4 u5 : Value} (h : Bx w b #[u0, u1, u2, u3, u4, u5]) (v0 v1 v2 : Value) : Bx (((w.setCell ⟨b, 0, none⟩ v0).setCell ⟨b, 1, none⟩ v1).setCell ⟨b, 2, none⟩ v2) b #[v0, v1, v2, u3, u4, u5] :=
  ((h.set 0 v0).set 1 v1).set 2 v2
set_option maxRecDepth 100000 in
set_option maxHeartbeats 2000000 in
theorem rlist_any (x : Nd) (hk : x.kind = 88 ∨ x.kind = 89 ∨ x.kind = 90) (v : Vl) (f F : Nat) (A : Option Addr) (c : Nat) (Ac : Option Addr) (mc cc : Nat) (X : Nat → Prop) (w : World) (hI : IntsX w X A v.l) (hc : v.l.length ≤ c) (hl : v.l.length ≤ 1000000) (hC : CxX w X Ac mc) (hm : mc + f ≤ F) :
    Calls Try.prog 38 #[.int .u8 x.kind, .agg #[.bool v.list, .int .i64 v.n, .slice A v.l.length c, .int .i64 f, .slice Ac mc cc, .int .i64 0]] w (RetOu (opO apR x [v] f) F X w) := by
  have H2 := Lib.hid (two_bx w #[.bool v.list, .int .i64 v.n, .slice A v.l.length c, .int .i64 f, .slice Ac mc cc, .int .i64 0] #[.bool false, .int .i64 0, .slice none 0 0, .int .i64 0, .slice none 0 0, .int .i64 0] 82 82)
  have HI := Lib.hid hI
  have HC := Lib.hid hC
  clear hI hC
  have herr : ∀ (w' : World), Below w.heap.size w w' → RetOu (.err 13) F X w (.returned (.agg #[.bool false, .int .i64 0, .slice none 0 0, .int .i64 0, .slice none 0 0, .int .i64 13])) w' := fun w' hb => ⟨hb, by decide, false, 0, none, 0, 0, 0, none, 0, 0, rfl, CxX.nil _ _ _, Nat.zero_le _⟩
  have HERR := Lib.hid herr
  clear herr
  rcases hk with hk | hk | hk
  · cases hvl : v.l with
    | nil =>
      have HO := Lib.hid (show opO apR x [v] f = .err 13 by unfold opO; rw [hk, ropR_88, hvl]; rfl)
      rw [HO.out, hk]
      go_enter Try.func38, Try.ntmps38
      go_upto_region 1 with fail
      rw [hvl] at H2
      generalize (w.alloc _).alloc _ = W at H2 ⊢
      obtain ⟨⟨x0, x1, x2, x3, x4, x5⟩, _⟩ := H2.out.1.six
      obtain ⟨⟨y0, y1, y2, y3, y4, y5⟩, f0, f1, f2, f3, f4, f5⟩ := H2.out.2.1.six
      go_wp2_with fail
      have HF := Lib.hid (And.intro (H2.out.2.1.set6 (.bool false) (.int .i64 0) (.slice none 0 0) (.int .i64 0) (.slice none 0 0) (.int .i64 13)) (belowR6 H2.out.2.2 (Nat.le_add_right w.heap.size 1) (.bool false) (.int .i64 0) (.slice none 0 0) (.int .i64 0) (.slice none 0 0) (.int .i64 13)))
      generalize World.setCell _ _ _ = WF at HF ⊢
      obtain ⟨⟨g0, g1, g2, g3, g4, g5⟩, _⟩ := HF.out.1.six
      exact bodyPost_ret (v := .agg #[.bool false, .int .i64 0, .slice none 0 0, .int .i64 0, .slice none 0 0, .int .i64 13]) (by simp [results, Try.results38, go_sem, g0, g1, g2, g3, g4, g5]) rfl (HERR.out _ HF.out.2)
    | cons y q =>
      rw [hvl] at HI hc H2
      have hcc : (y :: q).length ≤ c := hc
      have HO := Lib.hid (show opO apR x [v] f = .ok ⟨false, y, []⟩ f [] by unfold opO; rw [hk, ropR_88, hvl]; rfl)
      rw [HO.out, hk]
      go_enter Try.func38, Try.ntmps38
      go_upto_region 1 with fail
      generalize (w.alloc _).alloc _ = W at H2 ⊢
      obtain ⟨⟨x0, x1, x2, x3, x4, x5⟩, k0, k1, k2, k3, k4, k5⟩ := H2.out.1.six
      obtain ⟨bi, oi, ei, _, ci⟩ := HI.out 0 y rfl
      subst ei
      rw [Nat.add_zero] at ci
      replace ci := below_cell H2.out.2.2 ci
      go_wp2_with fail
      refine (rnum_any y W).mono ?_
      rintro e w7 ⟨rfl, hbw7⟩
      have Aw7 := Lib.hid (H2.out.1.below hbw7)
      have Bw7 := Lib.hid (H2.out.2.1.below hbw7)
      have Cw7 := Lib.hid (below_step H2.out.2.2 H2.out.2.2.size hbw7)
      obtain ⟨⟨x0, x1, x2, x3, x4, x5⟩, k0, k1, k2, k3, k4, k5⟩ := Aw7.out.six
      obtain ⟨⟨y0, y1, y2, y3, y4, y5⟩, f0, f1, f2, f3, f4, f5⟩ := Bw7.out.six
      clear hbw7
      go_wp2_with fail
      have HF := Lib.hid (set36 Bw7.out Cw7.out (Nat.le_refl _) (.bool false) (.int .i64 y) (.slice none 0 0) (.bool false) (.int .i64 y) (.slice none 0 0) (.int .i64 f) (.slice Ac mc cc) (.int .i64 0))
      generalize World.setCell _ _ _ = WF at HF ⊢
      obtain ⟨⟨g0, g1, g2, g3, g4, g5⟩, _⟩ := HF.out.1.six
      exact bodyPost_ret (v := .agg #[.bool false, .int .i64 y, .slice none 0 0, .int .i64 f, .slice Ac mc cc, .int .i64 0]) (by simp [results, Try.results38, go_sem, g0, g1, g2, g3, g4, g5]) rfl ⟨HF.out.2, none, 0, Ac, mc, cc, rfl, HC.out.le (Le.below HF.out.2 fun _ _ e => e), hm, IntsX.nil _ _ _, Nat.le_refl 0, Nat.zero_le _⟩
  · cases hvl : v.l with
    | nil =>
      have HO := Lib.hid (show opO apR x [v] f = .err 13 by unfold opO; rw [hk, ropR_89, hvl]; rfl)
      rw [HO.out, hk]
      go_enter Try.func38, Try.ntmps38
      go_upto_region 1 with fail
      rw [hvl] at H2
      generalize (w.alloc _).alloc _ = W at H2 ⊢
      obtain ⟨⟨x0, x1, x2, x3, x4, x5⟩, _⟩ := H2.out.1.six
      obtain ⟨⟨y0, y1, y2, y3, y4, y5⟩, f0, f1, f2, f3, f4, f5⟩ := H2.out.2.1.six
      go_wp2_with fail
      have HF := Lib.hid (And.intro (H2.out.2.1.set6 (.bool false) (.int .i64 0) (.slice none 0 0) (.int .i64 0) (.slice none 0 0) (.int .i64 13)) (belowR6 H2.out.2.2 (Nat.le_add_right w.heap.size 1) (.bool false) (.int .i64 0) (.slice none 0 0) (.int .i64 0) (.slice none 0 0) (.int .i64 13)))
      generalize World.setCell _ _ _ = WF at HF ⊢
      obtain ⟨⟨g0, g1, g2, g3, g4, g5⟩, _⟩ := HF.out.1.six
      exact bodyPost_ret (v := .agg #[.bool false, .int .i64 0, .slice none 0 0, .int .i64 0, .slice none 0 0, .int .i64 13]) (by simp [results, Try.results38, go_sem, g0, g1, g2, g3, g4, g5]) rfl (HERR.out _ HF.out.2)
    | cons y q =>
      rw [hvl] at HI hc H2
      have hcc : (y :: q).length ≤ c := hc
      have HO := Lib.hid (show opO apR x [v] f = .ok ⟨true, 0, q⟩ f [] by unfold opO; rw [hk, ropR_89, hvl]; rfl)
      rw [HO.out, hk]
      go_enter Try.func38, Try.ntmps38
      go_upto_region 1 with fail
      generalize (w.alloc _).alloc _ = W at H2 ⊢
      obtain ⟨⟨x0, x1, x2, x3, x4, x5⟩, k0, k1, k2, k3, k4, k5⟩ := H2.out.1.six
      obtain ⟨⟨y0, y1, y2, y3, y4, y5⟩, f0, f1, f2, f3, f4, f5⟩ := H2.out.2.1.six
      obtain ⟨bi, oi, ei, _, ci⟩ := HI.out 0 y rfl
      subst ei
      clear ci
      by_cases hc1 : c = 1
      · subst hc1
        have hq : q = [] := List.length_eq_zero_iff.1 (by rw [List.length_cons] at hcc; omega)
        subst hq
        go_wp2_with fail
        have HF := Lib.hid (set36 H2.out.2.1 H2.out.2.2 (Nat.le_refl _) (.bool true) (.int .i64 0) (.slice (some ⟨bi, oi, none⟩) 0 0) (.bool true) (.int .i64 0) (.slice (some ⟨bi, oi, none⟩) 0 0) (.int .i64 f) (.slice Ac mc cc) (.int .i64 0))
        generalize World.setCell _ _ _ = WF at HF ⊢
        obtain ⟨⟨g0, g1, g2, g3, g4, g5⟩, _⟩ := HF.out.1.six
        exact bodyPost_ret (v := .agg #[.bool true, .int .i64 0, .slice (some ⟨bi, oi, none⟩) 0 0, .int .i64 f, .slice Ac mc cc, .int .i64 0]) (by simp [results, Try.results38, go_sem, g0, g1, g2, g3, g4, g5]) rfl ⟨HF.out.2, some ⟨bi, oi, none⟩, 0, Ac, mc, cc, rfl, HC.out.le (Le.below HF.out.2 fun _ _ e => e), hm, IntsX.nil _ _ _, Nat.le_refl 0, Nat.zero_le _⟩
      · have hc2 : 1 < c := by simp at hcc; omega
        have hcq : q.length ≤ c - 1 := by simp at hcc; omega
        have HT := Lib.hid (IntsX.tail HI.out)
        have hql : q.length ≤ 1000000 := by rw [hvl] at hl; simp at hl; omega
        have hll : (1 : Int) ≤ (q.length : Int) + 1 := by omega
        go_wp2_with fail
        have HF := Lib.hid (set36 H2.out.2.1 H2.out.2.2 (Nat.le_refl _) (.bool true) (.int .i64 0) (.slice (some ⟨bi, oi + 1, none⟩) q.length (c - 1)) (.bool true) (.int .i64 0) (.slice (some ⟨bi, oi + 1, none⟩) q.length (c - 1)) (.int .i64 f) (.slice Ac mc cc) (.int .i64 0))
        generalize World.setCell _ _ _ = WF at HF ⊢
        obtain ⟨⟨g0, g1, g2, g3, g4, g5⟩, _⟩ := HF.out.1.six
        exact bodyPost_ret (v := .agg #[.bool true, .int .i64 0, .slice (some ⟨bi, oi + 1, none⟩) q.length (c - 1), .int .i64 f, .slice Ac mc cc, .int .i64 0]) (by simp [results, Try.results38, go_sem, g0, g1, g2, g3, g4, g5]) rfl ⟨HF.out.2, some ⟨bi, oi + 1, none⟩, c - 1, Ac, mc, cc, rfl, HC.out.le (Le.below HF.out.2 fun _ _ e => e), hm, HT.out.le (Le.below HF.out.2 fun _ _ e => e), hcq, hql⟩
  · cases hvl : v.l with
    | nil =>
      rw [hvl] at HI hc H2
      have HO := Lib.hid (show opO apR x [v] f = .ok ⟨false, 1, []⟩ f [] by unfold opO; rw [hk, ropR_90, hvl]; rfl)
      rw [HO.out, hk]
      go_enter Try.func38, Try.ntmps38
      go_upto_region 1 with fail
      generalize (w.alloc _).alloc _ = W at H2 ⊢
      obtain ⟨⟨x0, x1, x2, x3, x4, x5⟩, k0, k1, k2, k3, k4, k5⟩ := H2.out.1.six
      go_wp2_with fail
      refine (rnum_any 0 W).mono ?_
      rintro e w7 ⟨rfl, hbw7⟩
      have Aw7 := Lib.hid (H2.out.1.below hbw7)
      have Bw7 := Lib.hid (H2.out.2.1.below hbw7)
      have Cw7 := Lib.hid (below_step H2.out.2.2 H2.out.2.2.size hbw7)
      obtain ⟨⟨x0, x1, x2, x3, x4, x5⟩, k0, k1, k2, k3, k4, k5⟩ := Aw7.out.six
      obtain ⟨⟨y0, y1, y2, y3, y4, y5⟩, f0, f1, f2, f3, f4, f5⟩ := Bw7.out.six
      clear hbw7
      go_wp2_with fail
      have HG := Lib.hid (And.intro ((Bw7.out.fr (Fr.set3 w7 w.heap.size (.bool false) (.int .i64 0) (.slice none 0 0)) (by omega))) (And.intro ((Bx.pre3 Aw7.out (.bool false) (.int .i64 0) (.slice none 0 0))) (belowR3 Cw7.out (Nat.le_refl _) (.bool false) (.int .i64 0) (.slice none 0 0))))
      generalize World.setCell _ _ _ = W8 at HG ⊢
      refine (rnum_any 1 W8).mono ?_
      rintro e w9 ⟨rfl, hb9⟩
      have A9 := Lib.hid (HG.out.2.1.below hb9)
      have B9 := Lib.hid (HG.out.1.below hb9)
      have C9 := Lib.hid (below_step HG.out.2.2 HG.out.2.2.size hb9)
      clear x0 x1 x2 x3 x4 x5 k0 k1 k2 k3 k4 k5 y0 y1 y2 y3 y4 y5 f0 f1 f2 f3 f4 f5 hb9
      obtain ⟨⟨x0, x1, x2, x3, x4, x5⟩, k0, k1, k2, k3, k4, k5⟩ := A9.out.six
      obtain ⟨⟨y0, y1, y2, y3, y4, y5⟩, f0, f1, f2, f3, f4, f5⟩ := B9.out.six
      go_wp2_with fail
      have HF := Lib.hid (set36 B9.out C9.out (Nat.le_refl _) (.bool false) (.int .i64 1) (.slice none 0 0) (.bool false) (.int .i64 1) (.slice none 0 0) (.int .i64 f) (.slice Ac mc cc) (.int .i64 0))
      generalize World.setCell _ _ _ = WF at HF ⊢
      obtain ⟨⟨g0, g1, g2, g3, g4, g5⟩, _⟩ := HF.out.1.six
      exact bodyPost_ret (v := .agg #[.bool false, .int .i64 1, .slice none 0 0, .int .i64 f, .slice Ac mc cc, .int .i64 0]) (by simp [results, Try.results38, go_sem, g0, g1, g2, g3, g4, g5]) rfl ⟨HF.out.2, none, 0, Ac, mc, cc, rfl, HC.out.le (Le.below HF.out.2 fun _ _ e => e), hm, IntsX.nil _ _ _, Nat.le_refl 0, Nat.zero_le _⟩
    | cons y q =>
      rw [hvl] at HI hc H2
      have HO := Lib.hid (show opO apR x [v] f = .ok zeroV f [] by unfold opO; rw [hk, ropR_90, hvl]; rfl)
      rw [HO.out, hk]
      go_enter Try.func38, Try.ntmps38
      go_upto_region 1 with fail
      generalize (w.alloc _).alloc _ = W at H2 ⊢
      obtain ⟨⟨x0, x1, x2, x3, x4, x5⟩, k0, k1, k2, k3, k4, k5⟩ := H2.out.1.six
      go_wp2_with fail
      refine (rnum_any 0 W).mono ?_
      rintro e w7 ⟨rfl, hbw7⟩
      have Aw7 := Lib.hid (H2.out.1.below hbw7)
      have Bw7 := Lib.hid (H2.out.2.1.below hbw7)
      have Cw7 := Lib.hid (below_step H2.out.2.2 H2.out.2.2.size hbw7)
      obtain ⟨⟨x0, x1, x2, x3, x4, x5⟩, k0, k1, k2, k3, k4, k5⟩ := Aw7.out.six
      obtain ⟨⟨y0, y1, y2, y3, y4, y5⟩, f0, f1, f2, f3, f4, f5⟩ := Bw7.out.six
      clear hbw7
      have hlq : ¬ (q.length : Int) + 1 = 0 := by omega
      go_wp2_with fail
      have HF := Lib.hid (set36 Bw7.out Cw7.out (Nat.le_refl _) (.bool false) (.int .i64 0) (.slice none 0 0) (.bool false) (.int .i64 0) (.slice none 0 0) (.int .i64 f) (.slice Ac mc cc) (.int .i64 0))
      generalize World.setCell _ _ _ = WF at HF ⊢
      obtain ⟨⟨g0, g1, g2, g3, g4, g5⟩, _⟩ := HF.out.1.six
      exact bodyPost_ret (v := .agg #[.bool false, .int .i64 0, .slice none 0 0, .int .i64 f, .slice Ac mc cc, .int .i64 0]) (by simp [results, Try.results38, go_sem, g0, g1, g2, g3, g4, g5]) rfl ⟨HF.out.2, none, 0, Ac, mc, cc, rfl, HC.out.le (Le.below HF.out.2 fun _ _ e => e), hm, IntsX.nil _ _ _, Nat.le_refl 0, Nat.zero_le _⟩

end Go.Proofs.Ytoankdaddgjnlaa

namespace Go.Proofs.Ytoankdaddgjnlaa
open Go.ChangeShapes Go.WideShapes Go.ChangeAt Go.RowKit Go.Sort

set_option maxRecDepth 100000 in
theorem rtruth_any (b : Bool) (w : World) :
    Calls Try.prog 52 #[.bool b] w fun e w' => e = .returned (.int .i64 (numB b)) ∧ w = w' := by
  cases b <;>
  · go_enter Try.func52, Try.ntmps52
    go_wp2_with fail
    go_ret
    exact ⟨rfl, rfl⟩
set_option maxRecDepth 100000 in
theorem rapply_8 (x y : Int) (w : World) :
    Calls Try.prog 39 #[.int .u8 8, .int .i64 x, .int .i64 y] w fun e w' => e = .returned (.tuple #[.int .i64 (apR 8 x y).1, .int .i64 (apR 8 x y).2]) ∧ w = w' := by
  go_enter Try.func39, Try.ntmps39
  go_wp2_with (first | ((with_reducible refine (rtruth_any _ _).mono ?_); rintro e w ⟨rfl, rfl⟩))
  all_goals
    go_ret2
    exact ⟨rfl, rfl⟩
set_option maxRecDepth 100000 in
theorem rapply_9 (x y : Int) (w : World) :
    Calls Try.prog 39 #[.int .u8 9, .int .i64 x, .int .i64 y] w fun e w' => e = .returned (.tuple #[.int .i64 (apR 9 x y).1, .int .i64 (apR 9 x y).2]) ∧ w = w' := by
  go_enter Try.func39, Try.ntmps39
  go_wp2_with (first | ((with_reducible refine (rtruth_any _ _).mono ?_); rintro e w ⟨rfl, rfl⟩))
  all_goals
    go_ret2
    exact ⟨rfl, rfl⟩
set_option maxRecDepth 100000 in
theorem rapply_10 (x y : Int) (w : World) :
    Calls Try.prog 39 #[.int .u8 10, .int .i64 x, .int .i64 y] w fun e w' => e = .returned (.tuple #[.int .i64 (apR 10 x y).1, .int .i64 (apR 10 x y).2]) ∧ w = w' := by
  go_enter Try.func39, Try.ntmps39
  go_wp2_with (first | ((with_reducible refine (rtruth_any _ _).mono ?_); rintro e w ⟨rfl, rfl⟩))
  all_goals
    go_ret2
    exact ⟨rfl, rfl⟩
set_option maxRecDepth 100000 in
theorem rapply_11 (x y : Int) (w : World) :
    Calls Try.prog 39 #[.int .u8 11, .int .i64 x, .int .i64 y] w fun e w' => e = .returned (.tuple #[.int .i64 (apR 11 x y).1, .int .i64 (apR 11 x y).2]) ∧ w = w' := by
  by_cases hy : y = 0
  · subst hy
    go_enter Try.func39, Try.ntmps39
    go_wp2_with fail
    go_ret2
    exact ⟨by rw [show apR 11 x 0 = (0, 11) from divR_0 11 x]; rfl, rfl⟩
  · have hy1 : (y == 0) = false := by simpa using hy
    have HA := Lib.hid (show apR 11 x y = (wrap64 (x.tdiv y), 0) from divR_1 hy x)
    rw [HA.out]
    go_enter Try.func39, Try.ntmps39
    go_wp2_with fail
    go_ret2
    exact ⟨rfl, rfl⟩
set_option maxRecDepth 100000 in
theorem rapply_12 (x y : Int) (w : World) :
    Calls Try.prog 39 #[.int .u8 12, .int .i64 x, .int .i64 y] w fun e w' => e = .returned (.tuple #[.int .i64 (apR 12 x y).1, .int .i64 (apR 12 x y).2]) ∧ w = w' := by
  by_cases hy : y = 0
  · subst hy
    go_enter Try.func39, Try.ntmps39
    go_wp2_with fail
    go_ret2
    exact ⟨by rw [show apR 12 x 0 = (0, 11) from divR_0 12 x]; rfl, rfl⟩
  · have hy1 : (y == 0) = false := by simpa using hy
    have HA := Lib.hid (show apR 12 x y = (x.tmod y, 0) from divR_2 hy (by decide) x)
    rw [HA.out]
    go_enter Try.func39, Try.ntmps39
    go_wp2_with fail
    go_ret2
    exact ⟨rfl, rfl⟩
set_option maxRecDepth 100000 in
theorem rapply_13 (x y : Int) (w : World) :
    Calls Try.prog 39 #[.int .u8 13, .int .i64 x, .int .i64 y] w fun e w' => e = .returned (.tuple #[.int .i64 (apR 13 x y).1, .int .i64 (apR 13 x y).2]) ∧ w = w' := by
  go_enter Try.func39, Try.ntmps39
  go_wp2_with (first | ((with_reducible refine (rtruth_any _ _).mono ?_); rintro e w ⟨rfl, rfl⟩))
  all_goals
    go_ret2
    exact ⟨rfl, rfl⟩
set_option maxRecDepth 100000 in
theorem rapply_14 (x y : Int) (w : World) :
    Calls Try.prog 39 #[.int .u8 14, .int .i64 x, .int .i64 y] w fun e w' => e = .returned (.tuple #[.int .i64 (apR 14 x y).1, .int .i64 (apR 14 x y).2]) ∧ w = w' := by
  go_enter Try.func39, Try.ntmps39
  go_wp2_with (first | ((with_reducible refine (rtruth_any _ _).mono ?_); rintro e w ⟨rfl, rfl⟩))
  all_goals
    go_ret2
    exact ⟨rfl, rfl⟩
set_option maxRecDepth 100000 in
theorem rapply_15 (x y : Int) (w : World) :
    Calls Try.prog 39 #[.int .u8 15, .int .i64 x, .int .i64 y] w fun e w' => e = .returned (.tuple #[.int .i64 (apR 15 x y).1, .int .i64 (apR 15 x y).2]) ∧ w = w' := by
  go_enter Try.func39, Try.ntmps39
  go_wp2_with (first | ((with_reducible refine (rtruth_any _ _).mono ?_); rintro e w ⟨rfl, rfl⟩))
  all_goals
    go_ret2
    exact ⟨rfl, rfl⟩
set_option maxRecDepth 100000 in
theorem rapply_16 (x y : Int) (w : World) :
    Calls Try.prog 39 #[.int .u8 16, .int .i64 x, .int .i64 y] w fun e w' => e = .returned (.tuple #[.int .i64 (apR 16 x y).1, .int .i64 (apR 16 x y).2]) ∧ w = w' := by
  go_enter Try.func39, Try.ntmps39
  go_wp2_with (first | ((with_reducible refine (rtruth_any _ _).mono ?_); rintro e w ⟨rfl, rfl⟩))
  all_goals
    go_ret2
    exact ⟨rfl, rfl⟩
set_option maxRecDepth 100000 in
theorem rapply_17 (x y : Int) (w : World) :
    Calls Try.prog 39 #[.int .u8 17, .int .i64 x, .int .i64 y] w fun e w' => e = .returned (.tuple #[.int .i64 (apR 17 x y).1, .int .i64 (apR 17 x y).2]) ∧ w = w' := by
  go_enter Try.func39, Try.ntmps39
  go_wp2_with (first | ((with_reducible refine (rtruth_any _ _).mono ?_); rintro e w ⟨rfl, rfl⟩))
  all_goals
    go_ret2
    exact ⟨rfl, rfl⟩
set_option maxRecDepth 100000 in
theorem rapply_18 (x y : Int) (w : World) :
    Calls Try.prog 39 #[.int .u8 18, .int .i64 x, .int .i64 y] w fun e w' => e = .returned (.tuple #[.int .i64 (apR 18 x y).1, .int .i64 (apR 18 x y).2]) ∧ w = w' := by
  go_enter Try.func39, Try.ntmps39
  go_wp2_with (first | ((with_reducible refine (rtruth_any _ _).mono ?_); rintro e w ⟨rfl, rfl⟩))
  all_goals
    go_ret2
    exact ⟨rfl, rfl⟩
set_option maxRecDepth 100000 in
theorem rapply_19 (x y : Int) (w : World) :
    Calls Try.prog 39 #[.int .u8 19, .int .i64 x, .int .i64 y] w fun e w' => e = .returned (.tuple #[.int .i64 (apR 19 x y).1, .int .i64 (apR 19 x y).2]) ∧ w = w' := by
  go_enter Try.func39, Try.ntmps39
  go_wp2_with (first | ((with_reducible refine (rtruth_any _ _).mono ?_); rintro e w ⟨rfl, rfl⟩))
  all_goals
    go_ret2
    exact ⟨rfl, rfl⟩
set_option maxRecDepth 100000 in
theorem rapply_20 (x y : Int) (w : World) :
    Calls Try.prog 39 #[.int .u8 20, .int .i64 x, .int .i64 y] w fun e w' => e = .returned (.tuple #[.int .i64 (apR 20 x y).1, .int .i64 (apR 20 x y).2]) ∧ w = w' := by
  go_enter Try.func39, Try.ntmps39
  go_wp2_with (first | ((with_reducible refine (rtruth_any _ _).mono ?_); rintro e w ⟨rfl, rfl⟩))
  all_goals
    go_ret2
    exact ⟨rfl, rfl⟩
set_option maxRecDepth 100000 in
theorem rapply_21 (x y : Int) (w : World) :
    Calls Try.prog 39 #[.int .u8 21, .int .i64 x, .int .i64 y] w fun e w' => e = .returned (.tuple #[.int .i64 (apR 21 x y).1, .int .i64 (apR 21 x y).2]) ∧ w = w' := by
  go_enter Try.func39, Try.ntmps39
  go_wp2_with (first | ((with_reducible refine (rtruth_any _ _).mono ?_); rintro e w ⟨rfl, rfl⟩))
  all_goals
    go_ret2
    exact ⟨rfl, rfl⟩
set_option maxRecDepth 100000 in
theorem rapply_22 (x y : Int) (w : World) :
    Calls Try.prog 39 #[.int .u8 22, .int .i64 x, .int .i64 y] w fun e w' => e = .returned (.tuple #[.int .i64 (apR 22 x y).1, .int .i64 (apR 22 x y).2]) ∧ w = w' := by
  have HA : apR 22 x y = (numB (x != 0 && y != 0), 0) := rfl
  cases hx : (x != 0) <;> cases hy : (y != 0)
  all_goals
    rw [HA, hx, hy]
    clear HA
    go_enter Try.func39, Try.ntmps39
    go_wp2_with (first | ((with_reducible refine (rtruth_any _ _).mono ?_); rintro e w ⟨rfl, rfl⟩))
    go_ret2
    exact ⟨rfl, rfl⟩
set_option maxRecDepth 100000 in
theorem rapply_23 (x y : Int) (w : World) :
    Calls Try.prog 39 #[.int .u8 23, .int .i64 x, .int .i64 y] w fun e w' => e = .returned (.tuple #[.int .i64 (apR 23 x y).1, .int .i64 (apR 23 x y).2]) ∧ w = w' := by
  have HA : apR 23 x y = (numB (x != 0 || y != 0), 0) := rfl
  cases hx : (x != 0) <;> cases hy : (y != 0)
  all_goals
    rw [HA, hx, hy]
    clear HA
    go_enter Try.func39, Try.ntmps39
    go_wp2_with (first | ((with_reducible refine (rtruth_any _ _).mono ?_); rintro e w ⟨rfl, rfl⟩))
    go_ret2
    exact ⟨rfl, rfl⟩
theorem rapply_any (k : Nat) (h : 8 ≤ k) (h' : k ≤ 23) (x y : Int) (w : World) :
    Calls Try.prog 39 #[.int .u8 k, .int .i64 x, .int .i64 y] w fun e w' => e = .returned (.tuple #[.int .i64 (apR k x y).1, .int .i64 (apR k x y).2]) ∧ w = w' := by
  have hk : k = 8 ∨ k = 9 ∨ k = 10 ∨ k = 11 ∨ k = 12 ∨ k = 13 ∨ k = 14 ∨ k = 15 ∨ k = 16 ∨ k = 17 ∨ k = 18 ∨ k = 19 ∨ k = 20 ∨ k = 21 ∨ k = 22 ∨ k = 23 := by omega
  clear h h'
  rcases hk with rfl | rfl | rfl | rfl | rfl | rfl | rfl | rfl | rfl | rfl | rfl | rfl | rfl | rfl | rfl | rfl
  · exact rapply_8 x y w
  · exact rapply_9 x y w
  · exact rapply_10 x y w
  · exact rapply_11 x y w
  · exact rapply_12 x y w
  · exact rapply_13 x y w
  · exact rapply_14 x y w
  · exact rapply_15 x y w
  · exact rapply_16 x y w
  · exact rapply_17 x y w
  · exact rapply_18 x y w
  · exact rapply_19 x y w
  · exact rapply_20 x y w
  · exact rapply_21 x y w
  · exact rapply_22 x y w
  · exact rapply_23 x y w

end Go.Proofs.Ytoankdaddgjnlaa

namespace Go.Proofs.Ytoankdaddgjnlaa

def Cl (v : Vl) : Prop := cln v = v
theorem cl_num (n : Int) : Cl ⟨false, n, []⟩ := rfl
theorem cl_lst (l : List Int) : Cl ⟨true, 0, l⟩ := rfl
theorem cl_zero : Cl zeroV := rfl
theorem cl_cln (v : Vl) : Cl (cln v) := by
  unfold Cl
  obtain ⟨l, n, q⟩ := v
  cases l <;> rfl
theorem opR_cl (ap : Int → Int → Int → Int × Int) (kind : Nat) (num : Int) (l : List Vl) : Cl (opR ap kind num l).1 := by
  unfold opR
  by_cases h1 : kind = 82
  · rw [if_pos h1]; exact cl_num _
  rw [if_neg h1]
  by_cases h2 : kind = 87
  · rw [if_pos h2]
    split
    · exact cl_zero
    · exact cl_lst _
  rw [if_neg h2]
  by_cases h3 : kind = 88
  · rw [if_pos h3]
    split
    · exact cl_zero
    · exact cl_num _
  rw [if_neg h3]
  by_cases h4 : kind = 89
  · rw [if_pos h4]
    split
    · exact cl_zero
    · exact cl_lst _
  rw [if_neg h4]
  by_cases h5 : kind = 90
  · rw [if_pos h5]
    split
    · exact cl_num _
    · exact cl_zero
  rw [if_neg h5]
  exact cl_lst _
/-- The value of an outcome is clean. -/
def Out.cl : Out → Prop
  | .err _ => True
  | .ok v _ _ => Cl v
theorem Out.pre_cl {c : List Tr} {o : Out} (h : o.cl) : (o.pre c).cl := by cases o <;> exact h
theorem Out.bind_cl {o : Out} {k : Vl → Nat → Out} (h : o.cl) (hk : ∀ v f, Cl v → (k v f).cl) : (o.bind k).cl := by
  cases o with
  | err e => trivial
  | ok v f c => exact Out.pre_cl (hk v f h)
theorem OutL.bind_cl {o : OutL} {k : List Vl → Nat → Out} (hk : ∀ v f, (k v f).cl) : (o.bind k).cl := by
  cases o with
  | err e => trivial
  | ok v f c => exact Out.pre_cl (hk v f)
theorem enter_cl {lib : List Fn1} {E : Nat → (ByteArray → Option Vl) → Nd → Nat → Out} (act : Nat) (i : Int) (args : List Vl) (f : Nat) : (enter lib E act i args f).out.cl := by
  unfold enter
  split
  · trivial
  split
  · trivial
  rename_i fn _
  cases E (act + 1) (envV fn.params args fun _ => none) fn.body f with
  | err e => trivial
  | ok y f1 c => exact cl_cln y
theorem opO_cl (ap : Int → Int → Int → Int × Int) (x : Nd) (l : List Vl) (f : Nat) : (opO ap x l f).cl := by
  unfold opO
  split
  · exact opR_cl _ _ _ _
  · trivial
theorem ev_cl (ap : Int → Int → Int → Int × Int) (lib : List Fn1) : ∀ (d act : Nat) (env : ByteArray → Option Vl) (x : Nd) (f : Nat), (∀ s u, env s = some u → Cl u) → (ev ap lib d act env x f).cl
  | 0, _, _, _, _, _ => trivial
  | d + 1, act, env, x, f, he => by
    have ih := ev_cl ap lib d
    rw [ev]
    split
    · trivial
    split
    · exact cl_num _
    split
    · show Cl ((env x.name).getD zeroV)
      cases h : env x.name with
      | none => exact cl_zero
      | some u => exact he _ _ h
    split
    · exact Out.bind_cl (ih _ _ _ _ he) fun v g hv => ih _ _ _ _ he
    split
    · refine Out.bind_cl (ih _ _ _ _ he) fun v g hv => ih _ _ _ _ fun s u hs => ?_
      unfold setV at hs
      split at hs
      · cases hs; exact hv
      · exact he s u hs
    · refine OutL.bind_cl fun v g => ?_
      split
      · exact enter_cl _ _ _ _
      · exact opO_cl _ _ _ _

end Go.Proofs.Ytoankdaddgjnlaa
