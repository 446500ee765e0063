/-
  Binds in memory, with the capacities of their lists.
  The law's binds and plain: a copy for the reference.
  The law's plain: a copy of a library for the reference.
  The reference's Params, Strings, Binds, Same, of equal things.
  The reference's Binds and Same, of equal things.
-/
import Derived.Test.YtcoeakdpcigogaaDoorAnfMem
import Derived.Test.YtcoeakdpcigogaaDoorFunCheck
import Derived.Test.YtcoeakdpcigogaaDoorAnfNz
import Derived.Test.YtcoeakdpcigogaaDoorAnfVl4
import Derived.Test.YtcoeakdpcigogaaDoorAnfVl6
namespace Go.Proofs.YtcoeakdpcigogaaDoor
open Go.ChangeShapes Go.WideShapes Go.ChangeAt Go.RowKit Go.Sort Go.Maps

/-! ### Binds with capacities -/
inductive BcO (w : World) (X : Nat → Prop) : Nat → Nat → Bd → Prop
  | mk {b o : Nat} {t : Bd} {Aa At Ae : Option Addr} {ca ct ce bt ot be oe : Nat} (hX : ¬ X b)
      (c0 : w.cell? ⟨b, o, none⟩ = some (.string t.to)) (c1 : w.cell? ⟨b, o + 1, none⟩ = some (.bool t.list)) (c2 : w.cell? ⟨b, o + 2, none⟩ = some (.int .u8 t.op)) (c3 : w.cell? ⟨b, o + 3, none⟩ = some (.int .i64 t.num)) (c4 : w.cell? ⟨b, o + 4, none⟩ = some (.string t.name))
      (c5 : w.cell? ⟨b, o + 5, none⟩ = some (.slice Aa t.args.length ca)) (ha : StrsX w X Aa t.args)
      (c6 : w.cell? ⟨b, o + 6, none⟩ = some (.slice At t.thn.length ct)) (hA : 0 < t.thn.length → At = some ⟨bt, ot, none⟩) (hk : ∀ k y, t.thn[k]? = some y → BcO w X bt (ot + k * 8) y)
      (c7 : w.cell? ⟨b, o + 7, none⟩ = some (.slice Ae t.els.length ce)) (hB : 0 < t.els.length → Ae = some ⟨be, oe, none⟩) (hj : ∀ k y, t.els[k]? = some y → BcO w X be (oe + k * 8) y) (ht : t.thn.length ≤ ct) (he : t.els.length ≤ ce) : BcO w X b o t
theorem BcO.le {w w' : World} {X X' : Nat → Prop} (hl : Le w X w' X') {b o : Nat} {t : Bd} (h : BcO w X b o t) : BcO w' X' b o t := by
  induction h with
  | mk hX c0 c1 c2 c3 c4 c5 ha c6 hA _ c7 hB _ ht he ih ij =>
    exact .mk (hl _ _ c0 hX).2 (hl _ _ c0 hX).1 (hl _ _ c1 hX).1 (hl _ _ c2 hX).1 (hl _ _ c3 hX).1 (hl _ _ c4 hX).1 (hl _ _ c5 hX).1 (ha.le hl) (hl _ _ c6 hX).1 hA ih (hl _ _ c7 hX).1 hB ij ht he
def BcsX (w : World) (X : Nat → Prop) (A : Option Addr) (l : List Bd) : Prop :=
  ∀ k t, l[k]? = some t → ∃ b o, A = some ⟨b, o, none⟩ ∧ BcO w X b (o + k * 8) t
theorem BcsX.le {w w' : World} {X X' : Nat → Prop} {A : Option Addr} {l : List Bd} (h : BcsX w X A l) (hl : Le w X w' X') : BcsX w' X' A l := fun k x hk => by
  obtain ⟨b, o, e, hi⟩ := h k x hk
  exact ⟨b, o, e, hi.le hl⟩
theorem BcsX.nil (w : World) (X : Nat → Prop) (A : Option Addr) : BcsX w X A [] := fun k x hk => by simp at hk
def BcC (w : World) (X : Nat → Prop) (cs : List Value) (t : Bd) : Prop := ∃ Aa ca At ct Ae ce, cs = [.string t.to, .bool t.list, .int .u8 t.op, .int .i64 t.num, .string t.name, .slice Aa t.args.length ca, .slice At t.thn.length ct, .slice Ae t.els.length ce] ∧ StrsX w X Aa t.args ∧ BcsX w X At t.thn ∧ BcsX w X Ae t.els ∧ t.thn.length ≤ ct ∧ t.els.length ≤ ce
theorem BcC.le {w w' : World} {X X' : Nat → Prop} (hl : Le w X w' X') (cs : List Value) (t : Bd) (h : BcC w X cs t) : BcC w' X' cs t := by
  obtain ⟨Aa, ca, At, ct, Ae, ce, e, h1, h2, h3, h4⟩ := h
  exact ⟨Aa, ca, At, ct, Ae, ce, e, h1.le hl, h2.le hl, h3.le hl, h4⟩
theorem BcC.len {w : World} {X : Nat → Prop} (cs : List Value) (t : Bd) (h : BcC w X cs t) : cs.length = 8 := by
  obtain ⟨Aa, ca, At, ct, Ae, ce, rfl, _⟩ := h; rfl
theorem BcC.one {w : World} {X : Nat → Prop} (cs : List Value) (t : Bd) (h : BcC w X cs t) : ∀ u ∈ cs, u.oneCell' = true := by
  obtain ⟨Aa, ca, At, ct, Ae, ce, rfl, _⟩ := h
  intro u hu
  simp at hu
  rcases hu with h | h | h | h | h | h | h | h <;> subst h <;> rfl
theorem bcO_of_cells {w : World} {X : Nat → Prop} {b o : Nat} {t : Bd} {cs : List Value} (h : BcC w X cs t) (hX : ¬ X b) (hc : ∀ j, j < 8 → w.cell? ⟨b, o + j, none⟩ = cs[j]?) : BcO w X b o t := by
  obtain ⟨Aa, ca, At, ct, Ae, ce, rfl, h1, h2, h3, h4, h5⟩ := h
  have key : ∀ {A : Option Addr} {l : List Bd}, BcsX w X A l → ∃ bt ot, (0 < l.length → A = some ⟨bt, ot, none⟩) ∧ ∀ k y, l[k]? = some y → BcO w X bt (ot + k * 8) y := fun {A l} h => by
    by_cases h0 : 0 < l.length
    · obtain ⟨b', o', rfl, _⟩ := h 0 _ (List.getElem?_eq_getElem h0)
      refine ⟨b', o', fun _ => rfl, fun k y hy => ?_⟩
      obtain ⟨b2, o2, e, h4⟩ := h k y hy
      cases e
      exact h4
    · exact ⟨0, 0, fun h => absurd h h0, fun k y hy => by have := (List.getElem?_eq_some_iff.1 hy).1; omega⟩
  obtain ⟨bt, ot, k1, k2⟩ := key h2
  obtain ⟨be, oe, j1, j2⟩ := key h3
  exact .mk hX (hc 0 (by omega)) (hc 1 (by omega)) (hc 2 (by omega)) (hc 3 (by omega)) (hc 4 (by omega)) (hc 5 (by omega)) h1 (hc 6 (by omega)) k1 k2 (hc 7 (by omega)) j1 j2 h4 h5
theorem BcO.open_ {w : World} {X : Nat → Prop} {b o : Nat} {t : Bd} (h : BcO w X b o t) : ∃ cs, BcC w X cs t ∧ ¬ X b ∧ ∀ (j : Nat) (u : Value), cs[j]? = some u → w.cell? ⟨b, o + j, none⟩ = some u := by
  cases h with
  | @mk _ _ _ Aa At Ae ca ct ce bt ot be oe hX c0 c1 c2 c3 c4 c5 ha c6 hA hk c7 hB hj ht he =>
    refine ⟨_, ⟨Aa, ca, At, ct, Ae, ce, rfl, ha, fun k y hy => ?_, fun k y hy => ?_, ht, he⟩, hX, fun j u hu => ?_⟩
    · exact ⟨bt, ot, hA (by have := (List.getElem?_eq_some_iff.1 hy).1; omega), hk k y hy⟩
    · exact ⟨be, oe, hB (by have := (List.getElem?_eq_some_iff.1 hy).1; omega), hj k y hy⟩
    · match j, hu with
      | 0, hu => cases hu; exact c0
      | 1, hu => cases hu; exact c1
      | 2, hu => cases hu; exact c2
      | 3, hu => cases hu; exact c3
      | 4, hu => cases hu; exact c4
      | 5, hu => cases hu; exact c5
      | 6, hu => cases hu; exact c6
      | 7, hu => cases hu; exact c7
      | j + 8, hu => simp at hu
theorem bcsX_of_own {w : World} {X : Nat → Prop} {base : Nat} {e : TypeId} {v : Value} {cs : List Value} {l : List Bd} (h : w.ownsRow base e 8 v l.length cs) (hr : RowG (BcC w X) cs l) (hX : ∀ g, v.ownBlock = some g → ¬ X g) : ∃ A c, v = .slice A l.length c ∧ l.length ≤ c ∧ BcsX w X A l := by
  obtain ⟨_, c0, e0, h00, _⟩ := own_formB h
  rcases id h.2 with ⟨rfl, h0⟩ | ⟨g, cap, cur, rfl, hg, hh, hc1, hc2, hc3, hc4⟩
  · refine ⟨none, 0, by rw [h0], by omega, fun k x hk => ?_⟩
    have : l = [] := List.length_eq_zero_iff.1 h0
    subst this; simp at hk
  · cases e0
    refine ⟨some ⟨g, 0, none⟩, _, rfl, h00, fun k x hk => ⟨g, 0, rfl, ?_⟩⟩
    obtain ⟨c7, h3, h4⟩ := hr.get BcC.len k x hk
    refine bcO_of_cells h3 (hX g rfl) fun j hj => ?_
    rw [← h4 j hj]
    have hlen := hr.len BcC.len
    have hlt : k * 8 + j < cs.length := by
      have := (List.getElem?_eq_some_iff.1 hk).1; omega
    have := h.cells (g := g) rfl (k * 8 + j) _ (List.getElem?_eq_getElem hlt)
    rw [add0] at this
    rw [List.getElem?_eq_getElem hlt, Nat.zero_add]; exact this

theorem BcO.bd {w : World} {X : Nat → Prop} {b o : Nat} {t : Bd} (h : BcO w X b o t) : BdO w X b o t := by
  induction h with
  | mk hX c0 c1 c2 c3 c4 c5 ha c6 hA _ c7 hB _ ht he ih ij => exact .mk hX c0 c1 c2 c3 c4 c5 ha c6 hA ih c7 hB ij
theorem BcsX.bd {w : World} {X : Nat → Prop} {A : Option Addr} {l : List Bd} (h : BcsX w X A l) : BdsX w X A l := fun k t hk => by
  obtain ⟨b, o, e, hb⟩ := h k t hk
  exact ⟨b, o, e, hb.bd⟩

end Go.Proofs.YtcoeakdpcigogaaDoor

namespace Go.Proofs.YtcoeakdpcigogaaDoor
open Go.ChangeShapes Go.WideShapes Go.ChangeAt Go.RowKit Go.Sort Go.Maps

/-- Blocks between an old world and a later one. -/
def BnX (W0 w : World) : Nat → Prop := fun k => W0.heap.size ≤ k ∧ k < w.heap.size
def RetBn (W0 : World) (l : List Bd) (w : World) (e : Ending) (w' : World) : Prop := Below w.heap.size w w' ∧ ∃ A c, e = .returned (.slice A l.length c) ∧ BcsX w' (BnX W0 w) A l ∧ l.length ≤ c
/-- The copies so far. -/
def BnR (W0 w wr : World) (v : Value) (l : List Bd) : Prop := Below w.heap.size w wr ∧ ∃ cs, wr.ownsRow w.heap.size 92 8 v l.length cs ∧ RowG (BcC wr fun k => BnX W0 w k ∨ v.ownBlock = some k) cs l
theorem BnR.start (W0 w : World) : BnR W0 w w (.slice none 0 0) [] := ⟨Below.refl _ _, [], ⟨rfl, .inl ⟨rfl, rfl⟩⟩, .nil⟩
theorem BnR.push {W0 w wr w6 w9 : World} {v v' : Value} {l : List Bd} {t : Bd} {cs c8 : List Value} {o : Obj} (hb : Below w.heap.size w wr) (ho : wr.ownsRow w.heap.size 92 8 v l.length cs) (hr : RowG (BcC wr fun k => BnX W0 w k ∨ v.ownBlock = some k) cs l) (hb6 : Below wr.heap.size wr w6) (hc : BcC w6 (fun k => BnX W0 w k ∨ v.ownBlock = some k) c8 t)
    (hown' : w9.ownsRow w.heap.size 92 8 v' (l.length + 1) (cs ++ c8)) (hg : (w6.alloc o).grownBy w9 v.ownBlock) (hat : v'.ownBlock = v.ownBlock ∨ v'.ownBlock = some (w6.alloc o).heap.size) : BnR W0 w w9 v' (l ++ [t]) := by
  have hge := fun g e => (own_ty ho g e).1
  have hs6 := hb6.size
  have hso : (w6.alloc o).heap.size = w6.heap.size + 1 := by simp
  have f6 : Fr w6 w9 (fun k => some k = v.ownBlock) := (Fr.of_below (below_box w6 o) _).trans (Fr.of_grown hg) fun _ _ e => e
  have f9 : Fr wr w9 (fun k => some k = v.ownBlock) := (Fr.of_below hb6 (fun k => some k = v.ownBlock)).trans f6 fun _ _ e => e
  have key : ∀ k, k < w6.heap.size → (BnX W0 w k ∨ v'.ownBlock = some k) → (BnX W0 w k ∨ v.ownBlock = some k) := fun k hk e => by
    rcases e with e | e
    · exact .inl e
    · rcases hat with q | q
      · exact .inr (q ▸ e)
      · rw [q] at e; cases e; omega
  refine ⟨f9.toBelow hb hb.size fun k e => hge k e.symm, cs ++ c8, by rw [List.length_append]; exact hown', .snoc (hr.map fun c x h => BcC.le (Le.of_fr f9 (fun k _ e => .inr e.symm) fun k hk e => key k (by omega) e) c x h) (BcC.le (Le.of_fr f6 (fun k _ e => .inr e.symm) key) _ _ hc)⟩
theorem BnR.done {W0 w wr : World} {v : Value} {l : List Bd} (h : BnR W0 w wr v l) : ∃ A c, v = .slice A l.length c ∧ l.length ≤ c ∧ BcsX wr (BnX W0 w) A l := by
  obtain ⟨_, cs, ho, hr⟩ := h
  exact bcsX_of_own ho (hr.map fun c x h => BcC.le (Le.less fun _ _ e => .inl e) c x h) (fun g hg e => by have h1 := (own_ty ho g hg).1; have h2 : g < w.heap.size := e.2; omega)
/-- A bind's cells after both of its lists were copied. -/
theorem bn_cells {W0 w wr W W' w6 : World} {v : Value} {n : Nat} {cs : List Value} {t : Bd} {Aa At Ae : Option Addr} {ca ct ce : Nat} (hb0 : Below W0.heap.size W0 w) (hb : Below w.heap.size w wr) (ho : wr.ownsRow w.heap.size 92 8 v n cs) (hW : wr.heap.size ≤ W.heap.size) (hW' : wr.heap.size ≤ W'.heap.size) (hb6 : Below W0.heap.size W0 w6) (ha : StrsX W0 (fun _ => False) Aa t.args) (ht : BcsX w6 (BnX W0 W) At t.thn) (he : BcsX w6 (BnX W0 W') Ae t.els) (hct : t.thn.length ≤ ct) (hce : t.els.length ≤ ce) : BcC w6 (fun k => BnX W0 w k ∨ v.ownBlock = some k) [.string t.to, .bool t.list, .int .u8 t.op, .int .i64 t.num, .string t.name, .slice Aa t.args.length ca, .slice At t.thn.length ct, .slice Ae t.els.length ce] t := by
  have hs0 := hb0.size
  have hs := hb.size
  have key : ∀ (V : World), wr.heap.size ≤ V.heap.size → ∀ k, (BnX W0 w k ∨ v.ownBlock = some k) → BnX W0 V k := fun V hV k e => by
    rcases e with ⟨e1, e2⟩ | e
    · exact ⟨e1, by omega⟩
    · have h1 := (own_ty ho k e).1
      have h2 := (ho.lt k e).2
      exact ⟨by omega, by omega⟩
  refine ⟨Aa, ca, At, ct, Ae, ce, rfl, ha.le (Le.of_fr (Fr.of_below hb6 fun _ => False) (fun _ _ e => e) fun k hk e => ?_), ht.le (Le.less fun k _ e => key W hW k e), he.le (Le.less fun k _ e => key W' hW' k e), hct, hce⟩
  have := (key W hW k e).1
  omega
theorem info_rb : (Tryd.prog.info? 92).map (fun i => (i.zero, i.size, i.bytes)) = some (some (.agg #[.string ⟨#[]⟩, .bool false, .int .u8 0, .int .i64 0, .string ⟨#[]⟩, .slice none 0 0, .slice none 0 0, .slice none 0 0]), 8, 120) := by kernel_rfl

set_option maxRecDepth 100000 in
set_option maxHeartbeats 8000000 in
theorem binds_any : ∀ (N : Nat) (l : List Bd), bszL l < N → N ≤ 2000000 → ∀ (A : Option Addr) (c : Nat) (W0 w : World), BdsX W0 (fun _ => False) A l → Below W0.heap.size W0 w →
    Calls Tryd.prog 21 #[.slice A l.length c] w (RetBn W0 l w) := by
  intro N
  induction N with
  | zero =>
    intro l hl; omega
  | succ N ih =>
    intro l hl hN A c W0 w hA hb0
    have HA := Lib.hid hA
    have HB0 := Lib.hid hb0
    have HIH := Lib.hid ih
    have hll := bszL_len l
    obtain ⟨i0, hi0, hz0, hz1, hz2⟩ := info_parts info_rb
    have HI := Lib.hid (And.intro hi0 (And.intro hz0 (And.intro hz1 hz2)))
    clear ih hA hb0 hi0 hz0 hz1 hz2
    go_enter Tryd.func21, Tryd.ntmps21
    go_wp2_with fail
    go_loopw [3, 4] (fun v i wr => ∃ k : Nat, k ≤ l.length ∧ i = .int .i64 k ∧ Hid (BnR W0 w wr v (l.take k))) (fun _ i _ => l.length - (intOf i).toNat)
    case atStart => exact ⟨0, by omega, rfl, Lib.hid (BnR.start W0 w)⟩
    case round =>
      obtain ⟨k, hk, rfl, hrow⟩ := hrel
      by_cases hin : k < l.length
      · obtain ⟨hb, cs, ho, hr⟩ := hrow.out
        have HTK := Lib.hid (bszL_step hin)
        have HSTP := Lib.hid (List.take_succ_eq_append_getElem hin)
        have hlen : (l.take k).length = k := by rw [List.length_take]; omega
        have hbt := bszL_take l (k + 1)
        rw [HTK.out] at hbt
        rw [hlen] at ho
        obtain ⟨Av, cv, rfl, hcv, hqq⟩ := own_formB ho
        clear hqq
        have HHL := Lib.hid hlen
        have HO := Lib.hid ho
        have HR := Lib.hid hr
        have HBR := Lib.hid hb
        have HBW := Lib.hid (below_step HB0.out HB0.out.size hb)
        obtain ⟨b, o, rfl, hbo⟩ := HA.out k _ (List.getElem?_eq_getElem hin)
        generalize l[k] = t at *
        obtain ⟨cs0, ⟨Aa, ca, At, ct, Ae, ce, rfl, hS, hT, hE⟩, _, hcell⟩ := hbo.open_
        have c0 := below_cell HBW.out (hcell 0 _ rfl)
        have c1 := below_cell HBW.out (hcell 1 _ rfl)
        have c2 := below_cell HBW.out (hcell 2 _ rfl)
        have c3 := below_cell HBW.out (hcell 3 _ rfl)
        have c4 := below_cell HBW.out (hcell 4 _ rfl)
        have c5 := below_cell HBW.out (hcell 5 _ rfl)
        have c6 := below_cell HBW.out (hcell 6 _ rfl)
        have c7 := below_cell HBW.out (hcell 7 _ rfl)
        rw [Nat.add_zero] at c0
        have hlb := block_lt_of_cell c0
        have hz := bszT_eq t
        have HI1 := Lib.hid (fun w' (hb' : Below W0.heap.size W0 w') => HIH.out t.thn (by omega) (by omega) At ct W0 w' hT hb')
        have HI2 := Lib.hid (fun w' (hb' : Below W0.heap.size W0 w') => HIH.out t.els (by omega) (by omega) Ae ce W0 w' hE hb')
        have HS := Lib.hid hS
        have HBX := Lib.hid (below_box wr (Obj.cells #[.string t.to, .bool t.list, .int .u8 t.op, .int .i64 t.num, .string t.name, .slice Aa t.args.length ca, .slice At t.thn.length ct, .slice Ae t.els.length ce] 67))
        have HRX := Lib.hid (bx_new wr #[.string t.to, .bool t.list, .int .u8 t.op, .int .i64 t.num, .string t.name, .slice Aa t.args.length ca, .slice At t.thn.length ct, .slice Ae t.els.length ce] 67)
        have rk1 : (0 : Int) ≤ k := by omega
        have hkb : k ≤ 2000000 := by omega
        clear hrow ho hr hb hbo hcell hT hE hS hz hbt hl hN hll
        go_upto_region 6 with fail
        clear c0 c1 c2 c3 c4 c5 c6 c7 hlb
        generalize wr.alloc _ = W at HBX HRX ⊢
        have HBW2 := Lib.hid (below_step HBW.out HBW.out.size HBX.out)
        have HBWd := Lib.hid (below_step HBW2.out HBW2.out.size (belowDrawnP (Below.refl _ W)))
        obtain ⟨⟨y0, y1, y2, y3, y4, y5, y6, y7⟩, f0, f1, f2, f3, f4, f5, f6, f7⟩ := HRX.out.eight
        have hly := HRX.out.lt
        have HWD := Lib.hid (show W.heap.size ≤ W.drew.heap.size from (belowDrawnP (Below.refl W.heap.size W)).size)
        have HC1 := Lib.hid (HI1.out _ HBWd.out)
        have HC2 := Lib.hid (HI2.out _ HBWd.out)
        have HWZ := Lib.hid (show wr.heap.size ≤ W.heap.size from HBX.out.size)
        have HNE := Lib.hid (show (Value.slice Av k cv).ownBlock ≠ some wr.heap.size from fun e => absurd (HO.out.lt _ e).2 (Nat.lt_irrefl _))
        have S0 := Lib.hid (HRX.out.below (belowDrawnP (Below.refl W.heap.size W))).eight.1
        go_region_held3 (fun w' => w'.cell? ⟨wr.heap.size, 0, none⟩ = some (.string t.to) ∧ w'.cell? ⟨wr.heap.size, 1, none⟩ = some (.bool t.list) ∧ w'.cell? ⟨wr.heap.size, 2, none⟩ = some (.int .u8 t.op) ∧ w'.cell? ⟨wr.heap.size, 3, none⟩ = some (.int .i64 t.num) ∧ w'.cell? ⟨wr.heap.size, 4, none⟩ = some (.string t.name) ∧ w'.cell? ⟨wr.heap.size, 5, none⟩ = some (.slice Aa t.args.length ca) ∧ w'.cell? ⟨wr.heap.size, 6, none⟩ = some (.slice At t.thn.length ct) ∧ w'.cell? ⟨wr.heap.size, 7, none⟩ = some (.slice Ae t.els.length ce)) (first | exact S0.out | exact S5.out | exact S6.out | exact S6n.out _ | exact S9.out) (first
          | (refine step_app _ (by rfl) (.tmp 16) (.tmp 36) 56 (by rfl) w.heap.size 92 i0 (.agg #[.string ⟨#[]⟩, .bool false, .int .u8 0, .int .i64 0, .string ⟨#[]⟩, .slice none 0 0, .slice none 0 0, .slice none 0 0]) 8 120 Tryd.underlying56 HI.out.1 HI.out.2.1 HI.out.2.2.1 HI.out.2.2.2 rfl (by decide) (.slice Av k cv) k cs (by first | (simp [Act.eval]; done) | (simp [Act.eval, Act.put]; done)) (HO6.out.alloc _) (some ⟨w6.heap.size, 0, none⟩) 1 1 [.string t.to, .bool t.list, .int .u8 t.op, .int .i64 t.num, .string t.name, .slice Aa t.args.length ca, .slice At' t.thn.length ct', .slice Ae' t.els.length ce'] (by first | (simp [Act.eval]; done) | (simp [Act.eval, Act.put]; done)) rfl (cells_litC w6 _ _) (fun u hu => by simp at hu; rcases hu with rfl | rfl | rfl | rfl | rfl | rfl | rfl | rfl <;> rfl) (by unfold maxLen; omega) (by omega) (by simp; have := HSZ6.out; omega) ?_; intro v' w9 hown' hgrow hat; obtain ⟨A9, c9, rfl, hc9, hqq⟩ := own_formB hown'; clear hqq; have S9 := Lib.hid (((HRX6.out.below (below_box w6 _)).fr (Fr.of_grown hgrow) (fun e => HNE.out e.symm)).eight.1); have HW9 := Lib.hid (And.intro hown' (And.intro hgrow hat)); clear hown' hgrow hat)
          | (go_simp; go_at_call 21; (with_reducible refine Calls.mono HC5.out ?_); rintro e w6 ⟨hb6, Ae', ce', rfl, ht6, hz6⟩; have HB6 := Lib.hid (below_step HB5.out HB5.out.size hb6); have HBC6 := Lib.hid (bn_cells (Aa := Aa) (ca := ca) (At := At') (ct := ct') (Ae := Ae') (ce := ce') (t := t) HB0.out HBR.out HO.out (Nat.le_trans HWZ.out HWD.out) (Nat.le_trans HWZ.out HBw5.out.size) HB6.out HS.out (HT5.out.le (Le.of_fr (Fr.of_below hb6 fun _ => False) (fun _ _ e => e.elim) fun _ _ e => e)) ht6 HZ5.out hz6); have HBw6 := Lib.hid (below_step HBw5.out HBw5.out.size hb6); have HBr6 := Lib.hid (below_step HBX.out HBX.out.size HBw6.out); have HO6 := Lib.hid (own_below HO.out HBr6.out); have HSZ6 := Lib.hid (show w.heap.size ≤ w6.heap.size from Nat.le_trans HBR.out.size HBr6.out.size); have HRX6 := Lib.hid (HRX.out.below HBw6.out); have S6 := Lib.hid HRX6.out.eight.1; have S6n := Lib.hid (fun o => (HRX6.out.below (below_box w6 o)).eight.1); clear ht6 hz6 hb6; obtain ⟨⟨y0, y1, y2, y3, y4, y5, y6, y7⟩, f0, f1, f2, f3, f4, f5, f6, f7⟩ := HRX6.out.eight; have hly6 := HRX6.out.lt; dsimp only)
          | (go_simp; go_at_call 21; (with_reducible refine Calls.mono HC5.out ?_); rintro e w6 ⟨hb6, At', ct', rfl, ht6, hz6⟩; have HB6 := Lib.hid (below_step HB5.out HB5.out.size hb6); have HBC6 := Lib.hid (bn_cells (Aa := Aa) (ca := ca) (At := At') (ct := ct') (Ae := Ae') (ce := ce') (t := t) HB0.out HBR.out HO.out (Nat.le_trans HWZ.out HBw5.out.size) (Nat.le_trans HWZ.out HWD.out) HB6.out HS.out ht6 (HT5.out.le (Le.of_fr (Fr.of_below hb6 fun _ => False) (fun _ _ e => e.elim) fun _ _ e => e)) hz6 HZ5.out); have HBw6 := Lib.hid (below_step HBw5.out HBw5.out.size hb6); have HBr6 := Lib.hid (below_step HBX.out HBX.out.size HBw6.out); have HO6 := Lib.hid (own_below HO.out HBr6.out); have HSZ6 := Lib.hid (show w.heap.size ≤ w6.heap.size from Nat.le_trans HBR.out.size HBr6.out.size); have HRX6 := Lib.hid (HRX.out.below HBw6.out); have S6 := Lib.hid HRX6.out.eight.1; have S6n := Lib.hid (fun o => (HRX6.out.below (below_box w6 o)).eight.1); clear ht6 hz6 hb6; obtain ⟨⟨y0, y1, y2, y3, y4, y5, y6, y7⟩, f0, f1, f2, f3, f4, f5, f6, f7⟩ := HRX6.out.eight; have hly6 := HRX6.out.lt; dsimp only)
          | (go_simp; go_at_call 21; (with_reducible refine Calls.mono HC1.out ?_); rintro e w5 ⟨hb5, At', ct', rfl, ht5, hz5⟩; have HT5 := Lib.hid ht5; have HZ5 := Lib.hid hz5; have HB5 := Lib.hid (below_step HBWd.out HBWd.out.size hb5); have HBw5 := Lib.hid (below_step (belowDrawnP (Below.refl _ W)) HWD.out hb5); have HRX5 := Lib.hid (HRX.out.below HBw5.out); have S5 := Lib.hid HRX5.out.eight.1; have HC5 := Lib.hid (HI2.out w5 HB5.out); clear ht5 hz5 hb5; obtain ⟨⟨y0, y1, y2, y3, y4, y5, y6, y7⟩, f0, f1, f2, f3, f4, f5, f6, f7⟩ := HRX5.out.eight; have hly5 := HRX5.out.lt; dsimp only)
          | (go_simp; go_at_call 21; (with_reducible refine Calls.mono HC2.out ?_); rintro e w5 ⟨hb5, Ae', ce', rfl, ht5, hz5⟩; have HT5 := Lib.hid ht5; have HZ5 := Lib.hid hz5; have HB5 := Lib.hid (below_step HBWd.out HBWd.out.size hb5); have HBw5 := Lib.hid (below_step (belowDrawnP (Below.refl _ W)) HWD.out hb5); have HRX5 := Lib.hid (HRX.out.below HBw5.out); have S5 := Lib.hid HRX5.out.eight.1; have HC5 := Lib.hid (HI1.out w5 HB5.out); clear ht5 hz5 hb5; obtain ⟨⟨y0, y1, y2, y3, y4, y5, y6, y7⟩, f0, f1, f2, f3, f4, f5, f6, f7⟩ := HRX5.out.eight; have hly5 := HRX5.out.lt; dsimp only)
          | fail)
        all_goals
          have HPU := Lib.hid (BnR.push (W0 := W0) (w := w) (wr := wr) (w6 := w6) (w9 := w9) (v := .slice Av k cv) (v' := .slice A9 (k + 1) c9) (l := l.take k) (t := t) (cs := cs) (c8 := [.string t.to, .bool t.list, .int .u8 t.op, .int .i64 t.num, .string t.name, .slice Aa t.args.length ca, .slice At' t.thn.length ct', .slice Ae' t.els.length ce']) HBR.out (by rw [HHL.out]; exact HO.out) HR.out HBr6.out HBC6.out (by rw [HHL.out]; exact HW9.out.1) HW9.out.2.1 HW9.out.2.2)
          rw [← HSTP.out] at HPU
          go_wp2_with fail
          exact ⟨⟨k + 1, by omega, by go_num, HPU⟩, by simp [intOf]; omega⟩
      · obtain rfl : k = l.length := by omega
        rw [List.take_length] at hrow
        obtain ⟨A5, c5, rfl, h6, h5⟩ := hrow.out.done
        have HE := Lib.hid (show RetBn W0 l w (.returned (.slice A5 l.length c5)) wr from ⟨hrow.out.1, A5, c5, rfl, h5, h6⟩)
        clear hrow h5 h6
        go_wp2_with fail
        go_ret
        exact HE.out

end Go.Proofs.YtcoeakdpcigogaaDoor

namespace Go.Proofs.YtcoeakdpcigogaaDoor
open Go.ChangeShapes Go.WideShapes Go.ChangeAt Go.RowKit Go.Sort Go.Maps

def RetPl (l : List Af) (w : World) (e : Ending) (w' : World) : Prop := Below w.heap.size w w' ∧ ∃ A c, e = .returned (.slice A l.length c) ∧ AfsAt w' A l
/-- The copies so far. -/
def PlR (w wr : World) (v : Value) (l : List Af) : Prop := Below w.heap.size w wr ∧ ∃ cs, wr.ownsRow w.heap.size 72 6 v l.length cs ∧ RowG (AfC wr fun k => v.ownBlock = some k) cs l
theorem PlR.start (w : World) : PlR w w (.slice none 0 0) [] := ⟨Below.refl _ _, [], ⟨rfl, .inl ⟨rfl, rfl⟩⟩, .nil⟩
theorem PlR.push {w wr w6 w9 : World} {v v' : Value} {l : List Af} {f : Af} {cs c6 : List Value} {o : Obj} (hb : Below w.heap.size w wr) (ho : wr.ownsRow w.heap.size 72 6 v l.length cs) (hr : RowG (AfC wr fun k => v.ownBlock = some k) cs l) (hb6 : Below wr.heap.size wr w6) (hc : AfC w6 (fun k => v.ownBlock = some k) c6 f)
    (hown' : w9.ownsRow w.heap.size 72 6 v' (l.length + 1) (cs ++ c6)) (hg : (w6.alloc o).grownBy w9 v.ownBlock) (hat : v'.ownBlock = v.ownBlock ∨ v'.ownBlock = some (w6.alloc o).heap.size) : PlR w w9 v' (l ++ [f]) := by
  have hge := fun g e => (own_ty ho g e).1
  have hs6 := hb6.size
  have hso : (w6.alloc o).heap.size = w6.heap.size + 1 := by simp
  have f6 : Fr w6 w9 (fun k => some k = v.ownBlock) := (Fr.of_below (below_box w6 o) _).trans (Fr.of_grown hg) fun _ _ e => e
  have f9 : Fr wr w9 (fun k => some k = v.ownBlock) := (Fr.of_below hb6 (fun k => some k = v.ownBlock)).trans f6 fun _ _ e => e
  have key : ∀ k, k < w6.heap.size → v'.ownBlock = some k → v.ownBlock = some k := fun k hk e => by
    rcases hat with q | q
    · exact q ▸ e
    · rw [q] at e; cases e; omega
  exact ⟨f9.toBelow hb hb.size fun k e => hge k e.symm, cs ++ c6, by rw [List.length_append]; exact hown', .snoc (hr.map fun c x h => h.le f9.size (fun k hk e => key k (by omega) e) (Le.of_fr f9 (fun k _ e => e.symm) fun k hk e => key k (by omega) e)) (hc.le f6.size key (Le.of_fr f6 (fun k _ e => e.symm) key))⟩
theorem PlR.done {w wr : World} {v : Value} {l : List Af} (h : PlR w wr v l) : ∃ A c, v = .slice A l.length c ∧ AfsAt wr A l := by
  obtain ⟨_, cs, ho, hr⟩ := h
  exact afs_of_own ho (hr.map fun c x h => h.le (Nat.le_refl _) (fun _ _ e => e.elim) (Le.less fun _ _ e => e.elim))
theorem pl_cells {w wr W w6 : World} {v : Value} {n : Nat} {cs : List Value} {f : Af} {Ap At Ab : Option Addr} {cp ct cb : Nat} (hb : Below w.heap.size w wr) (ho : wr.ownsRow w.heap.size 72 6 v n cs) (hW : wr.heap.size ≤ W.heap.size) (hb6 : Below w.heap.size w w6) (hp : PmsX w (fun _ => False) Ap f.params) (ht : PmsX w (fun _ => False) At f.temps) (hB : BdsX w6 (BnX w W) Ab f.body) : AfC w6 (fun k => v.ownBlock = some k) [.string f.name, .slice Ap f.params.length cp, .bool f.list, .slice At f.temps.length ct, .slice Ab f.body.length cb, .string f.result] f := by
  have hs := hb.size
  have key : ∀ k, v.ownBlock = some k → BnX w W k := fun k e => by
    have h1 := (own_ty ho k e).1
    have h2 := (ho.lt k e).2
    exact ⟨by omega, by omega⟩
  have k2 : ∀ k, k < w.heap.size → v.ownBlock = some k → False := fun k hk e => by have := (key k e).1; omega
  have le := Le.of_fr (X' := fun k => v.ownBlock = some k) (Fr.of_below hb6 fun _ => False) (fun _ _ e => e) fun k hk e => k2 k hk e
  exact ⟨Ap, cp, At, ct, Ab, cb, rfl, hp.le le fun k hk e => k2 k hk e, ht.le le fun k hk e => k2 k hk e, hB.le (Le.less fun k _ e => key k e)⟩
theorem info_rf : (Tryd.prog.info? 72).map (fun i => (i.zero, i.size, i.bytes)) = some (some (.agg #[.string ⟨#[]⟩, .slice none 0 0, .bool false, .slice none 0 0, .slice none 0 0, .string ⟨#[]⟩]), 6, 112) := by kernel_rfl

set_option maxRecDepth 100000 in
set_option maxHeartbeats 8000000 in
theorem plain_any (l : List Af) (A : Option Addr) (c : Nat) (w : World) (hA : AfsAt w A l) (hz : ∀ f ∈ l, bszL f.body < 1900000) (hl : l.length ≤ 1000) :
    Calls Tryd.prog 14 #[.slice A l.length c] w (RetPl l w) := by
  have HA := Lib.hid (And.intro hA hz)
  obtain ⟨i0, hi0, hz0, hz1, hz2⟩ := info_parts info_rf
  have HI := Lib.hid (And.intro hi0 (And.intro hz0 (And.intro hz1 hz2)))
  clear hA hz hi0 hz0 hz1 hz2
  go_enter Tryd.func14, Tryd.ntmps14
  go_wp2_with fail
  go_loopw [3, 4] (fun v i wr => ∃ k : Nat, k ≤ l.length ∧ i = .int .i64 k ∧ Hid (PlR w wr v (l.take k))) (fun _ i _ => l.length - (intOf i).toNat)
  case atStart => exact ⟨0, by omega, rfl, Lib.hid (PlR.start w)⟩
  case round =>
    obtain ⟨k, hk, rfl, hrow⟩ := hrel
    by_cases hin : k < l.length
    · obtain ⟨hb, cs, ho, hr⟩ := hrow.out
      have HSTP := Lib.hid (List.take_succ_eq_append_getElem hin)
      have hlen : (l.take k).length = k := by rw [List.length_take]; omega
      rw [hlen] at ho
      obtain ⟨Av, cv, rfl, hcv, hqq⟩ := own_formB ho
      clear hqq
      have HHL := Lib.hid hlen
      have HO := Lib.hid ho
      have HR := Lib.hid hr
      have HBR := Lib.hid hb
      obtain ⟨b, o, cs0, rfl, hcf, hcell⟩ := HA.out.1 k _ (List.getElem?_eq_getElem hin)
      have hzk := HA.out.2 _ (List.getElem_mem hin)
      generalize l[k] = f at *
      obtain ⟨Ap, cp, Aτ, cτ, Ab, cb, rfl, hps, hts, hbs⟩ := hcf
      have c0 := below_cell hb (hcell 0 _ rfl)
      have c1 := below_cell hb (hcell 1 _ rfl)
      have c2 := below_cell hb (hcell 2 _ rfl)
      have c3 := below_cell hb (hcell 3 _ rfl)
      have c4 := below_cell hb (hcell 4 _ rfl)
      have c5 := below_cell hb (hcell 5 _ rfl)
      rw [Nat.add_zero] at c0
      have hlb := block_lt_of_cell c0
      have HPS := Lib.hid (And.intro hps hts)
      have HIB := Lib.hid (fun w' (hb' : Below w.heap.size w w') => binds_any 2000000 f.body (by omega) (by omega) Ab cb w w' hbs hb')
      have HBX := Lib.hid (below_box wr (Obj.cells #[.string f.name, .slice Ap f.params.length cp, .bool f.list, .slice Aτ f.temps.length cτ, .slice Ab f.body.length cb, .string f.result] 39))
      have HRX := Lib.hid (bx_new wr #[.string f.name, .slice Ap f.params.length cp, .bool f.list, .slice Aτ f.temps.length cτ, .slice Ab f.body.length cb, .string f.result] 39)
      have rk1 : (0 : Int) ≤ k := by omega
      clear hrow ho hr hb hcell hps hts hbs
      go_upto_region 6 with fail
      clear c0 c1 c2 c3 c4 c5 hlb
      generalize wr.alloc _ = W at HBX HRX ⊢
      have HWZ := Lib.hid (show wr.heap.size ≤ W.heap.size from HBX.out.size)
      have HWD := Lib.hid (show W.heap.size ≤ W.drew.heap.size from (belowDrawnP (Below.refl W.heap.size W)).size)
      have HBW2 := Lib.hid (below_step HBR.out HBR.out.size HBX.out)
      have HBWd := Lib.hid (below_step HBW2.out HBW2.out.size (belowDrawnP (Below.refl _ W)))
      obtain ⟨⟨y0, y1, y2, y3, y4, y5⟩, f0, f1, f2, f3, f4, f5⟩ := HRX.out.six'
      have hly := HRX.out.lt
      have HC1 := Lib.hid (HIB.out _ HBWd.out)
      have HNE := Lib.hid (show (Value.slice Av k cv).ownBlock ≠ some wr.heap.size from fun e => absurd (HO.out.lt _ e).2 (Nat.lt_irrefl _))
      have S0 := Lib.hid (HRX.out.below (belowDrawnP (Below.refl W.heap.size W))).six'.1
      go_region_held3 (fun w' => w'.cell? ⟨wr.heap.size, 0, none⟩ = some (.string f.name) ∧ w'.cell? ⟨wr.heap.size, 1, none⟩ = some (.slice Ap f.params.length cp) ∧ w'.cell? ⟨wr.heap.size, 2, none⟩ = some (.bool f.list) ∧ w'.cell? ⟨wr.heap.size, 3, none⟩ = some (.slice Aτ f.temps.length cτ) ∧ w'.cell? ⟨wr.heap.size, 4, none⟩ = some (.slice Ab f.body.length cb) ∧ w'.cell? ⟨wr.heap.size, 5, none⟩ = some (.string f.result)) (first | exact S0.out | exact S6.out | exact S6n.out _ | exact S9.out) (first
        | (refine step_app _ (by rfl) (.tmp 16) (.tmp 31) 32 (by rfl) w.heap.size 72 i0 (.agg #[.string ⟨#[]⟩, .slice none 0 0, .bool false, .slice none 0 0, .slice none 0 0, .string ⟨#[]⟩]) 6 112 Tryd.underlying32 HI.out.1 HI.out.2.1 HI.out.2.2.1 HI.out.2.2.2 rfl (by decide) (.slice Av k cv) k cs (by first | (simp [Act.eval]; done) | (simp [Act.eval, Act.put]; done)) (HO6.out.alloc _) (some ⟨w6.heap.size, 0, none⟩) 1 1 [.string f.name, .slice Ap f.params.length cp, .bool f.list, .slice Aτ f.temps.length cτ, .slice Ab' f.body.length cb', .string f.result] (by first | (simp [Act.eval]; done) | (simp [Act.eval, Act.put]; done)) rfl (cells_litC w6 _ _) (fun u hu => by simp at hu; rcases hu with rfl | rfl | rfl | rfl | rfl | rfl <;> rfl) (by unfold maxLen; omega) (by omega) (by simp; have := HSZ6.out; omega) ?_; intro v' w9 hown' hgrow hat; obtain ⟨A9, c9, rfl, hc9, hqq⟩ := own_formB hown'; clear hqq; have S9 := Lib.hid (((HRX6.out.below (below_box w6 _)).fr (Fr.of_grown hgrow) (fun e => HNE.out e.symm)).six'.1); have HW9 := Lib.hid (And.intro hown' (And.intro hgrow hat)); clear hown' hgrow hat)
        | (go_simp; go_at_call 21; (with_reducible refine Calls.mono HC1.out ?_); rintro e w6 ⟨hb6, Ab', cb', rfl, ht6, _⟩; have HB6 := Lib.hid (below_step HBWd.out HBWd.out.size hb6); have HBC6 := Lib.hid (pl_cells (cp := cp) (ct := cτ) (cb := cb') HBR.out HO.out (Nat.le_trans HWZ.out HWD.out) HB6.out HPS.out.1 HPS.out.2 ht6.bd); have HBw6 := Lib.hid (below_step (belowDrawnP (Below.refl _ W)) HWD.out hb6); have HBr6 := Lib.hid (below_step HBX.out HBX.out.size HBw6.out); have HO6 := Lib.hid (own_below HO.out HBr6.out); have HSZ6 := Lib.hid (show w.heap.size ≤ w6.heap.size from Nat.le_trans HBR.out.size HBr6.out.size); have HRX6 := Lib.hid (HRX.out.below HBw6.out); have S6 := Lib.hid HRX6.out.six'.1; have S6n := Lib.hid (fun o => (HRX6.out.below (below_box w6 o)).six'.1); clear ht6 hb6; obtain ⟨⟨y0, y1, y2, y3, y4, y5⟩, f0, f1, f2, f3, f4, f5⟩ := HRX6.out.six'; have hly6 := HRX6.out.lt; dsimp only)
        | fail)
      all_goals
        have HPU := Lib.hid (PlR.push (w := w) (wr := wr) (w6 := w6) (w9 := w9) (v := .slice Av k cv) (v' := .slice A9 (k + 1) c9) (l := l.take k) (f := f) (cs := cs) (c6 := [.string f.name, .slice Ap f.params.length cp, .bool f.list, .slice Aτ f.temps.length cτ, .slice Ab' f.body.length cb', .string f.result]) HBR.out (by rw [HHL.out]; exact HO.out) HR.out HBr6.out HBC6.out (by rw [HHL.out]; exact HW9.out.1) HW9.out.2.1 HW9.out.2.2)
        rw [← HSTP.out] at HPU
        go_wp2_with fail
        exact ⟨⟨k + 1, by omega, by go_num, HPU⟩, by simp [intOf]; omega⟩
    · obtain rfl : k = l.length := by omega
      rw [List.take_length] at hrow
      obtain ⟨A5, c5, rfl, h5⟩ := hrow.out.done
      have HE := Lib.hid (show RetPl l w (.returned (.slice A5 l.length c5)) wr from ⟨hrow.out.1, A5, c5, rfl, h5⟩)
      clear hrow h5
      go_wp2_with fail
      go_ret
      exact HE.out

end Go.Proofs.YtcoeakdpcigogaaDoor

namespace Go.Proofs.YtcoeakdpcigogaaDoor
open Go.ChangeShapes Go.WideShapes Go.ChangeAt Go.RowKit Go.Sort Go.Maps

set_option maxRecDepth 100000 in
set_option maxHeartbeats 4000000 in
theorem rparams_same (l : List Pm) (A B : Option Addr) (c d : Nat) (w : World) (hA : PmsAt w A l) (hB : PmsAt w B l) (hl : l.length ≤ 1000000) :
    Calls Tryd.prog 29 #[.slice A l.length c, .slice B l.length d] w fun e w' => e = .returned (.bool true) ∧ Below w.heap.size w w' := by
  have HA := Lib.hid (And.intro hA hB)
  clear hA hB
  go_enter Tryd.func29, Tryd.ntmps29
  go_wp2_with fail
  go_loopw [5] (fun i wr => ∃ k : Nat, k ≤ l.length ∧ i = .int .i64 k ∧ Hid (Below w.heap.size w wr)) (fun i _ => l.length - (intOf i).toNat)
  case atStart => exact ⟨0, by omega, rfl, Lib.hid (Below.refl _ _)⟩
  case round =>
    obtain ⟨k, hk, rfl, hb⟩ := hrel
    by_cases hin : k < l.length
    · obtain ⟨b1, o1, rfl, c0, c1⟩ := (HA.out.1.mono hb.out).at_ hin
      obtain ⟨b2, o2, rfl, d0, d1⟩ := (HA.out.2.mono hb.out).at_ hin
      generalize l[k] = p at *
      have hl1 := block_lt_of_cell c0
      have hl2 := block_lt_of_cell d0
      have rk1 : (0 : Int) ≤ k := by omega
      have HB2 := Lib.hid (belowDrawnP hb.out)
      clear hb
      go_wp2_with fail
      go_region
      go_wp2_with fail
      exact ⟨⟨k + 1, by omega, by go_num, HB2⟩, by simp [intOf]; omega⟩
    · obtain rfl : k = l.length := by omega
      go_wp2_with fail
      go_ret
      exact ⟨rfl, hb.out⟩

set_option maxRecDepth 100000 in
set_option maxHeartbeats 4000000 in
theorem rstrings_same (l : List ByteArray) (A B : Option Addr) (c d : Nat) (w : World) (hA : StrsX w (fun _ => False) A l) (hB : StrsX w (fun _ => False) B l) (hl : l.length ≤ 100000000000000) :
    Calls Tryd.prog 51 #[.slice A l.length c, .slice B l.length d] w fun e w' => e = .returned (.bool true) ∧ Below w.heap.size w w' := by
  have HA := Lib.hid (And.intro hA hB)
  clear hA hB
  go_enter Tryd.func51, Tryd.ntmps51
  go_wp2_with fail
  go_loopw [5] (fun i wr => ∃ k : Nat, k ≤ l.length ∧ i = .int .i64 k ∧ Hid (Below w.heap.size w wr)) (fun i _ => l.length - (intOf i).toNat)
  case atStart => exact ⟨0, by omega, rfl, Lib.hid (Below.refl _ _)⟩
  case round =>
    obtain ⟨k, hk, rfl, hb⟩ := hrel
    by_cases hin : k < l.length
    · obtain ⟨b1, o1, rfl, _, c0⟩ := HA.out.1 k _ (List.getElem?_eq_getElem hin)
      obtain ⟨b2, o2, rfl, _, d0⟩ := HA.out.2 k _ (List.getElem?_eq_getElem hin)
      generalize l[k] = s at *
      have c1 := below_cell hb.out c0
      have d1 := below_cell hb.out d0
      have hl1 := block_lt_of_cell c1
      have hl2 := block_lt_of_cell d1
      have hse := strEq s s
      rw [decide_eq_true rfl] at hse
      have rk1 : (0 : Int) ≤ k := by omega
      have HB2 := Lib.hid (belowDrawnP hb.out)
      clear hb c0 d0
      go_wp2_with fail
      go_region
      go_wp2_with fail
      exact ⟨⟨k + 1, by omega, by go_num, HB2⟩, by simp [intOf]; omega⟩
    · obtain rfl : k = l.length := by omega
      go_wp2_with fail
      go_ret
      exact ⟨rfl, hb.out⟩

end Go.Proofs.YtcoeakdpcigogaaDoor

namespace Go.Proofs.YtcoeakdpcigogaaDoor
open Go.ChangeShapes Go.WideShapes Go.ChangeAt Go.RowKit Go.Sort Go.Maps

theorem Bx.ofSize {w : World} {n : Nat} {cs : Array Value} {T : TypeId} (h : w.heap.size = n) : Bx (w.alloc (Obj.cells cs T)) n cs := by subst h; exact bx_new w cs T
/-- Two boxes. -/
def TwoB (w w' : World) (P Q : Nat) (c1 c2 : Array Value) : Prop := Below w.heap.size w w' ∧ Bx w' P c1 ∧ Bx w' Q c2
theorem two_ab (w : World) (c1 c2 : Array Value) (T : TypeId) : TwoB w (((w.alloc (Obj.cells c1 T)).alloc (Obj.cells c2 T)).drew) w.heap.size (w.heap.size + 1) c1 c2 := by
  have b1 := below_box w (Obj.cells c1 T)
  have b2 := below_box (w.alloc (Obj.cells c1 T)) (Obj.cells c2 T)
  have b3 := belowDrawnP (Below.refl ((w.alloc (Obj.cells c1 T)).alloc (Obj.cells c2 T)).heap.size ((w.alloc (Obj.cells c1 T)).alloc (Obj.cells c2 T)))
  have h2 := below_step b1 b1.size b2
  exact ⟨below_step h2 h2.size b3, ((bx_new w c1 T).below b2).below b3, (Bx.ofSize (w := w.alloc (Obj.cells c1 T)) (by simp)).below b3⟩
theorem two_ba (w : World) (c1 c2 : Array Value) (T : TypeId) : TwoB w (((w.alloc (Obj.cells c2 T)).alloc (Obj.cells c1 T)).drew) (w.heap.size + 1) w.heap.size c1 c2 := by
  obtain ⟨h1, h2, h3⟩ := two_ab w c2 c1 T
  exact ⟨h1, h3, h2⟩
set_option maxRecDepth 100000 in
set_option maxHeartbeats 8000000 in
theorem rbinds_same : ∀ (N : Nat) (l : List Bd), bszL l < N → N ≤ 2000000 → (∀ y ∈ l, BdFit y) → ∀ (A B : Option Addr) (c d : Nat) (w : World), BdsX w (fun _ => False) A l → BdsX w (fun _ => False) B l →
    Calls Tryd.prog 30 #[.slice A l.length c, .slice B l.length d] w fun e w' => e = .returned (.bool true) ∧ Below w.heap.size w w' := by
  intro N
  induction N with
  | zero =>
    intro l hl; omega
  | succ N ih =>
    intro l hl hN hfit A B c d w hA hB
    have HFT := Lib.hid hfit
    have HA := Lib.hid (And.intro hA hB)
    have HIH := Lib.hid ih
    have hll := bszL_len l
    clear ih hA hB hfit
    go_enter Tryd.func30, Tryd.ntmps30
    go_wp2_with fail
    go_loopw [5] (fun i wr => ∃ k : Nat, k ≤ l.length ∧ i = .int .i64 k ∧ Hid (Below w.heap.size w wr)) (fun i _ => l.length - (intOf i).toNat)
    case atStart => exact ⟨0, by omega, rfl, Lib.hid (Below.refl _ _)⟩
    case round =>
      obtain ⟨k, hk, rfl, hb⟩ := hrel
      by_cases hin : k < l.length
      · have HTK := Lib.hid (bszL_step hin)
        have hbt := bszL_take l (k + 1)
        rw [HTK.out] at hbt
        obtain ⟨b1, o1, rfl, hbo1⟩ := HA.out.1 k _ (List.getElem?_eq_getElem hin)
        obtain ⟨b2, o2, rfl, hbo2⟩ := HA.out.2 k _ (List.getElem?_eq_getElem hin)
        have HFK := Lib.hid (HFT.out _ (List.getElem_mem hin)).facts
        generalize l[k] = t at *
        obtain ⟨cs1, ⟨Aa, ca, At, ct, Ae, ce, rfl, hS1, hT1, hE1⟩, _, hcell1⟩ := hbo1.open_
        obtain ⟨cs2, ⟨Ba, da, Bt, dt, Be, de, rfl, hS2, hT2, hE2⟩, _, hcell2⟩ := hbo2.open_
        have hz := bszT_eq t
        have HS := Lib.hid (And.intro hS1 hS2)
        have HT := Lib.hid (And.intro hT1 hT2)
        have HE := Lib.hid (And.intro hE1 hE2)
        have c0 := below_cell hb.out (hcell1 0 _ rfl)
        have c1 := below_cell hb.out (hcell1 1 _ rfl)
        have c2 := below_cell hb.out (hcell1 2 _ rfl)
        have c3 := below_cell hb.out (hcell1 3 _ rfl)
        have c4 := below_cell hb.out (hcell1 4 _ rfl)
        have c5 := below_cell hb.out (hcell1 5 _ rfl)
        have c6 := below_cell hb.out (hcell1 6 _ rfl)
        have c7 := below_cell hb.out (hcell1 7 _ rfl)
        have e0 := below_cell hb.out (hcell2 0 _ rfl)
        have e1 := below_cell hb.out (hcell2 1 _ rfl)
        have e2 := below_cell hb.out (hcell2 2 _ rfl)
        have e3 := below_cell hb.out (hcell2 3 _ rfl)
        have e4 := below_cell hb.out (hcell2 4 _ rfl)
        have e5 := below_cell hb.out (hcell2 5 _ rfl)
        have e6 := below_cell hb.out (hcell2 6 _ rfl)
        have e7 := below_cell hb.out (hcell2 7 _ rfl)
        rw [Nat.add_zero] at c0 e0
        have hl1 : b1 < wr.heap.size := block_lt_of_cell c0
        have hl2 : b2 < wr.heap.size := block_lt_of_cell e0
        have hl1' : b1 < wr.heap.size + 1 := by omega
        have hl2' : b2 < wr.heap.size + 1 := by omega
        have hl1'' : b1 < wr.heap.size + 1 + 1 := by omega
        have hl2'' : b2 < wr.heap.size + 1 + 1 := by omega
        have rk1 : (0 : Int) ≤ k := by omega
        clear hbo1 hbo2 hcell1 hcell2 hS1 hS2 hT1 hT2 hE1 hE2
        go_upto_region 6 with fail
        go_cut [6, 7] (fun p q wc => ∃ P Q : Nat, p = .pointer (some ⟨P, 0, none⟩) ∧ q = .pointer (some ⟨Q, 0, none⟩) ∧ Hid (TwoB wr wc P Q #[.string t.to, .bool t.list, .int .u8 t.op, .int .i64 t.num, .string t.name, .slice Aa t.args.length ca, .slice At t.thn.length ct, .slice Ae t.els.length ce] #[.string t.to, .bool t.list, .int .u8 t.op, .int .i64 t.num, .string t.name, .slice Ba t.args.length da, .slice Bt t.thn.length dt, .slice Be t.els.length de]))
        case first =>
          have SS := Lib.hid (fun (w' : World) (hb' : Below wr.heap.size wr w') => And.intro (below_cell hb' c0) (And.intro (below_cell hb' c1) (And.intro (below_cell hb' c2) (And.intro (below_cell hb' c3) (And.intro (below_cell hb' c4) (And.intro (below_cell hb' c5) (And.intro (below_cell hb' c6) (And.intro (below_cell hb' c7) (And.intro (below_cell hb' e0) (And.intro (below_cell hb' e1) (And.intro (below_cell hb' e2) (And.intro (below_cell hb' e3) (And.intro (below_cell hb' e4) (And.intro (below_cell hb' e5) (And.intro (below_cell hb' e6) (below_cell hb' e7))))))))))))))))
          have HBA := Lib.hid (fun (o : Obj) => below_step (belowDrawnP (Below.refl wr.heap.size wr)) (Nat.le_refl _) (below_box wr.drew o))
          have HBB := Lib.hid (fun (o o' : Obj) => below_step (below_step (belowDrawnP (Below.refl wr.heap.size wr)) (Nat.le_refl _) (below_box wr.drew o)) (by simp) (below_box (wr.drew.alloc o) o'))
          have HT1 := Lib.hid (fun c1 c2 => Lib.hid (two_ab wr c1 c2 92))
          have HT2 := Lib.hid (fun c1 c2 => Lib.hid (two_ba wr c1 c2 92))
          go_region_held3 (fun w' => w'.cell? ⟨b1, o1 + k * 8, none⟩ = some (.string t.to) ∧ w'.cell? ⟨b1, o1 + k * 8 + 1, none⟩ = some (.bool t.list) ∧ w'.cell? ⟨b1, o1 + k * 8 + 2, none⟩ = some (.int .u8 t.op) ∧ w'.cell? ⟨b1, o1 + k * 8 + 3, none⟩ = some (.int .i64 t.num) ∧ w'.cell? ⟨b1, o1 + k * 8 + 4, none⟩ = some (.string t.name) ∧ w'.cell? ⟨b1, o1 + k * 8 + 5, none⟩ = some (.slice Aa t.args.length ca) ∧ w'.cell? ⟨b1, o1 + k * 8 + 6, none⟩ = some (.slice At t.thn.length ct) ∧ w'.cell? ⟨b1, o1 + k * 8 + 7, none⟩ = some (.slice Ae t.els.length ce) ∧ w'.cell? ⟨b2, o2 + k * 8, none⟩ = some (.string t.to) ∧ w'.cell? ⟨b2, o2 + k * 8 + 1, none⟩ = some (.bool t.list) ∧ w'.cell? ⟨b2, o2 + k * 8 + 2, none⟩ = some (.int .u8 t.op) ∧ w'.cell? ⟨b2, o2 + k * 8 + 3, none⟩ = some (.int .i64 t.num) ∧ w'.cell? ⟨b2, o2 + k * 8 + 4, none⟩ = some (.string t.name) ∧ w'.cell? ⟨b2, o2 + k * 8 + 5, none⟩ = some (.slice Ba t.args.length da) ∧ w'.cell? ⟨b2, o2 + k * 8 + 6, none⟩ = some (.slice Bt t.thn.length dt) ∧ w'.cell? ⟨b2, o2 + k * 8 + 7, none⟩ = some (.slice Be t.els.length de)) (first | exact SS.out _ (belowDrawnP (Below.refl _ wr)) | exact SS.out _ (HBA.out _) | exact SS.out _ (HBB.out _ _)) (first | fail)
          all_goals
            go_wp2_with fail
            go_meet
            first
              | with_reducible exact ⟨_, _, rfl, rfl, HT1.out _ _⟩
              | with_reducible exact ⟨_, _, rfl, rfl, HT2.out _ _⟩
        case rest =>
          obtain ⟨P, Q, rfl, rfl, htw⟩ := hcut
          obtain ⟨W, rfl⟩ : ∃ y, y = wc := ⟨_, rfl⟩
          have HB := Lib.hid (below_step hb.out hb.out.size htw.out.1)
          have HXP := Lib.hid htw.out.2.1
          have HXQ := Lib.hid htw.out.2.2
          obtain ⟨⟨x0, x1, x2, x3, x4, x5, x6, x7⟩, _⟩ := HXP.out.eight
          obtain ⟨⟨y0, y1, y2, y3, y4, y5, y6, y7⟩, _⟩ := HXQ.out.eight
          have hlx := HXP.out.lt
          have hly := HXQ.out.lt
          clear htw hb c0 c1 c2 c3 c4 c5 c6 c7 e0 e1 e2 e3 e4 e5 e6 e7
          have hse1 := strEq t.to t.to
          have hse2 := strEq t.name t.name
          rw [decide_eq_true rfl] at hse1 hse2
          have HB1 := HB
          have HCS := Lib.hid (rstrings_same t.args Aa Ba ca da W (HS.out.1.le (Le.belowA HB1.out fun _ _ e => e)) (HS.out.2.le (Le.belowA HB1.out fun _ _ e => e)) HFK.out.2.2.2.1)
          have HCT := Lib.hid (fun (w' : World) (hb' : Below w.heap.size w w') => HIH.out t.thn (by omega) (by omega) HFK.out.2.2.2.2.1 At Bt ct dt w' (HT.out.1.le (Le.belowA hb' fun _ _ e => e)) (HT.out.2.le (Le.belowA hb' fun _ _ e => e)))
          have HCE := Lib.hid (fun (w' : World) (hb' : Below w.heap.size w w') => HIH.out t.els (by omega) (by omega) HFK.out.2.2.2.2.2 Ae Be ce de w' (HE.out.1.le (Le.belowA hb' fun _ _ e => e)) (HE.out.2.le (Le.belowA hb' fun _ _ e => e)))
          go_wp2_with fail
          refine HCS.out.mono ?_
          clear HCS x0 x1 x2 x3 x4 x5 y0 y1 y2 y3 y4 y5 x6 x7 y6 y7
          rintro e w5 ⟨rfl, hb5⟩
          have HB5 := Lib.hid (below_step HB.out HB.out.size hb5)
          have HXP5 := Lib.hid (HXP.out.below hb5)
          have HXQ5 := Lib.hid (HXQ.out.below hb5)
          obtain ⟨⟨x0, x1, x2, x3, x4, x5, x6, x7⟩, _⟩ := HXP5.out.eight
          obtain ⟨⟨y0, y1, y2, y3, y4, y5, y6, y7⟩, _⟩ := HXQ5.out.eight
          have hlx5 := HXP5.out.lt
          have hly5 := HXQ5.out.lt
          have HCT5 := Lib.hid (HCT.out w5 HB5.out)
          clear hb5
          go_wp2_with fail
          refine HCT5.out.mono ?_
          clear HCT5 x0 x1 x2 x3 x4 x5 y0 y1 y2 y3 y4 y5 x6 x7 y6 y7
          rintro e w6 ⟨rfl, hb6⟩
          have HB6 := Lib.hid (below_step HB5.out HB5.out.size hb6)
          have HXP6 := Lib.hid (HXP5.out.below hb6)
          have HXQ6 := Lib.hid (HXQ5.out.below hb6)
          obtain ⟨⟨x0, x1, x2, x3, x4, x5, x6, x7⟩, _⟩ := HXP6.out.eight
          obtain ⟨⟨y0, y1, y2, y3, y4, y5, y6, y7⟩, _⟩ := HXQ6.out.eight
          have hlx6 := HXP6.out.lt
          have hly6 := HXQ6.out.lt
          have HCE6 := Lib.hid (HCE.out w6 HB6.out)
          clear hb6
          go_wp2_with fail
          refine HCE6.out.mono ?_
          clear HCE6 x0 x1 x2 x3 x4 x5 y0 y1 y2 y3 y4 y5 x6 x7 y6 y7
          rintro e w7 ⟨rfl, hb7⟩
          have HB7 := Lib.hid (below_step HB6.out HB6.out.size hb7)
          clear hb7
          go_wp2_with fail
          exact ⟨⟨k + 1, by omega, by go_num, HB7⟩, by simp [intOf]; omega⟩
      · obtain rfl : k = l.length := by omega
        go_wp2_with fail
        go_ret
        exact ⟨rfl, hb.out⟩

set_option maxRecDepth 100000 in
set_option maxHeartbeats 8000000 in
theorem rsame_same (l : List Af) (A B : Option Addr) (c d : Nat) (w : World) (hA : AfsAt w A l) (hB : AfsAt w B l) (hfit : ∀ f ∈ l, AfFit f) (hl : l.length ≤ 1000000) :
    Calls Tryd.prog 13 #[.slice A l.length c, .slice B l.length d] w fun e w' => e = .returned (.bool true) ∧ Below w.heap.size w w' := by
  have HA := Lib.hid (And.intro hA hB)
  have HFT := Lib.hid hfit
  clear hA hB hfit
  go_enter Tryd.func13, Tryd.ntmps13
  go_wp2_with fail
  go_loopw [5] (fun i wr => ∃ k : Nat, k ≤ l.length ∧ i = .int .i64 k ∧ Hid (Below w.heap.size w wr)) (fun i _ => l.length - (intOf i).toNat)
  case atStart => exact ⟨0, by omega, rfl, Lib.hid (Below.refl _ _)⟩
  case round =>
    obtain ⟨k, hk, rfl, hb⟩ := hrel
    by_cases hin : k < l.length
    · obtain ⟨b1, o1, cs1, rfl, hc1, hcell1⟩ := HA.out.1 k _ (List.getElem?_eq_getElem hin)
      obtain ⟨b2, o2, cs2, rfl, hc2, hcell2⟩ := HA.out.2 k _ (List.getElem?_eq_getElem hin)
      have HFK := Lib.hid (HFT.out _ (List.getElem_mem hin))
      generalize l[k] = f at *
      obtain ⟨Ap, cp, At, ct, Ab, cb, rfl, hp1, ht1, hb1⟩ := hc1
      obtain ⟨Bp, dp, Bt, dt, Bb, db, rfl, hp2, ht2, hb2⟩ := hc2
      have HPT := Lib.hid (And.intro (And.intro hp1.1 hp2.1) (And.intro ht1.1 ht2.1))
      have HBB := Lib.hid (And.intro hb1 hb2)
      have HCE := Lib.hid (And.intro hcell1 hcell2)
      have hse1 := strEq f.name f.name
      have hse2 := strEq f.result f.result
      rw [decide_eq_true rfl] at hse1 hse2
      have rk1 : (0 : Int) ≤ k := by omega
      have HB := Lib.hid hb.out
      have HC1 := Lib.hid (fun (w' : World) (hb' : Below w.heap.size w w') => rparams_same f.params Ap Bp cp dp w' (HPT.out.1.1.mono hb') (HPT.out.1.2.mono hb') (by have := HFK.out.pl; omega))
      have HC2 := Lib.hid (fun (w' : World) (hb' : Below w.heap.size w w') => rparams_same f.temps At Bt ct dt w' (HPT.out.2.1.mono hb') (HPT.out.2.2.mono hb') (by have := HFK.out.tl; omega))
      have HC3 := Lib.hid (fun (w' : World) (hb' : Below w.heap.size w w') => rbinds_same 200000 f.body (by have := HFK.out.bl; omega) (by omega) HFK.out.bd Ab Bb cb db w' (HBB.out.1.le (Le.belowA hb' fun _ _ e => e)) (HBB.out.2.le (Le.belowA hb' fun _ _ e => e)))
      clear hcell1 hcell2 hp1 ht1 hb1 hp2 ht2 hb2 hb
      have HCA := Lib.hid (fun (w' : World) (hb' : Below w.heap.size w w') => And.intro (below_cell hb' (show w.cell? ⟨b1, o1 + k * 6, none⟩ = _ from HCE.out.1 0 _ rfl)) (And.intro (below_cell hb' (HCE.out.1 1 _ rfl)) (And.intro (below_cell hb' (HCE.out.1 2 _ rfl)) (And.intro (below_cell hb' (HCE.out.1 3 _ rfl)) (And.intro (below_cell hb' (HCE.out.1 4 _ rfl)) (below_cell hb' (HCE.out.1 5 _ rfl)))))))
      have HCB := Lib.hid (fun (w' : World) (hb' : Below w.heap.size w w') => And.intro (below_cell hb' (show w.cell? ⟨b2, o2 + k * 6, none⟩ = _ from HCE.out.2 0 _ rfl)) (And.intro (below_cell hb' (HCE.out.2 1 _ rfl)) (And.intro (below_cell hb' (HCE.out.2 2 _ rfl)) (And.intro (below_cell hb' (HCE.out.2 3 _ rfl)) (And.intro (below_cell hb' (HCE.out.2 4 _ rfl)) (below_cell hb' (HCE.out.2 5 _ rfl)))))))
      obtain ⟨c0, c1, c2, c3, c4, c5⟩ := HCA.out wr HB.out
      obtain ⟨d0, d1, d2, d3, d4, d5⟩ := HCB.out wr HB.out
      have hl1 := block_lt_of_cell c0
      have hl2 := block_lt_of_cell d0
      have g0 := cell_regrown c0
      have g1 := cell_regrown c1
      have g2 := cell_regrown c2
      have g3 := cell_regrown c3
      have g4 := cell_regrown c4
      have g5 := cell_regrown c5
      have e0 := cell_regrown d0
      have e1 := cell_regrown d1
      have e2 := cell_regrown d2
      have e3 := cell_regrown d3
      have e4 := cell_regrown d4
      have e5 := cell_regrown d5
      have HP1 := Lib.hid (fun (w' : World) (hb' : Below wr.heap.size wr w') => HC1.out w' (below_step HB.out HB.out.size hb'))
      have HP2 := Lib.hid (fun (w' : World) (hb' : Below wr.heap.size wr w') => HC2.out w' (below_step HB.out HB.out.size hb'))
      have HP3 := Lib.hid (fun (w' : World) (hb' : Below wr.heap.size wr w') => HC3.out w' (below_step HB.out HB.out.size hb'))
      clear HC1 HC2 HC3 HCA HCB
      go_wp2_with fail
      refine wp_region_quiet_below (by kernel_rfl) (by kernel_rfl) ?_
      repeat (first | go_big_quiet_step ((first | (go_at_call 29; first | with_reducible exact Calls.regrown_of (HP1.out _ (below_regrown _ _ _)) | with_reducible exact Calls.regrown_of (HP2.out _ (below_regrown _ _ _))) | (go_at_call 30; with_reducible exact Calls.regrown_of (HP3.out _ (below_regrown _ _ _))))) | quiet_step ((first | (go_at_call 29; first | with_reducible exact Calls.regrown_of (HP1.out _ (below_regrown _ _ _)) | with_reducible exact Calls.regrown_of (HP2.out _ (below_regrown _ _ _))) | (go_at_call 30; with_reducible exact Calls.regrown_of (HP3.out _ (below_regrown _ _ _))))))
      refine wpQuiet_nil ?_
      intro w3 hw'
      obtain ⟨⟨dq, osq⟩, hw''⟩ := hw'
      have hb3 := below_regrown wr dq osq
      rw [← hw''] at hb3
      clear hw''
      have HB7 := Lib.hid (below_step HB.out HB.out.size hb3)
      clear hb3
      go_wp2_with fail
      exact ⟨⟨k + 1, by omega, by go_num, HB7⟩, by simp [intOf]; omega⟩
    · obtain rfl : k = l.length := by omega
      go_wp2_with fail
      go_ret
      exact ⟨rfl, hb.out⟩

end Go.Proofs.YtcoeakdpcigogaaDoor
