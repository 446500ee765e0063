/-
  Binds and strings in memory; what the library wants of the world.
-/
import Derived.Test.YtcoeakdpcigogaaDoorAnfPlain
import Derived.Test.YtcoeakdpcigogaaDoorFevMem
import Derived.Test.YtcoeakdpcigogaaDoorFunAppG
import Derived.Lib.AppendIntMem
namespace Go.Proofs.YtcoeakdpcigogaaDoor
open Go.ChangeShapes Go.WideShapes Go.ChangeAt Go.RowKit Go.Sort Go.Maps

/-! ### The library's table -/
structure Wld (w : World) : Prop where
  tab : Lib.TabIs Tryd.prog w "internal/strconv.uint64pow10" .u64 Lib.pow10Tab
theorem var_below {w w' : World} (hb : ∀ g, g < w.heap.size → w'.heap[g]? = w.heap[g]?) {n : String} {cs : Array Value} (h : w.var? Tryd.prog n = some cs) : w'.var? Tryd.prog n = some cs := by
  unfold World.var? at h ⊢
  cases hg : Tryd.prog.globalNamed n with
  | none => rw [hg] at h; cases h
  | some g =>
    rw [hg] at h
    simp only [Option.bind_some] at h ⊢
    have hlt : g < w.heap.size := by
      rcases Nat.lt_or_ge g w.heap.size with e | e
      · exact e
      · rw [Array.getElem?_eq_none e] at h; cases h
    rw [hb g hlt]; exact h
theorem Wld.below {w w' : World} (h : Wld w) (hb : Below w.heap.size w w') : Wld w' := ⟨var_below hb.block h.tab⟩
theorem itoa_any (n : Nat) (w : World) (h : Wld w) (h1 : n ≤ 9223372036854775807) :
    Calls Tryd.prog 43 #[.int .i64 n] w fun e w' => e = .returned (.string ⟨(Lib.itoa (n : Int)).toArray⟩) ∧ Below w.heap.size w w' := by
  refine (Tryd.strconv_Itoa n (by omega) (by omega) w h.tab).mono ?_
  rintro e w' ⟨rfl, k, os, rfl⟩
  exact ⟨rfl, Lib.below_grow _ _ (Nat.le_refl _) _ _⟩
theorem tmpN_cat (n : Nat) : (⟨#[116]⟩ : ByteArray) ++ ⟨(Lib.itoa (n : Int)).toArray⟩ = tmpN n := by
  unfold tmpN
  rw [ByteArray.ext_iff]
  rw [ByteArray.data_append]
  simp

/-! ### Strings -/
def StrsX (w : World) (X : Nat → Prop) (A : Option Addr) (l : List ByteArray) : Prop :=
  ∀ k s, l[k]? = some s → ∃ b o, A = some ⟨b, o, none⟩ ∧ ¬ X b ∧ w.cell? ⟨b, o + k, none⟩ = some (.string s)
theorem StrsX.le {w w' : World} {X X' : Nat → Prop} {A : Option Addr} {l : List ByteArray} (h : StrsX w X A l) (hl : Le w X w' X') : StrsX w' X' A l := fun k s hk => by
  obtain ⟨b, o, e, h1, c⟩ := h k s hk
  exact ⟨b, o, e, (hl _ _ c h1).2, (hl _ _ c h1).1⟩
theorem StrsX.nil (w : World) (X : Nat → Prop) (A : Option Addr) : StrsX w X A [] := fun k x hk => by simp at hk
theorem strsX_of_own {w : World} {X : Nat → Prop} {base : Nat} {e : TypeId} {v : Value} {l : List ByteArray} (h : w.ownsRow base e 1 v l.length (l.map Value.string)) (hX : ∀ g, v.ownBlock = some g → ¬ X g) : ∃ A c, v = .slice A l.length c ∧ StrsX w X A l := by
  rcases id h.2 with ⟨rfl, h0⟩ | ⟨g, cap, cur, rfl, hg, hh, hc1, hc2, hc3, hc4⟩
  · refine ⟨none, 0, by rw [h0], fun k x hk => ?_⟩
    have : l = [] := List.length_eq_zero_iff.1 h0
    subst this; simp at hk
  · refine ⟨some ⟨g, 0, none⟩, cap, rfl, fun k x hk => ⟨g, 0, rfl, hX g rfl, ?_⟩⟩
    have := h.cells (g := g) rfl k (.string x) (by rw [List.getElem?_map, hk]; rfl)
    rw [add0] at this
    rw [Nat.zero_add]; exact this
theorem strsX_lit (w : World) (X : Nat → Prop) (s : ByteArray) (T : TypeId) (hX : ¬ X w.heap.size) : StrsX (w.alloc (Obj.cells #[.string s] T)) X (some ⟨w.heap.size, 0, none⟩) [s] := fun k x hk => by
  match k, hk with
  | 0, hk => cases hk; exact ⟨_, 0, rfl, hX, (bx_new w #[.string s] T).cell rfl⟩
  | k + 1, hk => simp at hk

/-! ### Binds -/
inductive BdO (w : World) (X : Nat → Prop) : Nat → Nat → Bd → Prop
  | mk {b o : Nat} {t : Bd} {Aa At Ae : Option Addr} {ca ct ce bt ot be oe : Nat} (hX : ¬ X b)
      (c0 : w.cell? ⟨b, o, none⟩ = some (.string t.to)) (c1 : w.cell? ⟨b, o + 1, none⟩ = some (.bool t.list)) (c2 : w.cell? ⟨b, o + 2, none⟩ = some (.int .u8 t.op)) (c3 : w.cell? ⟨b, o + 3, none⟩ = some (.int .i64 t.num)) (c4 : w.cell? ⟨b, o + 4, none⟩ = some (.string t.name))
      (c5 : w.cell? ⟨b, o + 5, none⟩ = some (.slice Aa t.args.length ca)) (ha : StrsX w X Aa t.args)
      (c6 : w.cell? ⟨b, o + 6, none⟩ = some (.slice At t.thn.length ct)) (hA : 0 < t.thn.length → At = some ⟨bt, ot, none⟩) (hk : ∀ k y, t.thn[k]? = some y → BdO w X bt (ot + k * 8) y)
      (c7 : w.cell? ⟨b, o + 7, none⟩ = some (.slice Ae t.els.length ce)) (hB : 0 < t.els.length → Ae = some ⟨be, oe, none⟩) (hj : ∀ k y, t.els[k]? = some y → BdO w X be (oe + k * 8) y) : BdO w X b o t
theorem BdO.le {w w' : World} {X X' : Nat → Prop} (hl : Le w X w' X') {b o : Nat} {t : Bd} (h : BdO w X b o t) : BdO w' X' b o t := by
  induction h with
  | mk hX c0 c1 c2 c3 c4 c5 ha c6 hA _ c7 hB _ ih ij =>
    exact .mk (hl _ _ c0 hX).2 (hl _ _ c0 hX).1 (hl _ _ c1 hX).1 (hl _ _ c2 hX).1 (hl _ _ c3 hX).1 (hl _ _ c4 hX).1 (hl _ _ c5 hX).1 (ha.le hl) (hl _ _ c6 hX).1 hA ih (hl _ _ c7 hX).1 hB ij
def BdsX (w : World) (X : Nat → Prop) (A : Option Addr) (l : List Bd) : Prop :=
  ∀ k t, l[k]? = some t → ∃ b o, A = some ⟨b, o, none⟩ ∧ BdO w X b (o + k * 8) t
theorem BdsX.le {w w' : World} {X X' : Nat → Prop} {A : Option Addr} {l : List Bd} (h : BdsX w X A l) (hl : Le w X w' X') : BdsX w' X' A l := fun k x hk => by
  obtain ⟨b, o, e, hi⟩ := h k x hk
  exact ⟨b, o, e, hi.le hl⟩
theorem BdsX.nil (w : World) (X : Nat → Prop) (A : Option Addr) : BdsX w X A [] := fun k x hk => by simp at hk
def BdC (w : World) (X : Nat → Prop) (cs : List Value) (t : Bd) : Prop := ∃ Aa ca At ct Ae ce, cs = [.string t.to, .bool t.list, .int .u8 t.op, .int .i64 t.num, .string t.name, .slice Aa t.args.length ca, .slice At t.thn.length ct, .slice Ae t.els.length ce] ∧ StrsX w X Aa t.args ∧ BdsX w X At t.thn ∧ BdsX w X Ae t.els
theorem BdC.le {w w' : World} {X X' : Nat → Prop} (hl : Le w X w' X') (cs : List Value) (t : Bd) (h : BdC w X cs t) : BdC w' X' cs t := by
  obtain ⟨Aa, ca, At, ct, Ae, ce, e, h1, h2, h3⟩ := h
  exact ⟨Aa, ca, At, ct, Ae, ce, e, h1.le hl, h2.le hl, h3.le hl⟩
theorem BdC.len {w : World} {X : Nat → Prop} (cs : List Value) (t : Bd) (h : BdC w X cs t) : cs.length = 8 := by
  obtain ⟨Aa, ca, At, ct, Ae, ce, rfl, _⟩ := h; rfl
theorem BdC.one {w : World} {X : Nat → Prop} (cs : List Value) (t : Bd) (h : BdC w X cs t) : ∀ u ∈ cs, u.oneCell' = true := by
  obtain ⟨Aa, ca, At, ct, Ae, ce, rfl, _⟩ := h
  intro u hu
  simp at hu
  rcases hu with h | h | h | h | h | h | h | h <;> subst h <;> rfl
theorem bdO_of_cells {w : World} {X : Nat → Prop} {b o : Nat} {t : Bd} {cs : List Value} (h : BdC w X cs t) (hX : ¬ X b) (hc : ∀ j, j < 8 → w.cell? ⟨b, o + j, none⟩ = cs[j]?) : BdO w X b o t := by
  obtain ⟨Aa, ca, At, ct, Ae, ce, rfl, h1, h2, h3⟩ := h
  have key : ∀ {A : Option Addr} {l : List Bd}, BdsX w X A l → ∃ bt ot, (0 < l.length → A = some ⟨bt, ot, none⟩) ∧ ∀ k y, l[k]? = some y → BdO w X bt (ot + k * 8) y := fun {A l} h => by
    by_cases h0 : 0 < l.length
    · obtain ⟨b', o', rfl, _⟩ := h 0 _ (List.getElem?_eq_getElem h0)
      refine ⟨b', o', fun _ => rfl, fun k y hy => ?_⟩
      obtain ⟨b2, o2, e, h4⟩ := h k y hy
      cases e
      exact h4
    · exact ⟨0, 0, fun h => absurd h h0, fun k y hy => by have := (List.getElem?_eq_some_iff.1 hy).1; omega⟩
  obtain ⟨bt, ot, k1, k2⟩ := key h2
  obtain ⟨be, oe, j1, j2⟩ := key h3
  exact .mk hX (hc 0 (by omega)) (hc 1 (by omega)) (hc 2 (by omega)) (hc 3 (by omega)) (hc 4 (by omega)) (hc 5 (by omega)) h1 (hc 6 (by omega)) k1 k2 (hc 7 (by omega)) j1 j2
theorem BdO.open_ {w : World} {X : Nat → Prop} {b o : Nat} {t : Bd} (h : BdO w X b o t) : ∃ cs, BdC w X cs t ∧ ¬ X b ∧ ∀ (j : Nat) (u : Value), cs[j]? = some u → w.cell? ⟨b, o + j, none⟩ = some u := by
  cases h with
  | @mk _ _ _ Aa At Ae ca ct ce bt ot be oe hX c0 c1 c2 c3 c4 c5 ha c6 hA hk c7 hB hj =>
    refine ⟨_, ⟨Aa, ca, At, ct, Ae, ce, rfl, ha, fun k y hy => ?_, fun k y hy => ?_⟩, hX, fun j u hu => ?_⟩
    · exact ⟨bt, ot, hA (by have := (List.getElem?_eq_some_iff.1 hy).1; omega), hk k y hy⟩
    · exact ⟨be, oe, hB (by have := (List.getElem?_eq_some_iff.1 hy).1; omega), hj k y hy⟩
    · match j, hu with
      | 0, hu => cases hu; exact c0
      | 1, hu => cases hu; exact c1
      | 2, hu => cases hu; exact c2
      | 3, hu => cases hu; exact c3
      | 4, hu => cases hu; exact c4
      | 5, hu => cases hu; exact c5
      | 6, hu => cases hu; exact c6
      | 7, hu => cases hu; exact c7
      | j + 8, hu => simp at hu
theorem bdsX_of_own {w : World} {X : Nat → Prop} {base : Nat} {e : TypeId} {v : Value} {cs : List Value} {l : List Bd} (h : w.ownsRow base e 8 v l.length cs) (hr : RowG (BdC w X) cs l) (hX : ∀ g, v.ownBlock = some g → ¬ X g) : ∃ A c, v = .slice A l.length c ∧ BdsX w X A l := by
  rcases id h.2 with ⟨rfl, h0⟩ | ⟨g, cap, cur, rfl, hg, hh, hc1, hc2, hc3, hc4⟩
  · refine ⟨none, 0, by rw [h0], fun k x hk => ?_⟩
    have : l = [] := List.length_eq_zero_iff.1 h0
    subst this; simp at hk
  · refine ⟨some ⟨g, 0, none⟩, cap, rfl, fun k x hk => ⟨g, 0, rfl, ?_⟩⟩
    obtain ⟨c7, h3, h4⟩ := hr.get BdC.len k x hk
    refine bdO_of_cells h3 (hX g rfl) fun j hj => ?_
    rw [← h4 j hj]
    have hlen := hr.len BdC.len
    have hlt : k * 8 + j < cs.length := by
      have := (List.getElem?_eq_some_iff.1 hk).1; omega
    have := h.cells (g := g) rfl (k * 8 + j) _ (List.getElem?_eq_getElem hlt)
    rw [add0] at this
    rw [List.getElem?_eq_getElem hlt, Nat.zero_add]; exact this

end Go.Proofs.YtcoeakdpcigogaaDoor
