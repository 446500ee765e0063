/-
  What the library functions need of the world, and their contracts in the form that the walks use.
-/
import Derived.Test.YtklljdjeobifiaaDoorScrValid2
import Derived.Test.YtklljdjeobifiaaDoorScrBld
import Derived.Lib.AppendIntMem
namespace Go.Proofs.YtklljdjeobifiaaDoor
open Go.ChangeShapes Go.WideShapes Go.ChangeAt Go.RowKit Go.Sort Go.Maps

/-- The variables of the library that the walks read. -/
structure Wld (w : World) : Prop where
  tab : Lib.TabIs Tryd.prog w "internal/strconv.uint64pow10" .u64 Lib.pow10Tab
  mx : ∃ m, w.cell? ⟨0, 0, none⟩ = some (.int .i64 m)
  syn : ∃ v, w.cell? ⟨2, 0, none⟩ = some v ∧ (v = .nilIface ∨ ∃ te pe, v = .iface te pe)
  rng : ∃ v, w.cell? ⟨3, 0, none⟩ = some v ∧ (v = .nilIface ∨ ∃ te pe, v = .iface te pe)
theorem var_below {w w' : World} (hb : Below w.heap.size w w') {n : String} {cs : Array Value} (h : w.var? Tryd.prog n = some cs) : w'.var? Tryd.prog n = some cs := by
  unfold World.var? at h ⊢
  cases hg : Tryd.prog.globalNamed n with
  | none => rw [hg] at h; cases h
  | some g =>
    rw [hg] at h
    simp only [Option.bind_some] at h ⊢
    have hlt : g < w.heap.size := by
      rcases Nat.lt_or_ge g w.heap.size with e | e
      · exact e
      · rw [Array.getElem?_eq_none e] at h; cases h
    rw [hb.block g hlt]; exact h
theorem Wld.below {w w' : World} (h : Wld w) (hb : Below w.heap.size w w') : Wld w' := by
  obtain ⟨m, h0⟩ := h.mx
  obtain ⟨v1, h1, g1⟩ := h.syn
  obtain ⟨v2, h2, g2⟩ := h.rng
  exact ⟨var_below hb h.tab, ⟨m, below_cell hb h0⟩, ⟨v1, below_cell hb h1, g1⟩, ⟨v2, below_cell hb h2, g2⟩⟩

def AtoiR (l : List UInt8) (w : World) (e : Ending) (w' : World) : Prop :=
  Below w.heap.size w w' ∧ ((∃ v, Lib.atoiAll l = .ok v ∧ e = .returned (.tuple #[.int .i64 v, .nilIface])) ∨
    ((∀ v, Lib.atoiAll l ≠ .ok v) ∧ ∃ x N, e = .returned (.tuple #[.int .i64 x, .iface 125 (.pointer (some ⟨N, 0, none⟩))])))
theorem atoi_any (l : List UInt8) (w : World) (hl : l.length ≤ 281474976710656) (h : Wld w) : Calls Tryd.prog 63 #[.string (bs l)] w (AtoiR l w) := by
  have hsz : (bs l).size = l.length := bs_size l
  cases ha : Lib.atoiAll l with
  | ok v =>
    refine (Tryd.strconv_Atoi_ok (bs l) (by omega) v (by rw [data_bs]; exact ha) w).mono ?_
    rintro e w' ⟨rfl, rfl | ⟨t, rfl⟩⟩
    · exact ⟨Below.refl _ _, .inl ⟨v, ha, rfl⟩⟩
    · exact ⟨Lib.bytesWorld_below _ _ _, .inl ⟨v, ha, rfl⟩⟩
  | «syntax» =>
    obtain ⟨ev, h1, g1⟩ := h.syn
    refine (Tryd.strconv_Atoi_syntax (bs l) (by omega) (by rw [data_bs]; exact ha) ev w h1 g1).mono ?_
    rintro e w' ⟨N, he, _, _, hb⟩
    subst he
    exact ⟨hb, .inr ⟨fun v hv => (by rw [ha] at hv; cases hv), _, N, rfl⟩⟩
  | range =>
    obtain ⟨ev, h1, g1⟩ := h.rng
    refine (Tryd.strconv_Atoi_range (bs l) (by omega) (by rw [data_bs]; exact ha) ev w h1 g1).mono ?_
    rintro e w' ⟨N, he, _, _, hb⟩
    subst he
    exact ⟨hb, .inr ⟨fun v hv => (by rw [ha] at hv; cases hv), _, N, rfl⟩⟩

theorem itoa_any (n : Int) (w : World) (h : Wld w) (h0 : -9223372036854775808 ≤ n) (h1 : n ≤ 9223372036854775807) :
    Calls Tryd.prog 23 #[.int .i64 n] w fun e w' => e = .returned (.string (bs (Lib.itoa n))) ∧ Below w.heap.size w w' := by
  refine (Tryd.strconv_Itoa n h0 h1 w h.tab).mono ?_
  rintro e w' ⟨rfl, k, os, rfl⟩
  exact ⟨rfl, Lib.below_grow _ _ (Nat.le_refl _) _ _⟩
theorem count_any (l : List UInt8) (c : UInt8) (w : World) :
    Calls Tryd.prog 24 #[.string (bs l), .string ⟨#[c]⟩] w fun e w' => e = .returned (.int .i64 ((l.count c : Nat) : Int)) ∧ w' = w := by
  have := Tryd.strings_Count_one (bs l) c w
  rw [data_bs] at this
  exact this
theorem join_any (l : List (List UInt8)) (b o cap : Nat) (w : World) (h : StrsAt w (some ⟨b, o, none⟩) (l.map bs)) (hl : 0 < l.length) (hc : l.length ≤ cap) (hn : (Lib.join l [32]).length ≤ 140737488355328) (hm : l.length ≤ 140737488355328) :
    Calls Tryd.prog 26 #[.slice (some ⟨b, o, none⟩) l.length cap, .string ⟨#[32]⟩] w fun e w' => e = .returned (.string (bs (Lib.join l [32]))) ∧ Below w.heap.size w w' := by
  have e : (l.map bs).map (·.data.toList) = l := by
    rw [List.map_map]
    conv => rhs; rw [← List.map_id l]
    exact List.map_congr_left fun x _ => data_bs x
  have hcell : ∀ (j : Nat) x, (l.map bs)[j]? = some x → w.cell? ⟨b, o + j, none⟩ = some (.string x) := fun j x hj => by
    obtain ⟨b', o', e, hc⟩ := h j x hj
    cases e; exact hc
  have hlt : b < w.heap.size := by
    have h0 : (l.map bs)[0]? = some ((l.map bs)[0]'(by simpa using hl)) := List.getElem?_eq_getElem _
    exact block_lt_of_cell (hcell 0 _ h0)
  have := Tryd.strings_Join b o cap (l.map bs) ⟨#[32]⟩ w hcell hlt (by simpa using hm) (by simpa using hc) (by rw [e]; exact hn)
  rw [e, List.length_map] at this
  exact this

/-! ### The builder -/
theorem builderAt_below {T e : TypeId} {B b : Nat} {p : Value} {xs : List Value} {w w' : World} (h : Lib.BuilderAt T e B b p xs w) (hb : Below w.heap.size w w') : Lib.BuilderAt T e B b p xs w' := by
  have hlt := h.lt
  obtain ⟨hB, v, hk, hown, hne⟩ := h
  exact ⟨hB, v, by rw [hb.block b hlt]; exact hk, own_below hown hb, hne⟩
theorem builder_below {T e : TypeId} {B b : Nat} {xs : List Value} {w w' : World} (h : Lib.IsBuilder T e B b xs w) (hb : Below w.heap.size w w') : Lib.IsBuilder T e B b xs w' :=
  h.elim (fun x => .inl (builderAt_below x hb)) (fun x => .inr (builderAt_below x hb))
theorem ws_any (B b : Nat) (pre s : List UInt8) (w : World) (h : Lib.IsBuilder 49 5 B b (Lib.byteCells pre) w) (hlen : pre.length + s.length ≤ 140737488355328) (hBw : B ≤ w.heap.size) :
    Calls Tryd.prog 25 #[.pointer (some ⟨b, 0, none⟩), .string (bs s)] w fun e w' => e = .returned (.tuple #[.int .i64 s.length, .nilIface]) ∧ Lib.IsBuilder 49 5 B b (Lib.byteCells (pre ++ s)) w' ∧ Below B w w' := by
  refine (Tryd.Builder_WriteString B b (Lib.byteCells pre) (bs s) w h (by rw [Lib.byteCells_length, bs_size]; exact hlen) hBw).mono ?_
  rintro e w' ⟨rfl, h1, h2⟩
  rw [bs_size]
  refine ⟨rfl, .inr ?_, h2⟩
  rw [Lib.strCells_eq, data_bs, ← Lib.byteCells_append] at h1
  exact h1
theorem bstr_any (B b : Nat) (l : List UInt8) (w : World) (h : Lib.IsBuilder 49 5 B b (Lib.byteCells l) w) (hBw : B ≤ w.heap.size) :
    Calls Tryd.prog 27 #[.pointer (some ⟨b, 0, none⟩)] w fun e w' => e = .returned (.string (bs l)) ∧ Below B w w' :=
  Tryd.Builder_String_any B b l w h hBw
theorem builder_new (w : World) : Lib.IsBuilder 49 5 w.heap.size w.heap.size (Lib.byteCells []) (w.alloc (Obj.cells #[.pointer none, .slice none 0 0] 49)) :=
  .inl ⟨Nat.le_refl _, .slice none 0 0, heap_alloc_new w _, World.ownsRow_nil _ _ _ _, by simp [Value.ownBlock]⟩

/-! ### A row of words that the call has made -/
def WA (W wc : World) (v : Value) (l : List (List UInt8)) : Prop := Below W.heap.size W wc ∧ wc.ownsRow W.heap.size 9 1 v l.length ((l.map bs).map Value.string)
theorem WA.below {W wc wx : World} {v : Value} {l : List (List UInt8)} (h : WA W wc v l) (hb : Below wc.heap.size wc wx) : WA W wx v l := ⟨below_step h.1 h.1.size hb, own_below h.2 hb⟩
theorem WA.push {W wc w' : World} {v v' : Value} {l : List (List UInt8)} (h : WA W wc v l) (x : List UInt8) (hg : wc.grownBy w' v.ownBlock) (hown : w'.ownsRow W.heap.size 9 1 v' (l.length + 1) ((l.map bs).map Value.string ++ [.string (bs x)])) : WA W w' v' (l ++ [x]) :=
  ⟨h.1.grown hg h.1.size (fun k hk => own_block_geB h.2 k hk), by rw [List.length_append, List.map_append, List.map_append]; exact hown⟩
theorem WA.form {W wc : World} {v : Value} {l : List (List UInt8)} (h : WA W wc v l) : ∃ A c, v = .slice A l.length c ∧ l.length ≤ c ∧ (0 < l.length → ∃ g, A = some ⟨g, 0, none⟩) := by
  obtain ⟨A, c, e, h1, h2⟩ := own_formB h.2
  exact ⟨A, c, e, h1, fun h0 => by obtain ⟨g, e, _⟩ := h2 h0; exact ⟨g, e⟩⟩
theorem WA.strs {W wc : World} {A : Option Addr} {n c : Nat} {l : List (List UInt8)} (h : WA W wc (.slice A n c) l) : StrsAt wc A (l.map bs) := by
  have h2 := h.2
  have e : l.length = (l.map bs).length := by simp
  rw [e] at h2
  obtain ⟨A', c', e, _, h3⟩ := strs_of_own h2
  cases e; exact h3
theorem WA.new (W : World) (x : List UInt8) : WA W (W.alloc (Obj.cells #[.string (bs x)] 9)) (.slice (some ⟨W.heap.size, 0, none⟩) 1 1) [x] :=
  ⟨below_box _ _, by
    refine ⟨?_, .inr ⟨W.heap.size, 1, #[.string (bs x)], rfl, Nat.le_refl _, heap_alloc_new W _, Nat.le_refl _, by unfold maxLen; omega, ?_, ?_⟩⟩ <;> simp⟩

end Go.Proofs.YtklljdjeobifiaaDoor
