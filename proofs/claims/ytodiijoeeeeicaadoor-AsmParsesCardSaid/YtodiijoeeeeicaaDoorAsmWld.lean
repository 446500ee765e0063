/-
  What the library functions need of the world, and their contracts in the form that the walks use.
-/
import Derived.Test.YtodiijoeeeeicaaDoorAsmP
import Derived.Test.YtodiijoeeeeicaaDoorAsmBs
import Derived.Test.YtodiijoeeeeicaaDoorAsmBld
import Derived.Lib.AppendIntMem
namespace Go.Proofs.YtodiijoeeeeicaaDoor
open Go.ChangeShapes Go.WideShapes Go.ChangeAt Go.RowKit Go.Sort Go.Maps

/-- The variables of the library that the walks read. -/
structure Wld (w : World) : Prop where
  tab : Lib.TabIs Tryd.prog w "internal/strconv.uint64pow10" .u64 Lib.pow10Tab
  mx : ∃ m, w.cell? ⟨2, 0, none⟩ = some (.int .i64 m)
  syn : ∃ v, w.cell? ⟨4, 0, none⟩ = some v ∧ (v = .nilIface ∨ ∃ te pe, v = .iface te pe)
  rng : ∃ v, w.cell? ⟨5, 0, none⟩ = some v ∧ (v = .nilIface ∨ ∃ te pe, v = .iface te pe)
theorem var_below {w w' : World} (hb : Below w.heap.size w w') {n : String} {cs : Array Value} (h : w.var? Tryd.prog n = some cs) : w'.var? Tryd.prog n = some cs := by
  unfold World.var? at h ⊢
  cases hg : Tryd.prog.globalNamed n with
  | none => rw [hg] at h; cases h
  | some g =>
    rw [hg] at h
    simp only [Option.bind_some] at h ⊢
    have hlt : g < w.heap.size := by
      rcases Nat.lt_or_ge g w.heap.size with e | e
      · exact e
      · rw [Array.getElem?_eq_none e] at h; cases h
    rw [hb.block g hlt]; exact h
theorem Wld.below {w w' : World} (h : Wld w) (hb : Below w.heap.size w w') : Wld w' := by
  obtain ⟨m, h0⟩ := h.mx
  obtain ⟨v1, h1, g1⟩ := h.syn
  obtain ⟨v2, h2, g2⟩ := h.rng
  exact ⟨var_below hb h.tab, ⟨m, below_cell hb h0⟩, ⟨v1, below_cell hb h1, g1⟩, ⟨v2, below_cell hb h2, g2⟩⟩

def AtoiR (l : List UInt8) (w : World) (e : Ending) (w' : World) : Prop :=
  Below w.heap.size w w' ∧ ((∃ v, Lib.atoiAll l = .ok v ∧ e = .returned (.tuple #[.int .i64 v, .nilIface])) ∨
    ((∀ v, Lib.atoiAll l ≠ .ok v) ∧ ∃ x N, e = .returned (.tuple #[.int .i64 x, .iface 134 (.pointer (some ⟨N, 0, none⟩))])))
theorem atoi_any (l : List UInt8) (w : World) (hl : l.length ≤ 281474976710656) (h : Wld w) : Calls Tryd.prog 77 #[.string (bs l)] w (AtoiR l w) := by
  have hsz : (bs l).size = l.length := bs_size l
  cases ha : Lib.atoiAll l with
  | ok v =>
    refine (Tryd.strconv_Atoi_ok (bs l) (by omega) v (by rw [data_bs]; exact ha) w).mono ?_
    rintro e w' ⟨rfl, rfl | ⟨t, rfl⟩⟩
    · exact ⟨Below.refl _ _, .inl ⟨v, ha, rfl⟩⟩
    · exact ⟨Lib.bytesWorld_below _ _ _, .inl ⟨v, ha, rfl⟩⟩
  | «syntax» =>
    obtain ⟨ev, h1, g1⟩ := h.syn
    refine (Tryd.strconv_Atoi_syntax (bs l) (by omega) (by rw [data_bs]; exact ha) ev w h1 g1).mono ?_
    rintro e w' ⟨N, he, _, _, hb⟩
    subst he
    exact ⟨hb, .inr ⟨fun v hv => (by rw [ha] at hv; cases hv), _, N, rfl⟩⟩
  | range =>
    obtain ⟨ev, h1, g1⟩ := h.rng
    refine (Tryd.strconv_Atoi_range (bs l) (by omega) (by rw [data_bs]; exact ha) ev w h1 g1).mono ?_
    rintro e w' ⟨N, he, _, _, hb⟩
    subst he
    exact ⟨hb, .inr ⟨fun v hv => (by rw [ha] at hv; cases hv), _, N, rfl⟩⟩

theorem itoa_any (n : Int) (w : World) (h : Wld w) (h0 : -9223372036854775808 ≤ n) (h1 : n ≤ 9223372036854775807) :
    Calls Tryd.prog 56 #[.int .i64 n] w fun e w' => e = .returned (.string (bs (Lib.itoa n))) ∧ Below w.heap.size w w' := by
  refine (Tryd.strconv_Itoa n h0 h1 w h.tab).mono ?_
  rintro e w' ⟨rfl, k, os, rfl⟩
  exact ⟨rfl, Lib.below_grow _ _ (Nat.le_refl _) _ _⟩
/-! ### The builder, and what stands above it -/
/-- The builder at b holds these bytes; what else the call has laid stands. -/
def BF (B b : Nat) (W w : World) (l : List UInt8) : Prop := Below B W w ∧ Lib.IsBuilderF 61 5 B b (Lib.byteCells l) w ∧ Lib.OthersKept 5 (some b) W w
theorem builderF_below {T e : TypeId} {B b : Nat} {xs : List Value} {w w' : World} (h : Lib.IsBuilderF T e B b xs w) (hb : Below w.heap.size w w') : Lib.IsBuilderF T e B b xs w' := by
  have key : ∀ p, Lib.BuilderAtF T e B b p xs w → Lib.BuilderAtF T e B b p xs w' := fun p hp => by
    obtain ⟨hB, v, hk, hown, hne⟩ := hp
    refine ⟨hB, v, by rw [hb.block b (lt_of_block hk)]; exact hk, ?_, hne⟩
    refine ⟨hown.1, ?_⟩
    rcases hown.2 with hn | ⟨g, cap, cur, fz, hv, hbg, hg, rest⟩
    · exact .inl hn
    · exact .inr ⟨g, cap, cur, fz, hv, hbg, by rw [hb.block g (lt_of_block hg)]; exact hg, rest⟩
  exact h.elim (fun x => .inl (key _ x)) (fun x => .inr (key _ x))
theorem BF.below {B b : Nat} {W w w' : World} {l : List UInt8} (h : BF B b W w l) (hB : B ≤ w.heap.size) (hb : Below w.heap.size w w') : BF B b W w' l :=
  ⟨below_step h.1 hB hb, builderF_below h.2.1 hb, fun k o hk hn ho => by
    have h1 := h.2.2 k o hk hn ho
    rw [hb.block k (Array.getElem?_eq_some_iff.1 h1).1]; exact h1⟩
theorem BF.drew {B b : Nat} {W w : World} {l : List UInt8} (h : BF B b W w l) : BF B b W w.drew l := ⟨belowDrawn h.1, h.2.1.elim (fun x => .inl x) (fun x => .inr x), h.2.2⟩
theorem BF.trans {B b : Nat} {W w w' : World} {l l' : List UInt8} (h : BF B b W w l) (h2 : BF B b w w' l') : BF B b W w' l' := ⟨h.1.trans h2.1, h2.2.1, h.2.2.trans h2.2.2⟩
theorem wsk_any (B b : Nat) (pre s : List UInt8) (W w : World) (h : BF B b W w pre) (hlen : pre.length + s.length ≤ 140737488355328) (hBw : B ≤ w.heap.size) :
    Calls Tryd.prog 29 #[.pointer (some ⟨b, 0, none⟩), .string (bs s)] w fun e w' => e = .returned (.tuple #[.int .i64 s.length, .nilIface]) ∧ BF B b W w' (pre ++ s) := by
  refine (Tryd.Builder_WriteString_k B b (Lib.byteCells pre) (bs s) w h.2.1 (by rw [Lib.byteCells_length, bs_size]; exact hlen) hBw).mono ?_
  rintro e w' ⟨rfl, h1, h2, h3⟩
  rw [bs_size]
  rw [Lib.strCells_eq, data_bs, ← Lib.byteCells_append] at h1
  exact ⟨rfl, h.1.trans h2, .inr h1, h.2.2.trans h3⟩
theorem wbk_any (B b : Nat) (pre : List UInt8) (c : UInt8) (W w : World) (h : BF B b W w pre) (hlen : pre.length + 1 ≤ 140737488355328) (hBw : B ≤ w.heap.size) :
    Calls Tryd.prog 32 #[.pointer (some ⟨b, 0, none⟩), .int .u8 c.toNat] w fun e w' => e = .returned .nilIface ∧ BF B b W w' (pre ++ [c]) := by
  refine (Tryd.Builder_WriteByte_k B b (Lib.byteCells pre) c.toNat w h.2.1 (by rw [Lib.byteCells_length]; exact hlen) hBw).mono ?_
  rintro e w' ⟨rfl, h1, h2, h3⟩
  refine ⟨rfl, h.1.trans h2, .inr ?_, h.2.2.trans h3⟩
  rw [Lib.byteCells_append]
  exact h1
theorem bstrk_any (B b : Nat) (l : List UInt8) (W w : World) (h : BF B b W w l) (hBw : B ≤ w.heap.size) :
    Calls Tryd.prog 33 #[.pointer (some ⟨b, 0, none⟩)] w fun e w' => e = .returned (.string (bs l)) ∧ Below B W w' := by
  refine (Tryd.Builder_String_any_f B b l w h.2.1 hBw).mono ?_
  rintro e w' ⟨rfl, _, h2⟩
  exact ⟨rfl, h.1.trans h2⟩
/-! ### The builder -/
theorem builderAt_below {T e : TypeId} {B b : Nat} {p : Value} {xs : List Value} {w w' : World} (h : Lib.BuilderAt T e B b p xs w) (hb : Below w.heap.size w w') : Lib.BuilderAt T e B b p xs w' := by
  have hlt := h.lt
  obtain ⟨hB, v, hk, hown, hne⟩ := h
  exact ⟨hB, v, by rw [hb.block b hlt]; exact hk, own_below hown hb, hne⟩
theorem builder_below {T e : TypeId} {B b : Nat} {xs : List Value} {w w' : World} (h : Lib.IsBuilder T e B b xs w) (hb : Below w.heap.size w w') : Lib.IsBuilder T e B b xs w' :=
  h.elim (fun x => .inl (builderAt_below x hb)) (fun x => .inr (builderAt_below x hb))
theorem ws_any (B b : Nat) (pre s : List UInt8) (w : World) (h : Lib.IsBuilder 61 5 B b (Lib.byteCells pre) w) (hlen : pre.length + s.length ≤ 140737488355328) (hBw : B ≤ w.heap.size) :
    Calls Tryd.prog 29 #[.pointer (some ⟨b, 0, none⟩), .string (bs s)] w fun e w' => e = .returned (.tuple #[.int .i64 s.length, .nilIface]) ∧ Lib.IsBuilder 61 5 B b (Lib.byteCells (pre ++ s)) w' ∧ Below B w w' := by
  refine (Tryd.Builder_WriteString B b (Lib.byteCells pre) (bs s) w h (by rw [Lib.byteCells_length, bs_size]; exact hlen) hBw).mono ?_
  rintro e w' ⟨rfl, h1, h2⟩
  rw [bs_size]
  refine ⟨rfl, .inr ?_, h2⟩
  rw [Lib.strCells_eq, data_bs, ← Lib.byteCells_append] at h1
  exact h1
theorem wb_any (B b : Nat) (pre : List UInt8) (c : UInt8) (w : World) (h : Lib.IsBuilder 61 5 B b (Lib.byteCells pre) w) (hlen : pre.length + 1 ≤ 140737488355328) (hBw : B ≤ w.heap.size) :
    Calls Tryd.prog 32 #[.pointer (some ⟨b, 0, none⟩), .int .u8 c.toNat] w fun e w' => e = .returned .nilIface ∧ Lib.IsBuilder 61 5 B b (Lib.byteCells (pre ++ [c])) w' ∧ Below B w w' := by
  refine (Tryd.Builder_WriteByte B b (Lib.byteCells pre) c.toNat w h (by rw [Lib.byteCells_length]; exact hlen) hBw).mono ?_
  rintro e w' ⟨rfl, h1, h2⟩
  refine ⟨rfl, .inr ?_, h2⟩
  rw [Lib.byteCells_append]
  exact h1
theorem bstr_any (B b : Nat) (l : List UInt8) (w : World) (h : Lib.IsBuilder 61 5 B b (Lib.byteCells l) w) (hBw : B ≤ w.heap.size) :
    Calls Tryd.prog 33 #[.pointer (some ⟨b, 0, none⟩)] w fun e w' => e = .returned (.string (bs l)) ∧ Below B w w' :=
  Tryd.Builder_String_any B b l w h hBw
theorem builder_new (w : World) : Lib.IsBuilder 61 5 w.heap.size w.heap.size (Lib.byteCells []) (w.alloc (Obj.cells #[.pointer none, .slice none 0 0] 61)) :=
  .inl ⟨Nat.le_refl _, .slice none 0 0, heap_alloc_new w _, World.ownsRow_nil _ _ _ _, by simp [Value.ownBlock]⟩

theorem bf_new (w : World) : BF w.heap.size w.heap.size w (w.alloc (Obj.cells #[.pointer none, .slice none 0 0] 61)) [] :=
  ⟨below_box _ _, (builder_new w).elim (fun x => .inl (.of x)) (fun x => .inr (.of x)), (Lib.OthersKept.refl _ _ _).alloc _⟩

end Go.Proofs.YtodiijoeeeeicaaDoor
