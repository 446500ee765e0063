/-
  Arguments of layer 22 opened; what the row's laid variables give the walks.
-/
import Derived.Test.YtodiijoeeeeicaaDoorFrame
import Derived.Test.YtodiijoeeeeicaaDoorCards
import Derived.Test.YtodiijoeeeeicaaDoorTie
import Derived.Test.YtodiijoeeeeicaaDoorAsmWr
import Derived.Test.YtodiijoeeeeicaaDoorAsmTake
import Derived.Test.YtodiijoeeeeicaaDoorAsmRow
import Derived.Lib.LaidTab
import Derived.Stop.LaidErr
import Derived.LaidSub
import Derived.LaidOnce
import Derived.Lay
import Derived.Shelf.Vars
import Derived.Deep.DeepWitnessRowRef
import Derived.Deep.Slices
import Derived.JoinedOf
import Derived.JoinedAt
import Derived.RowKit3
namespace Go.Proofs.YtodiijoeeeeicaaDoor
open Go.ChangeShapes Go.WideShapes Go.ChangeAt Go.RowKit Go.Deep

theorem wf8_of {n : Int} (h : (Lit.int .u8 n).wf = true) : ∃ k : Nat, k < 256 ∧ n = k := by
  simp only [Lit.wf, IntKind.min, IntKind.max, IntKind.signed, IntKind.bits, Bool.and_eq_true] at h
  exact ⟨n.toNat, by have := h.1; have := h.2; simp at *; omega, by have := h.1; simp at *; omega⟩
theorem wf_u16 {n : Int} (h : (Lit.int .u16 n).wf = true) : ∃ k : Nat, k < 65536 ∧ n = k := by
  simp only [Lit.wf, IntKind.min, IntKind.max, IntKind.signed, IntKind.bits, Bool.and_eq_true] at h
  exact ⟨n.toNat, by have := h.1; have := h.2; simp at *; omega, by have := h.1; simp at *; omega⟩
theorem wf_i64 {n : Int} (h : (Lit.int .i64 n).wf = true) : -9223372036854775808 ≤ n ∧ n ≤ 9223372036854775807 := by
  simp only [Lit.wf, IntKind.min, IntKind.max, IntKind.signed, IntKind.bits, Bool.and_eq_true, decide_eq_true_eq] at h
  simp at h; omega
theorem spot_none {w : World} {a : Addr} {v : Value} (h : w.cell? a = some v) : a.spot = none := by
  unfold World.cell? at h
  split at h
  · split at h
    · cases h
    · rename_i hs; simpa using hs
  · cases h
theorem add_pos (b o n : Nat) : (⟨b, o, none⟩ : Addr).add n = ⟨b, o + n, none⟩ := by
  unfold Addr.add; by_cases h : n = 0 <;> simp [h]
theorem list_five {l : List Value} (h : l.length = 5) : ∃ a b c d e, l = [a, b, c, d, e] := by
  match l, h with
  | [a, b, c, d, e], _ => exact ⟨a, b, c, d, e, rfl⟩

instance : Inhabited Ins := ⟨⟨0, 0, 0, 0, 0⟩⟩

section
variable {H : Type} {enc : TypeId × Value → H} {w : World} {base : Nat} {spare : Nat → Bool} {held : Bool} {r : Reach} {b0 : Nat}

/-- A slice whose elements can be read. -/
theorem trod_list {α : Type} [Inhabited α] {t e : TypeId} {c : Nat} (ht : Tryd.prog.underlying t = some (.slice e)) (hc : Tryd.prog.cellsOf e = c) (hc0 : 0 < c) {p : List Value → α → Prop} {fuel : Nat} {cs : List Value} {x : DataW H × List MemPlace}
    (h : DataW.trod enc Tryd.prog w base spare held fuel t cs = some x)
    (hp : ∀ (n : Nat) (cs' : List Value) (y : DataW H × List MemPlace), n < fuel → DataW.trod enc Tryd.prog w base spare held n e cs' = some y → cs'.length = c → ∃ a, p cs' a) :
    ∃ (A : Option Addr) (l : List α) (cap : Nat), cs = [.slice A l.length cap] ∧ l.length ≤ cap ∧ l.length ≤ 9223372036854775807 ∧
      ∀ (k : Nat) (a : α), l[k]? = some a → ∃ b o cs', A = some ⟨b, o, none⟩ ∧ p cs' a ∧ ∀ j, j < c → w.cell? ⟨b, o + k * c + j, none⟩ = cs'[j]? := by
  rcases DataW.trod_slice ht h with ⟨rfl, _⟩ | ⟨a, len, cap, elems, rest, n, hf, rfl, rfl, hb, hl, hm, hlen, hel, _, _⟩
  · exact ⟨none, [], 0, rfl, by simp, by simp, fun k a hk => by simp at hk⟩
  have key : ∀ i, i < len → ∃ q : α × List Value, p q.2 q.1 ∧ w.cells? base (a.add (i * c)) c = some q.2 := fun i hi => by
    have h1 := hel i hi
    rw [List.getElem?_eq_getElem (by omega), hc] at h1
    obtain ⟨cs', h2, h3⟩ := Option.bind_eq_some_iff.1 h1
    obtain ⟨_, h4, _⟩ := World.cells?_some h2
    obtain ⟨y, hy⟩ := hp n cs' _ (by omega) h3 h4
    exact ⟨(y, cs'), hy, h2⟩
  obtain ⟨f, hf'⟩ := choose_lt key
  have hlen' : ((List.range len).map fun i => (f i).1).length = len := by simp
  refine ⟨some a, (List.range len).map fun i => (f i).1, cap, by rw [hlen'], by rw [hlen']; exact hl, by rw [hlen']; unfold maxLen at hm; omega, fun k y hk => ?_⟩
  have hkl : k < len := by have := (List.getElem?_eq_some_iff.1 hk).1; simpa using this
  obtain rfl : (f k).1 = y := by simpa [hkl] using hk
  obtain ⟨h1, h2⟩ := hf' k hkl
  obtain ⟨_, h4, hat⟩ := World.cells?_some h2
  have hsp0 : a.spot = none := by
    obtain ⟨_, h5, hat0⟩ := World.cells?_some (hf' 0 (by omega)).2
    have hz := hat0 0 hc0
    rw [List.getElem?_eq_getElem (by omega)] at hz
    rw [Nat.zero_mul] at hz
    have e1 : (a.add 0).add 0 = a := by simp [Addr.add]
    rw [e1] at hz
    exact spot_none hz
  obtain ⟨b, o, sp⟩ := a
  have hsp : sp = none := hsp0
  subst hsp
  refine ⟨b, o, (f k).2, rfl, h1, fun j hj => ?_⟩
  have := hat j hj
  rw [add_pos, add_pos] at this
  exact this

set_option maxRecDepth 100000 in
theorem trod_instr {fuel : Nat} {cs : List Value} {x : DataW H × List MemPlace} (h : DataW.trod enc Tryd.prog w base spare held fuel 43 cs = some x) :
    ∃ (op : Nat) (A B C D : Int), op < 256 ∧ cs = [.int .u8 op, .int .i64 A, .int .i64 B, .int .i64 C, .int .i64 D] ∧
      (-9223372036854775808 ≤ A ∧ A ≤ 9223372036854775807) ∧ (-9223372036854775808 ≤ B ∧ B ≤ 9223372036854775807) ∧ (-9223372036854775808 ≤ C ∧ C ≤ 9223372036854775807) ∧ (-9223372036854775808 ≤ D ∧ D ≤ 9223372036854775807) := by
  obtain ⟨xs, n, _, hx, hlen, hxl, hg⟩ := DataW.trod_struct Tryd.underlying43 h
  have c5 : Tryd.prog.cellsOf 43 = 5 := by kernel_rfl
  have c3 : Tryd.prog.cellsOf 3 = 1 := by kernel_rfl
  have c8 : Tryd.prog.cellsOf 5 = 1 := by kernel_rfl
  obtain ⟨a, b, c, d, e, rfl⟩ := list_five (hlen.trans c5)
  have hget : ∀ i, i < 5 → ∃ y, xs[i]? = some y := fun i hi => ⟨xs[i]'(by rw [hxl]; exact hi), List.getElem?_eq_getElem _⟩
  obtain ⟨y0, e0⟩ := hget 0 (by omega)
  obtain ⟨y1, e1⟩ := hget 1 (by omega)
  obtain ⟨y2, e2⟩ := hget 2 (by omega)
  obtain ⟨y3, e3⟩ := hget 3 (by omega)
  obtain ⟨y4, e4⟩ := hget 4 (by omega)
  have g0 : DataW.trod enc Tryd.prog w base spare held n 5 (List.take (Tryd.prog.cellsOf 5) (List.drop 0 [a, b, c, d, e])) = some y0 := (hg 0 _ rfl).trans e0
  have g1 : DataW.trod enc Tryd.prog w base spare held n 3 (List.take (Tryd.prog.cellsOf 3) (List.drop 1 [a, b, c, d, e])) = some y1 := (hg 1 _ rfl).trans e1
  have g2 : DataW.trod enc Tryd.prog w base spare held n 3 (List.take (Tryd.prog.cellsOf 3) (List.drop 2 [a, b, c, d, e])) = some y2 := (hg 2 _ rfl).trans e2
  have g3 : DataW.trod enc Tryd.prog w base spare held n 3 (List.take (Tryd.prog.cellsOf 3) (List.drop 3 [a, b, c, d, e])) = some y3 := (hg 3 _ rfl).trans e3
  have g4 : DataW.trod enc Tryd.prog w base spare held n 3 (List.take (Tryd.prog.cellsOf 3) (List.drop 4 [a, b, c, d, e])) = some y4 := (hg 4 _ rfl).trans e4
  simp only [c3, c8] at g0 g1 g2 g3 g4
  obtain ⟨n0, q0, _, w0⟩ := DataW.trod_int Tryd.underlying5 g0
  obtain ⟨n1, q1, _, w1⟩ := DataW.trod_int Tryd.underlying3 g1
  obtain ⟨n2, q2, _, w2⟩ := DataW.trod_int Tryd.underlying3 g2
  obtain ⟨n3, q3, _, w3⟩ := DataW.trod_int Tryd.underlying3 g3
  obtain ⟨n4, q4, _, w4⟩ := DataW.trod_int Tryd.underlying3 g4
  obtain ⟨op, hop, rfl⟩ := wf8_of w0
  simp only [List.drop_zero, List.drop_succ_cons, List.take_succ_cons, List.take_zero, List.cons.injEq, and_true] at q0 q1 q2 q3 q4
  exact ⟨op, n1, n2, n3, n4, hop, by rw [q0, q1, q2, q3, q4], wf_i64 w1, wf_i64 w2, wf_i64 w3, wf_i64 w4⟩

set_option maxRecDepth 100000 in
theorem open_instr {v : Value} {d : DataW H} {p : List MemPlace} (hv : Value.okWide Tryd.prog w r b0 43 v) (h : DataW.Trod enc Tryd.prog w base spare held 43 v d p) :
    ∃ (op : Nat) (A B C D : Int), op < 256 ∧ v = .agg #[.int .u8 op, .int .i64 A, .int .i64 B, .int .i64 C, .int .i64 D] := by
  obtain ⟨cs, rfl, _⟩ := okWide_struct Tryd.underlying43 hv
  obtain ⟨fuel, hf⟩ := h
  obtain ⟨op, A, B, C, D, hop, hc, _⟩ := trod_instr hf
  refine ⟨op, A, B, C, D, hop, ?_⟩
  congr 1
  exact Array.toList_inj.1 hc

set_option maxRecDepth 100000 in
/-- A slice of instructions that can be read is code. -/
theorem open_code {v : Value} {d : DataW H} {p : List MemPlace} (hv : Value.okWide Tryd.prog w r b0 22 v) (h : DataW.Trod enc Tryd.prog w base spare held 22 v d p) :
    ∃ (A : Option Addr) (l : List Ins) (cap : Nat), v = .slice A l.length cap ∧ CodeAt w A l ∧ l.length ≤ 9223372036854775807 ∧ Bytes l ∧ ∀ x ∈ l, FitI x := by
  obtain ⟨a, len, cap0, rfl⟩ := okWide_slice Tryd.underlying22 hv
  obtain ⟨fuel, hf⟩ := h
  have c5 : Tryd.prog.cellsOf 43 = 5 := by kernel_rfl
  obtain ⟨A, l, cap, e, -, hl, hk⟩ := trod_list (α := Ins) Tryd.underlying22 c5 (by omega) (p := fun cs y => cs = y.five ∧ y.op < 256 ∧ FitI y) hf (fun m cs' y hm ht _ => by
    obtain ⟨op, a, b, c, d, hop, hc, h1, h2, h3, h4⟩ := trod_instr ht
    exact ⟨⟨op, a, b, c, d⟩, hc, hop, h1, h2, h3, h4⟩)
  simp [Value.cells] at e
  refine ⟨A, l, cap, by rw [e.1, e.2.1, e.2.2], fun k x hx => ?_, hl, fun k x hx => ?_, fun x hx => ?_⟩
  · obtain ⟨b, o, cs', rfl, ⟨rfl, _⟩, hc⟩ := hk k x hx
    exact ⟨b, o, rfl, hc 0 (by omega), hc 1 (by omega), hc 2 (by omega), hc 3 (by omega), hc 4 (by omega)⟩
  · obtain ⟨_, _, _, _, ⟨_, h, _⟩, _⟩ := hk k x hx
    exact h
  · obtain ⟨k, hkx⟩ := List.getElem?_of_mem hx
    obtain ⟨_, _, _, _, ⟨_, _, h⟩, _⟩ := hk k x hkx
    exact h
set_option maxRecDepth 100000 in
/-- An instruction by value. -/
theorem open_ins {v : Value} {d : DataW H} {p : List MemPlace} (hv : Value.okWide Tryd.prog w r b0 43 v) (h : DataW.Trod enc Tryd.prog w base spare held 43 v d p) :
    ∃ x : Ins, x.op < 256 ∧ v = .agg #[.int .u8 x.op, .int .i64 x.a, .int .i64 x.b, .int .i64 x.c, .int .i64 x.d] ∧ FitI x := by
  obtain ⟨cs, rfl, _⟩ := okWide_struct Tryd.underlying43 hv
  obtain ⟨fuel, hf⟩ := h
  obtain ⟨op, A, B, C, D, hop, hc, h1, h2, h3, h4⟩ := trod_instr hf
  refine ⟨⟨op, A, B, C, D⟩, hop, ?_, h1, h2, h3, h4⟩
  congr 1
  exact Array.toList_inj.1 hc
set_option maxRecDepth 100000 in
/-- A slice of bytes that can be read. -/
theorem open_bytes {v : Value} {d : DataW H} {p : List MemPlace} (hv : Value.okWide Tryd.prog w r b0 29 v) (h : DataW.Trod enc Tryd.prog w base spare held 29 v d p) :
    ∃ (A : Option Addr) (l : List UInt8) (cap : Nat), v = .slice A l.length cap ∧ BysAt w A l ∧ l.length ≤ cap ∧ l.length ≤ 9223372036854775807 := by
  obtain ⟨a, len, cap0, rfl⟩ := okWide_slice Tryd.underlying29 hv
  obtain ⟨fuel, hf⟩ := h
  have c1 : Tryd.prog.cellsOf 5 = 1 := by kernel_rfl
  obtain ⟨A, l, cap, e, hcap, hl, hk⟩ := trod_list (α := UInt8) Tryd.underlying29 c1 (by omega) (p := fun cs y => cs = [.int .u8 y.toNat]) hf (fun m cs' y hm ht _ => by
    obtain ⟨n, q, _, wf⟩ := DataW.trod_int Tryd.underlying5 ht
    obtain ⟨k, hk, rfl⟩ := wf8_of wf
    exact ⟨UInt8.ofNat k, by rw [q, UInt8.toNat_ofNat_of_lt' hk]⟩)
  simp [Value.cells] at e
  refine ⟨A, l, cap, by rw [e.1, e.2.1, e.2.2], fun k x hx => ?_, hcap, hl⟩
  obtain ⟨b, o, cs', rfl, rfl, hc⟩ := hk k x hx
  have e0 := hc 0 (by omega)
  simp at e0
  exact ⟨b, o, rfl, e0⟩
end

/-- The table, as a row lists it. -/
theorem tab_of_laid {W : World} (h : laidMetH Tryd.prog [("backstep/isa.table", Rows.laid_backstep_isa_table)] W) : Tab W := by
  obtain ⟨ps, ⟨g', t', cs, fuel, p, q, hg', ht', hvar, hd, _, _⟩, _⟩ := (h : laidMet Tryd.prog [("backstep/isa.table", Rows.laid_backstep_isa_table)] W)
  obtain rfl := Option.some.inj ((show Tryd.prog.globalNamed "backstep/isa.table" = some 0 by kernel_rfl).symm.trans hg')
  obtain rfl := Option.some.inj ((show (Tryd.prog.globals[0]?).map (·.type) = some 86 by kernel_rfl).symm.trans ht')
  have hcell := World.var?_cell hg' hvar
  have cr : Tryd.prog.cellsOf 85 = 2 := by kernel_rfl
  have ca : Tryd.prog.cellsOf 86 = 70 := by kernel_rfl
  have c3 : Tryd.prog.cellsOf 3 = 1 := by kernel_rfl
  have cs1 : Tryd.prog.cellsOf 9 = 1 := by kernel_rfl
  cases fuel with
  | zero => simp [DataW.trod] at hd
  | succ fuel =>
    simp only [DataW.trod, Tryd.underlying86, ca, cr] at hd
    split at hd
    · rename_i hl
      obtain ⟨xs, hm, hx⟩ := Option.map_eq_some_iff.1 hd
      have hxs : xs.map (·.1) = (List.range 35).map fun i => (DataW.agg [.lit (.string (mnem i)), .lit (.int .i64 (opsN i))] : DataW Unit) := by
        have := congrArg Prod.fst hx
        have h2 : (Rows.laid_backstep_isa_table : DataW Unit) = .agg ((List.range 35).map fun i => DataW.agg [.lit (.string (mnem i)), .lit (.int .i64 (opsN i))]) := rfl
        rw [h2] at this
        simpa using this
      intro i hi
      obtain ⟨b, hb, hf⟩ := Lib.mapM_at hm i i (by simp [hi])
      have hb1 : b.1 = .agg [.lit (.string (mnem i)), .lit (.int .i64 (opsN i))] := by
        have h2 : (xs.map (·.1))[i]? = some b.1 := by simp [hb]
        rw [hxs] at h2
        simpa [hi] using h2.symm
      obtain ⟨ys, n, _, hy, hlen, hyl, hg⟩ := DataW.trod_struct Tryd.underlying85 hf
      have hget : ∀ i, i < 2 → ∃ y, ys[i]? = some y := fun i hi => ⟨ys[i]'(by rw [hyl]; exact hi), List.getElem?_eq_getElem _⟩
      obtain ⟨y0, e0⟩ := hget 0 (by omega)
      obtain ⟨y1, e1⟩ := hget 1 (by omega)
      have g0 : DataW.trod _ Tryd.prog W _ _ _ n 9 (List.take (Tryd.prog.cellsOf 9) (List.drop 0 _)) = some y0 := (hg 0 _ rfl).trans e0
      have g1 : DataW.trod _ Tryd.prog W _ _ _ n 3 (List.take (Tryd.prog.cellsOf 3) (List.drop 1 _)) = some y1 := (hg 1 _ rfl).trans e1
      simp only [c3, cs1] at g0 g1
      obtain ⟨s, q0, rfl, _⟩ := DataW.trod_string Tryd.underlying9 g0
      obtain ⟨z, q1, rfl, _⟩ := DataW.trod_int Tryd.underlying3 g1
      have hys : ys = [(.lit (.string s.data.toList), []), (.lit (.int .i64 z), [])] := by
        match ys, hyl, e0, e1 with
        | [u0, u1], _, e0, e1 => simp at e0 e1; rw [e0, e1]
      rw [hys] at hy
      rw [hy] at hb1
      simp only [List.map_cons, List.map_nil, DataW.agg.injEq, List.cons.injEq, DataW.lit.injEq, Lit.string.injEq, Lit.int.injEq, true_and, and_true] at hb1
      obtain ⟨hs, rfl⟩ := hb1
      have k0 : cs[i * 2]? = some (.string s) := by
        have := congrArg (·[0]?) q0
        simpa [List.getElem?_take, List.getElem?_drop] using this
      have k1 : cs[i * 2 + 1]? = some (.int .i64 (opsN i)) := by
        have := congrArg (·[0]?) q1
        simpa [List.getElem?_take, List.getElem?_drop] using this
      rw [hcell, hcell, k0, k1, ← hs]
      exact ⟨rfl, rfl⟩
    · cases hd

set_option maxRecDepth 100000 in
/-- The operators' symbols, as a row lists them. -/
theorem tabS_of_laid {W : World} (h : laidMetH Tryd.prog [("backstep/arith.symbols", Rows.laid_backstep_arith_symbols)] W) : TabS W := by
  obtain ⟨ps, ⟨g', t', cs, fuel, p, q, hg', ht', hvar, hd, _, _⟩, _⟩ := (h : laidMet Tryd.prog [("backstep/arith.symbols", Rows.laid_backstep_arith_symbols)] W)
  obtain rfl := Option.some.inj ((show Tryd.prog.globalNamed "backstep/arith.symbols" = some 1 by kernel_rfl).symm.trans hg')
  obtain rfl := Option.some.inj ((show (Tryd.prog.globals[1]?).map (·.type) = some 106 by kernel_rfl).symm.trans ht')
  have hcell := World.var?_cell hg' hvar
  have ca : Tryd.prog.cellsOf 106 = 43 := by kernel_rfl
  have cs1 : Tryd.prog.cellsOf 9 = 1 := by kernel_rfl
  cases fuel with
  | zero => simp [DataW.trod] at hd
  | succ fuel =>
    simp only [DataW.trod, Tryd.underlying106, ca, cs1] at hd
    split at hd
    · rename_i hl
      obtain ⟨xs, hm, hx⟩ := Option.map_eq_some_iff.1 hd
      intro i hi
      obtain ⟨b, hb, hf⟩ := Lib.mapM_at hm (i + 8) (i + 8) (List.getElem?_range (by omega))
      have hb1 : b.1 = .lit (.string (symL.getD i [])) := by
        have h2 : (xs.map (·.1))[i + 8]? = some b.1 := by simp [hb]
        have h3 : (DataW.agg (xs.map (·.1)) : DataW Unit) = Rows.laid_backstep_arith_symbols := by
          have := congrArg Prod.fst hx
          simpa using this
        have h4 : ∀ ys : List (DataW Unit), (DataW.agg ys : DataW Unit) = Rows.laid_backstep_arith_symbols → ys[i + 8]? = some (.lit (.string (symL.getD i []))) := by
          intro ys hy
          unfold Rows.laid_backstep_arith_symbols at hy
          rw [DataW.agg.injEq] at hy
          subst hy
          rcases (show i = 0 ∨ i = 1 ∨ i = 2 ∨ i = 3 ∨ i = 4 ∨ i = 5 ∨ i = 6 ∨ i = 7 ∨ i = 8 ∨ i = 9 ∨ i = 10 ∨ i = 11 ∨ i = 12 ∨ i = 13 ∨ i = 14 ∨ i = 15 by omega) with e | e | e | e | e | e | e | e | e | e | e | e | e | e | e | e <;> (subst e; rfl)
        rw [h4 _ h3] at h2
        exact (Option.some.inj h2).symm
      obtain ⟨s, q0, hs, _⟩ := DataW.trod_string Tryd.underlying9 hf
      rw [hs] at hb1
      have hs2 : s.data.toList = symL.getD i [] := by simpa using hb1
      have k0 : cs[i + 8]? = some (.string s) := by
        have := congrArg (·[0]?) q0
        simpa [List.getElem?_take, List.getElem?_drop] using this
      rw [hcell, k0, ← hs2, bs_data]
    · cases hd

/-- What the listed variables give the walks. -/
theorem wld_of_laid {W : World} (hH : laidMetH Tryd.prog Rows.asmTextRow.laid W) (hS : W.ShapedOpen Tryd.prog) : Wld W := by
  rw [MakeChecks.laidMetH_plain _ _ _ (by kernel_rfl)] at hH
  have e1 : (Rows.asmTextRow.laid.filter fun x => x.1 == "internal/strconv.uint64pow10") = [("internal/strconv.uint64pow10", Lib.tabData .u64 Lib.pow10Tab)] := by kernel_rfl
  have e2 : (Rows.asmTextRow.laid.filter fun x => x.1 == "strconv.ErrSyntax") = [("strconv.ErrSyntax", .iface "*errors.errorString" (.ptr (.agg [.lit (.string [105, 110, 118, 97, 108, 105, 100, 32, 115, 121, 110, 116, 97, 120])])))] := by kernel_rfl
  have e3 : (Rows.asmTextRow.laid.filter fun x => x.1 == "strconv.ErrRange") = [("strconv.ErrRange", .iface "*errors.errorString" (.ptr (.agg [.lit (.string [118, 97, 108, 117, 101, 32, 111, 117, 116, 32, 111, 102, 32, 114, 97, 110, 103, 101])])))] := by kernel_rfl
  have h1 := hH.filter fun x => x.1 == "internal/strconv.uint64pow10"
  have h2 := hH.filter fun x => x.1 == "strconv.ErrSyntax"
  have h3 := hH.filter fun x => x.1 == "strconv.ErrRange"
  rw [e1] at h1
  rw [e2] at h2
  rw [e3] at h3
  have gS : Tryd.prog.globalNamed "strconv.ErrSyntax" = some 4 := by kernel_rfl
  have gR : Tryd.prog.globalNamed "strconv.ErrRange" = some 5 := by kernel_rfl
  have star : "*" ++ "errors.errorString" = "*errors.errorString" := by decide
  have hrow : ∀ u, Tryd.prog.typeName? 3 u = some "*errors.errorString" → u = 152 := fun u h =>
    typeName_ptr_named (nm := "errors.errorString") (by rw [star]; kernel_rfl) (by kernel_rfl) (by decide) u (by rw [star]; exact h)
  obtain ⟨a2, s2, v2, -, -, -⟩ := laid_sentinel h2 gS (by kernel_rfl) Tryd.underlying65 hrow Tryd.underlying152 Tryd.underlying154 rfl rfl Tryd.underlying9 (by kernel_rfl) (by kernel_rfl)
  obtain ⟨a3, s3, v3, -, -, -⟩ := laid_sentinel h3 gR (by kernel_rfl) Tryd.underlying65 hrow Tryd.underlying152 Tryd.underlying154 rfl rfl Tryd.underlying9 (by kernel_rfl) (by kernel_rfl)
  refine ⟨?_, ?_, ?_, ?_⟩
  · exact Lib.tabIs_of_head (g := 3) (t := 138) (e := 96) (n := 20) (by kernel_rfl) (by kernel_rfl) Tryd.underlying138 Tryd.underlying96 (by kernel_rfl) (by kernel_rfl) h1
  · exact cell_of_shapedOpen_int (zero := #[.int .i64 0]) (t := 3) hS (of_decide_eq_true (by kernel_rfl)) (by kernel_rfl) rfl (by kernel_rfl) (by kernel_rfl) Tryd.underlying3
  · exact ⟨_, by have := World.var?_cell gS v2 0; simpa using this, .inr ⟨_, _, rfl⟩⟩
  · exact ⟨_, by have := World.var?_cell gR v3 0; simpa using this, .inr ⟨_, _, rfl⟩⟩
theorem tabs_of_laid {W : World} (hH : laidMetH Tryd.prog Rows.asmTextRow.laid W) : Tab W ∧ TabS W := by
  rw [MakeChecks.laidMetH_plain _ _ _ (by kernel_rfl)] at hH
  have e1 : (Rows.asmTextRow.laid.filter fun x => x.1 == "backstep/isa.table") = [("backstep/isa.table", Rows.laid_backstep_isa_table)] := by kernel_rfl
  have e2 : (Rows.asmTextRow.laid.filter fun x => x.1 == "backstep/arith.symbols") = [("backstep/arith.symbols", Rows.laid_backstep_arith_symbols)] := by kernel_rfl
  have h1 := hH.filter fun x => x.1 == "backstep/isa.table"
  have h2 := hH.filter fun x => x.1 == "backstep/arith.symbols"
  rw [e1] at h1
  rw [e2] at h2
  exact ⟨tab_of_laid h1, tabS_of_laid h2⟩

end Go.Proofs.YtodiijoeeeeicaaDoor
