/-
  Arguments of layer 21 opened: an instruction by value, a byte, an integer; the table out of the row's list; a world for the witness.
-/
import Derived.Test.YthakiaicnhkfjaaDoorFrame
import Derived.Test.YthakiaicnhkfjaaDoorCards
import Derived.Test.YthakiaicnhkfjaaDoorTie
import Derived.Lib.LaidTab
import Derived.Test.YthakiaicnhkfjaaDoorIsaWalks
namespace Go.Proofs.YthakiaicnhkfjaaDoor
open Go.ChangeShapes Go.WideShapes Go.ChangeAt Go.RowKit

theorem wf_u8 {n : Int} (h : (Lit.int .u8 n).wf = true) : ∃ k : Nat, k < 256 ∧ n = k := by
  simp only [Lit.wf, IntKind.min, IntKind.max, IntKind.signed, IntKind.bits, Bool.and_eq_true] at h
  exact ⟨n.toNat, by have := h.1; have := h.2; simp at *; omega, by have := h.1; simp at *; omega⟩
theorem wf_i64 {n : Int} (h : (Lit.int .i64 n).wf = true) : -9223372036854775808 ≤ n ∧ n ≤ 9223372036854775807 := by
  simp only [Lit.wf, IntKind.min, IntKind.max, IntKind.signed, IntKind.bits, Bool.and_eq_true, decide_eq_true_eq] at h
  simp at h; omega

section
variable {H : Type} {enc : TypeId × Value → H} {w : World} {base : Nat} {spare : Nat → Bool} {held : Bool} {r : Reach} {b0 : Nat}
theorem list_five {l : List Value} (h : l.length = 5) : ∃ a b c d e, l = [a, b, c, d, e] := by
  match l, h with
  | [a, b, c, d, e], _ => exact ⟨a, b, c, d, e, rfl⟩

theorem trod_instr {fuel : Nat} {cs : List Value} {x : DataW H × List MemPlace} (h : DataW.trod enc Tryd.prog w base spare held fuel 38 cs = some x) :
    ∃ (op : Nat) (A B C D : Int), op < 256 ∧ cs = [.int .u8 op, .int .i64 A, .int .i64 B, .int .i64 C, .int .i64 D] ∧
      (-9223372036854775808 ≤ A ∧ A ≤ 9223372036854775807) ∧ (-9223372036854775808 ≤ B ∧ B ≤ 9223372036854775807) ∧ (-9223372036854775808 ≤ C ∧ C ≤ 9223372036854775807) ∧ (-9223372036854775808 ≤ D ∧ D ≤ 9223372036854775807) := by
  obtain ⟨xs, n, _, hx, hlen, hxl, hg⟩ := DataW.trod_struct Tryd.underlying38 h
  have c5 : Tryd.prog.cellsOf 38 = 5 := by kernel_rfl
  have c3 : Tryd.prog.cellsOf 3 = 1 := by kernel_rfl
  have c8 : Tryd.prog.cellsOf 5 = 1 := by kernel_rfl
  obtain ⟨a, b, c, d, e, rfl⟩ := list_five (hlen.trans c5)
  have hget : ∀ i, i < 5 → ∃ y, xs[i]? = some y := fun i hi => ⟨xs[i]'(by rw [hxl]; exact hi), List.getElem?_eq_getElem _⟩
  obtain ⟨y0, e0⟩ := hget 0 (by omega)
  obtain ⟨y1, e1⟩ := hget 1 (by omega)
  obtain ⟨y2, e2⟩ := hget 2 (by omega)
  obtain ⟨y3, e3⟩ := hget 3 (by omega)
  obtain ⟨y4, e4⟩ := hget 4 (by omega)
  have g0 : DataW.trod enc Tryd.prog w base spare held n 5 (List.take (Tryd.prog.cellsOf 5) (List.drop 0 [a, b, c, d, e])) = some y0 := (hg 0 _ rfl).trans e0
  have g1 : DataW.trod enc Tryd.prog w base spare held n 3 (List.take (Tryd.prog.cellsOf 3) (List.drop 1 [a, b, c, d, e])) = some y1 := (hg 1 _ rfl).trans e1
  have g2 : DataW.trod enc Tryd.prog w base spare held n 3 (List.take (Tryd.prog.cellsOf 3) (List.drop 2 [a, b, c, d, e])) = some y2 := (hg 2 _ rfl).trans e2
  have g3 : DataW.trod enc Tryd.prog w base spare held n 3 (List.take (Tryd.prog.cellsOf 3) (List.drop 3 [a, b, c, d, e])) = some y3 := (hg 3 _ rfl).trans e3
  have g4 : DataW.trod enc Tryd.prog w base spare held n 3 (List.take (Tryd.prog.cellsOf 3) (List.drop 4 [a, b, c, d, e])) = some y4 := (hg 4 _ rfl).trans e4
  simp only [c3, c8] at g0 g1 g2 g3 g4
  obtain ⟨n0, q0, _, w0⟩ := DataW.trod_int Tryd.underlying5 g0
  obtain ⟨n1, q1, _, w1⟩ := DataW.trod_int Tryd.underlying3 g1
  obtain ⟨n2, q2, _, w2⟩ := DataW.trod_int Tryd.underlying3 g2
  obtain ⟨n3, q3, _, w3⟩ := DataW.trod_int Tryd.underlying3 g3
  obtain ⟨n4, q4, _, w4⟩ := DataW.trod_int Tryd.underlying3 g4
  obtain ⟨op, hop, rfl⟩ := wf_u8 w0
  simp only [List.drop_zero, List.drop_succ_cons, List.take_succ_cons, List.take_zero, List.cons.injEq, and_true] at q0 q1 q2 q3 q4
  exact ⟨op, n1, n2, n3, n4, hop, by rw [q0, q1, q2, q3, q4], wf_i64 w1, wf_i64 w2, wf_i64 w3, wf_i64 w4⟩

theorem open_instr {v : Value} {d : DataW H} {p : List MemPlace} (hv : Value.okWide Tryd.prog w r b0 38 v) (h : DataW.Trod enc Tryd.prog w base spare held 38 v d p) :
    ∃ (op : Nat) (A B C D : Int), op < 256 ∧ v = .agg #[.int .u8 op, .int .i64 A, .int .i64 B, .int .i64 C, .int .i64 D] := by
  obtain ⟨cs, rfl, _⟩ := okWide_struct Tryd.underlying38 hv
  obtain ⟨fuel, hf⟩ := h
  obtain ⟨op, A, B, C, D, hop, hc, _⟩ := trod_instr hf
  refine ⟨op, A, B, C, D, hop, ?_⟩
  congr 1
  exact Array.toList_inj.1 hc
end

/-- The table, as a row lists it. -/
theorem tab_of_laid {W : World} (h : laidMetH Tryd.prog [("backstep/isa.table", Rows.laid_backstep_isa_table)] W) : Tab W := by
  obtain ⟨ps, ⟨g', t', cs, fuel, p, q, hg', ht', hvar, hd, _, _⟩, _⟩ := (h : laidMet Tryd.prog [("backstep/isa.table", Rows.laid_backstep_isa_table)] W)
  obtain rfl := Option.some.inj ((show Tryd.prog.globalNamed "backstep/isa.table" = some 0 by kernel_rfl).symm.trans hg')
  obtain rfl := Option.some.inj ((show (Tryd.prog.globals[0]?).map (·.type) = some 64 by kernel_rfl).symm.trans ht')
  have hcell := World.var?_cell hg' hvar
  have cr : Tryd.prog.cellsOf 63 = 2 := by kernel_rfl
  have ca : Tryd.prog.cellsOf 64 = 70 := by kernel_rfl
  have c3 : Tryd.prog.cellsOf 3 = 1 := by kernel_rfl
  have cs1 : Tryd.prog.cellsOf 9 = 1 := by kernel_rfl
  cases fuel with
  | zero => simp [DataW.trod] at hd
  | succ fuel =>
    simp only [DataW.trod, Tryd.underlying64, ca, cr] at hd
    split at hd
    · rename_i hl
      obtain ⟨xs, hm, hx⟩ := Option.map_eq_some_iff.1 hd
      have hxs : xs.map (·.1) = (List.range 35).map fun i => (DataW.agg [.lit (.string (mnem i)), .lit (.int .i64 (opsN i))] : DataW Unit) := by
        have := congrArg Prod.fst hx
        have h2 : (Rows.laid_backstep_isa_table : DataW Unit) = .agg ((List.range 35).map fun i => DataW.agg [.lit (.string (mnem i)), .lit (.int .i64 (opsN i))]) := rfl
        rw [h2] at this
        simpa using this
      intro i hi
      obtain ⟨b, hb, hf⟩ := Lib.mapM_at hm i i (by simp [hi])
      have hb1 : b.1 = .agg [.lit (.string (mnem i)), .lit (.int .i64 (opsN i))] := by
        have h2 : (xs.map (·.1))[i]? = some b.1 := by simp [hb]
        rw [hxs] at h2
        simpa [hi] using h2.symm
      obtain ⟨ys, n, _, hy, hlen, hyl, hg⟩ := DataW.trod_struct Tryd.underlying63 hf
      have hget : ∀ i, i < 2 → ∃ y, ys[i]? = some y := fun i hi => ⟨ys[i]'(by rw [hyl]; exact hi), List.getElem?_eq_getElem _⟩
      obtain ⟨y0, e0⟩ := hget 0 (by omega)
      obtain ⟨y1, e1⟩ := hget 1 (by omega)
      have g0 : DataW.trod _ Tryd.prog W _ _ _ n 9 (List.take (Tryd.prog.cellsOf 9) (List.drop 0 _)) = some y0 := (hg 0 _ rfl).trans e0
      have g1 : DataW.trod _ Tryd.prog W _ _ _ n 3 (List.take (Tryd.prog.cellsOf 3) (List.drop 1 _)) = some y1 := (hg 1 _ rfl).trans e1
      simp only [c3, cs1] at g0 g1
      obtain ⟨s, q0, rfl, _⟩ := DataW.trod_string Tryd.underlying9 g0
      obtain ⟨z, q1, rfl, _⟩ := DataW.trod_int Tryd.underlying3 g1
      have hys : ys = [(.lit (.string s.data.toList), []), (.lit (.int .i64 z), [])] := by
        match ys, hyl, e0, e1 with
        | [u0, u1], _, e0, e1 => simp at e0 e1; rw [e0, e1]
      rw [hys] at hy
      rw [hy] at hb1
      simp only [List.map_cons, List.map_nil, DataW.agg.injEq, List.cons.injEq, DataW.lit.injEq, Lit.string.injEq, Lit.int.injEq, true_and, and_true] at hb1
      obtain ⟨hs, rfl⟩ := hb1
      have k0 : cs[i * 2]? = some (.string s) := by
        have := congrArg (·[0]?) q0
        simpa [List.getElem?_take, List.getElem?_drop] using this
      have k1 : cs[i * 2 + 1]? = some (.int .i64 (opsN i)) := by
        have := congrArg (·[0]?) q1
        simpa [List.getElem?_take, List.getElem?_drop] using this
      rw [hcell, hcell, k0, k1, ← hs]
      exact ⟨rfl, rfl⟩
    · cases hd

end Go.Proofs.YthakiaicnhkfjaaDoor
