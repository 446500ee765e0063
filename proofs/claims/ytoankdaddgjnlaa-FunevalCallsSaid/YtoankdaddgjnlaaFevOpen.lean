/-
  A slice of values, opened.
-/
import Derived.Test.YtoankdaddgjnlaaFunOpen
import Derived.Test.YtoankdaddgjnlaaFevMem
namespace Go.Proofs.Ytoankdaddgjnlaa
open Go.ChangeShapes Go.WideShapes Go.ChangeAt Go.RowKit Go.Deep

section
variable {H : Type} {enc : TypeId × Value → H} {w : World} {base : Nat} {spare : Nat → Bool} {held : Bool} {r : Reach} {b0 : Nat}

theorem trod_cap {fuel : Nat} {A : Option Addr} {n c : Nat} {x : DataW H × List MemPlace} (h : DataW.trod enc Try.prog w base spare held fuel 26 [.slice A n c] = some x) : n ≤ c := by
  rcases DataW.trod_slice Try.underlying26 h with ⟨e, _⟩ | ⟨a, len, cap, elems, rest, m, _, e, _, _, hl, _⟩
  · simp at e; omega
  · simp at e; omega
instance : Inhabited Vl := ⟨⟨false, 0, []⟩⟩
def VlCells (w : World) (cs : List Value) (y : Vl) : Prop := ∃ A c, cs = [.bool y.list, .int .i64 y.n, .slice A y.l.length c] ∧ IntsC w (fun _ => False) A c y.l ∧ y.l.length ≤ 9223372036854775807
theorem trod_value {fuel : Nat} {cs : List Value} {x : DataW H × List MemPlace} (hf : DataW.trod enc Try.prog w base spare held fuel 28 cs = some x) : ∃ y, VlCells w cs y := by
  obtain ⟨xs, n, hn, hx, hlen, hxl, hg⟩ := DataW.trod_struct Try.underlying28 hf
  have c3 : Try.prog.cellsOf 28 = 3 := by kernel_rfl
  have cB : Try.prog.cellsOf 4 = 1 := by kernel_rfl
  have cI : Try.prog.cellsOf 3 = 1 := by kernel_rfl
  have cL : Try.prog.cellsOf 26 = 1 := by kernel_rfl
  obtain ⟨a, b, c, rfl⟩ := list_three (hlen.trans c3)
  have hget : ∀ i, i < 3 → ∃ y, xs[i]? = some y := fun i hi => ⟨xs[i]'(by rw [hxl]; exact hi), List.getElem?_eq_getElem _⟩
  obtain ⟨y0, e0⟩ := hget 0 (by omega)
  obtain ⟨y1, e1⟩ := hget 1 (by omega)
  obtain ⟨y2, e2⟩ := hget 2 (by omega)
  have g0 : DataW.trod enc Try.prog w base spare held n 4 (List.take (Try.prog.cellsOf 4) (List.drop 0 [a, b, c])) = some y0 := (hg 0 _ rfl).trans e0
  have g1 : DataW.trod enc Try.prog w base spare held n 3 (List.take (Try.prog.cellsOf 3) (List.drop 1 [a, b, c])) = some y1 := (hg 1 _ rfl).trans e1
  have g2 : DataW.trod enc Try.prog w base spare held n 26 (List.take (Try.prog.cellsOf 26) (List.drop 2 [a, b, c])) = some y2 := (hg 2 _ rfl).trans e2
  simp only [cB, cI, cL] at g0 g1 g2
  obtain ⟨b0, q0, _⟩ := DataW.trod_bool Try.underlying4 g0
  obtain ⟨n1, q1, _, _⟩ := DataW.trod_int Try.underlying3 g1
  obtain ⟨A, l, cap, q2, hI, hl⟩ := trod_ints g2
  rw [q2] at g2
  have hcap := trod_cap g2
  simp only [List.drop_zero, List.drop_succ_cons, List.take_succ_cons, List.take_zero, List.cons.injEq, and_true] at q0 q1 q2
  exact ⟨⟨b0, n1, l⟩, A, cap, by rw [q0, q1, q2], ⟨hcap, fun k x hk => by
    obtain ⟨b, o, e, h1⟩ := hI k x hk
    exact ⟨b, o, e, id, h1⟩⟩, hl⟩

set_option maxRecDepth 100000 in
theorem open_vals {v : Value} {d : DataW H} {p : List MemPlace} (hv : Value.okWide Try.prog w r b0 23 v) (h : DataW.Trod enc Try.prog w base spare held 23 v d p) : ∃ A l cap, v = .slice A l.length cap ∧ VlsX w (fun _ => False) A l ∧ (∀ u ∈ l, u.l.length ≤ 9223372036854775807) ∧ l.length ≤ 9223372036854775807 := by
  obtain ⟨a, len, cap0, rfl⟩ := okWide_slice Try.underlying23 hv
  obtain ⟨fuel, hf⟩ := h
  have c3 : Try.prog.cellsOf 28 = 3 := by kernel_rfl
  obtain ⟨A, l, cap, e, hl, hk⟩ := trod_list (α := Vl) Try.underlying23 c3 (by omega) (p := VlCells w) hf (fun m cs' y hm ht _ => trod_value ht)
  simp [Value.cells] at e
  refine ⟨A, l, cap, by rw [e.1, e.2.1, e.2.2], fun k u hu => ?_, fun u hu => ?_, hl⟩
  · obtain ⟨b, o, cs', rfl, ⟨A', c', rfl, hi, _⟩, hc⟩ := hk k u hu
    have e0 := hc 0 (by omega)
    have e1 := hc 1 (by omega)
    have e2 := hc 2 (by omega)
    simp at e0 e1 e2
    exact ⟨b, o, A', c', rfl, id, e0, e1, e2, hi⟩
  · obtain ⟨k, hku⟩ := List.getElem?_of_mem hu
    obtain ⟨_, _, _, _, ⟨_, _, _, _, h⟩, _⟩ := hk k u hku
    exact h
end

end Go.Proofs.Ytoankdaddgjnlaa
