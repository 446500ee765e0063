/-
  An image that came in, opened.
-/
import Derived.Test.YthakiaicnhkfjaaDoorIsaOpen
import Derived.Test.YthakiaicnhkfjaaDoorImgAwake
import Derived.Deep.Slices
namespace Go.Proofs.YthakiaicnhkfjaaDoor
open Go.ChangeShapes Go.WideShapes Go.ChangeAt Go.RowKit Go.Deep

section
variable {H : Type} {enc : TypeId × Value → H} {w : World} {base : Nat} {spare : Nat → Bool} {held : Bool} {r : Reach} {b0 : Nat}

theorem spot_none {w : World} {a : Addr} {v : Value} (h : w.cell? a = some v) : a.spot = none := by
  unfold World.cell? at h
  split at h
  · split at h
    · cases h
    · rename_i hs; simpa using hs
  · cases h
theorem add_pos (b o n : Nat) : (⟨b, o, none⟩ : Addr).add n = ⟨b, o + n, none⟩ := by
  unfold Addr.add; by_cases h : n = 0 <;> simp [h]

/-- A slice of instructions that can be read is code. -/
theorem trod_code {fuel : Nat} {cs : List Value} {x : DataW H × List MemPlace} (h : DataW.trod enc Tryd.prog w base spare held fuel 22 cs = some x) :
    ∃ (A : Option Addr) (l : List Ins) (cap : Nat), cs = [.slice A l.length cap] ∧ CodeAt w A l ∧ Bytes l ∧ l.length ≤ maxLen := by
  have c5 : Tryd.prog.cellsOf 38 = 5 := by kernel_rfl
  rcases open_slice Tryd.underlying22 h with ⟨rfl, _⟩ | ⟨a, len, cap, m, n, D, Pl, rfl, hb, hl, hm, hmm, hx, hi⟩
  · exact ⟨none, [], 0, rfl, fun k x hk => by simp at hk, fun k x hk => by simp at hk, by simp [maxLen]⟩
  · have hml : len ≤ m := by rw [hmm]; split <;> omega
    have hel : ∀ i, i < len → ∃ y : Ins, y.op < 256 ∧ w.cells? base (a.add (i * 5)) 5 = some y.five := fun i hil => by
      obtain ⟨cs', hc, ht⟩ := hi i (by omega)
      rw [c5] at hc
      obtain ⟨op, A, B, C, D, hop, e, _⟩ := trod_instr ht
      exact ⟨⟨op, A, B, C, D⟩, hop, by rw [hc, e]; rfl⟩
    have hel' : ∀ i, ∃ y : Ins, i < len → (y.op < 256 ∧ w.cells? base (a.add (i * 5)) 5 = some y.five) := fun i => by
      by_cases hil : i < len
      · obtain ⟨y, hy⟩ := hel i hil; exact ⟨y, fun _ => hy⟩
      · exact ⟨nopI, fun h => absurd h hil⟩
    obtain ⟨f, hf⟩ := Classical.axiomOfChoice hel'
    have hlen : ((List.range len).map f).length = len := by simp
    have hget : ∀ (k : Nat) (y : Ins), ((List.range len).map f)[k]? = some y → k < len ∧ y = f k := fun k y hk => by
      have hkl : k < len := by have := (List.getElem?_eq_some_iff.1 hk).1; simpa using this
      refine ⟨hkl, ?_⟩
      simp [hkl] at hk; exact hk.symm
    refine ⟨some a, (List.range len).map f, cap, by rw [hlen], fun k y hk => ?_, fun k y hk => ?_, by rw [hlen]; omega⟩
    · obtain ⟨hkl, rfl⟩ := hget k y hk
      have h0 := (hf 0 (by omega)).2
      obtain ⟨_, _, hat0⟩ := World.cells?_some h0
      have hz : w.cell? a = some (.int .u8 (f 0).op) := by
        have := hat0 0 (by omega)
        simpa [Addr.add, Ins.five] using this
      have hs := spot_none hz
      obtain ⟨b, o, sp⟩ := a
      simp only at hs
      subst hs
      obtain ⟨_, _, hat⟩ := World.cells?_some (hf k hkl).2
      refine ⟨b, o, rfl, ?_⟩
      have hc : ∀ j, j < 5 → w.cell? ⟨b, o + k * 5 + j, none⟩ = (f k).five[j]? := fun j hj => by
        have := hat j hj
        rw [add_pos, add_pos] at this
        exact this
      exact ⟨hc 0 (by omega), hc 1 (by omega), hc 2 (by omega), hc 3 (by omega), hc 4 (by omega)⟩
    · obtain ⟨hkl, rfl⟩ := hget k y hk
      exact (hf k hkl).1

theorem list_three {l : List Value} (h : l.length = 3) : ∃ a b c, l = [a, b, c] := by
  match l, h with
  | [a, b, c], _ => exact ⟨a, b, c, rfl⟩

theorem open_image {v : Value} {d : DataW H} {p : List MemPlace} (hv : Value.okWide Tryd.prog w r b0 24 v) (h : DataW.Trod enc Tryd.prog w base spare held 24 v d p) :
    ∃ (A : Option Addr) (l : List Ins) (cap : Nat) (M S : Int), v = .agg #[.slice A l.length cap, .int .i64 M, .int .i64 S] ∧ CodeAt w A l ∧ Bytes l ∧ l.length ≤ 9223372036854775807 := by
  obtain ⟨cs, rfl, _⟩ := okWide_struct Tryd.underlying24 hv
  obtain ⟨fuel, hf⟩ := h
  obtain ⟨xs, n, _, hx, hlen, hxl, hg⟩ := DataW.trod_struct Tryd.underlying24 hf
  have c3 : Tryd.prog.cellsOf 24 = 3 := by kernel_rfl
  have ci : Tryd.prog.cellsOf 3 = 1 := by kernel_rfl
  have cc : Tryd.prog.cellsOf 22 = 1 := by kernel_rfl
  obtain ⟨a, b, c, hl3⟩ := list_three (hlen.trans c3)
  have hcs : cs.toList = [a, b, c] := hl3
  have hget : ∀ i, i < 3 → ∃ y, xs[i]? = some y := fun i hi => ⟨xs[i]'(by rw [hxl]; exact hi), List.getElem?_eq_getElem _⟩
  obtain ⟨y0, e0⟩ := hget 0 (by omega)
  obtain ⟨y1, e1⟩ := hget 1 (by omega)
  obtain ⟨y2, e2⟩ := hget 2 (by omega)
  rw [hl3] at hg
  have g0 : DataW.trod enc Tryd.prog w base spare held n 22 (List.take (Tryd.prog.cellsOf 22) (List.drop 0 [a, b, c])) = some y0 := (hg 0 _ rfl).trans e0
  have g1 : DataW.trod enc Tryd.prog w base spare held n 3 (List.take (Tryd.prog.cellsOf 3) (List.drop 1 [a, b, c])) = some y1 := (hg 1 _ rfl).trans e1
  have g2 : DataW.trod enc Tryd.prog w base spare held n 3 (List.take (Tryd.prog.cellsOf 3) (List.drop 2 [a, b, c])) = some y2 := (hg 2 _ rfl).trans e2
  rw [cc] at g0
  rw [ci] at g1 g2
  obtain ⟨A, l, cap, q0, hC, hY, hm⟩ := trod_code g0
  obtain ⟨M, q1, _, _⟩ := DataW.trod_int Tryd.underlying3 g1
  obtain ⟨S, q2, _, _⟩ := DataW.trod_int Tryd.underlying3 g2
  simp only [List.drop_zero, List.drop_succ_cons, List.take_succ_cons, List.take_zero, List.cons.injEq, and_true] at q0 q1 q2
  refine ⟨A, l, cap, M, S, ?_, hC, hY, by unfold maxLen at hm; exact hm⟩
  congr 1
  apply Array.toList_inj.1
  rw [hcs, q0, q1, q2]
end

end Go.Proofs.YthakiaicnhkfjaaDoor
