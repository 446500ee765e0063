/-
  The library's words for what Cut, IndexByte and Split answer, and ours.
-/
import Derived.Test.YtklljdjeobifiaaDoorScrP2
import Derived.Test.YtklljdjeobifiaaDoorScrName2
import Derived.Lib.IndexBytes
import Derived.Lib.CountLaws
import Derived.Lib.SplitLaws
namespace Go.Proofs.YtklljdjeobifiaaDoor
open Go.Lib

theorem idx_none : ∀ {l : List UInt8} {c : UInt8}, (∀ b ∈ l, b ≠ c) → indexByte l c = -1
  | [], _, _ => rfl
  | b :: l, c, h => by
    have h1 : (b == c) = false := by simpa using h b (by simp)
    have ih := idx_none (l := l) (c := c) fun x hx => h x (by simp [hx])
    unfold indexByte
    rw [h1, ih]; rfl
theorem idx_app : ∀ {a r : List UInt8} {c : UInt8}, (∀ b ∈ a, b ≠ c) → indexByte (a ++ c :: r) c = a.length
  | [], r, c, _ => by unfold indexByte; simp
  | b :: a, r, c, h => by
    have h1 : (b == c) = false := by simpa using h b (by simp)
    have ih := idx_app (a := a) (r := r) (c := c) fun x hx => h x (by simp [hx])
    rw [List.cons_append]
    unfold indexByte
    rw [h1, ih]
    have h2 : (((a.length : Nat) : Int) == -1) = false := by simp
    rw [h2]
    simp
theorem cut_or (l : List UInt8) (c : UInt8) : (∀ b ∈ l, b ≠ c) ∨ ∃ a r, l = a ++ c :: r ∧ ∀ b ∈ a, b ≠ c := by
  induction l with
  | nil => exact .inl fun b hb => by simp at hb
  | cons x l ih =>
    by_cases hx : x = c
    · exact .inr ⟨[], l, by rw [hx]; rfl, fun b hb => by simp at hb⟩
    · rcases ih with h | ⟨a, r, rfl, h⟩
      · exact .inl fun b hb => by
          rcases List.mem_cons.1 hb with e | e
          · rw [e]; exact hx
          · exact h b e
      · exact .inr ⟨x :: a, r, rfl, fun b hb => by
          rcases List.mem_cons.1 hb with e | e
          · rw [e]; exact hx
          · exact h b e⟩
theorem idx_cut_none {l : List UInt8} (h : cutL l = none) : indexByte l 10 = -1 := idx_none (cutL_none.1 h)
theorem idx_cut_some {l a r : List UInt8} (h : cutL l = some (a, r)) : indexByte l 10 = a.length := by
  obtain ⟨e, h2⟩ := cutL_some h
  rw [e]; exact idx_app h2
theorem cut_none {l : List UInt8} (h : cutL l = none) : Lib.cut l [10] = (l, [], false) := by
  unfold Lib.cut; rw [index_one, idx_cut_none h, if_neg (by omega)]
theorem cut_some {l a r : List UInt8} (h : cutL l = some (a, r)) : Lib.cut l [10] = (a, r, true) := by
  unfold Lib.cut; rw [index_one, idx_cut_some h, if_pos (by omega)]
  obtain ⟨e, _⟩ := cutL_some h
  rw [Int.toNat_natCast, e]
  simp
theorem bs_ext (l : List UInt8) (i j : Nat) : (bs l).extract i j = bs (l.extract i j) := by
  apply ByteArray.ext
  simp [bs, ByteArray.data_extract]
theorem split_bs : ∀ (n : Nat) (l : List UInt8), l.length ≤ n → countB (bs l) ⟨#[32]⟩ + 1 = (splitL l).length ∧ splitB ⟨#[32]⟩ 0 (countB (bs l) ⟨#[32]⟩) (bs l) = (splitL l).map bs := by
  intro n
  induction n with
  | zero =>
    intro l hl
    obtain rfl : l = [] := List.length_eq_zero_iff.1 (by omega)
    have h : indexB (bs []) ⟨#[32]⟩ = -1 := rfl
    rw [countB_miss _ _ h]
    exact ⟨rfl, rfl⟩
  | succ n ih =>
    intro l hl
    rcases cut_or l 32 with h | ⟨a, r, rfl, h⟩
    · have hi : indexB (bs l) ⟨#[32]⟩ = -1 := by
        show index (bs l).data.toList [32] = -1
        rw [data_bs, index_one]; exact idx_none h
      rw [countB_miss _ _ hi, splitL_one h]
      exact ⟨rfl, rfl⟩
    · have hi : indexB (bs (a ++ 32 :: r)) ⟨#[32]⟩ = a.length := by
        show index (bs (a ++ 32 :: r)).data.toList [32] = a.length
        rw [data_bs, index_one]; exact idx_app h
      have he : (bs (a ++ 32 :: r)).extract (a.length + (⟨#[32]⟩ : ByteArray).size) (bs (a ++ 32 :: r)).size = bs r := by
        rw [bs_ext, bs_size]
        congr 1
        show (a ++ 32 :: r).extract (a.length + 1) (a ++ 32 :: r).length = r
        simp
        exact List.take_of_length_le (by omega)
      have he0 : (bs (a ++ 32 :: r)).extract 0 (a.length + 0) = bs a := by
        rw [bs_ext]
        congr 1
        simp
      obtain ⟨i1, i2⟩ := ih r (by simp at hl; omega)
      rw [countB_hit _ _ a.length (by decide) hi, he, splitL_app h]
      refine ⟨by simp; omega, ?_⟩
      rw [Nat.add_comm 1, splitB_hit _ _ _ _ a.length hi, he, he0, i2]
      rfl

end Go.Proofs.YtklljdjeobifiaaDoor
