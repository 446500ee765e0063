/-
  Byte strings and lists; what the library's words for Cut and Split say of them.
-/
import Derived.Test.YtodiijoeeeeicaaDoorGMem
import Derived.Test.YtodiijoeeeeicaaDoorScrP
import Derived.Lib.IndexBytes
import Derived.Lib.CountLaws
import Derived.Lib.SplitLaws
import Derived.Lib.Builder
namespace Go.Proofs.YtodiijoeeeeicaaDoor
open Go.ChangeShapes Go.WideShapes Go.ChangeAt Go.RowKit Go.Sort
open Go.Lib

theorem eqS_iff {a b : ByteArray} : (a.toList == b.toList) = true ↔ a = b := by
  rw [ByteArray.toList_eq, ByteArray.toList_eq]
  constructor
  · intro h; exact WideShapes.bytes_inj (by simpa using h)
  · intro h; rw [h]; simp
theorem eqS_eq (a b : ByteArray) : (a.toList == b.toList) = decide (a = b) := by
  rw [Bool.eq_iff_iff]; simp only [eqS_iff, decide_eq_true_eq]
theorem u8_eq (b : UInt8) (n : Nat) (hn : n < 256) : (b == UInt8.ofNat n) = ((b.toNat : Int) == (n : Int)) := by
  rw [Bool.eq_iff_iff, beq_iff_eq, beq_iff_eq]
  constructor
  · rintro rfl; rw [UInt8.toNat_ofNat']; omega
  · intro h; apply UInt8.toNat_inj.1; rw [UInt8.toNat_ofNat']; omega
theorem byte_at (s : ByteArray) {k : Nat} (h : k < s.size) : s.data.toList[k]? = some s[k] := by
  rw [List.getElem?_eq_getElem (by simpa using h)]; rfl

def bs (l : List UInt8) : ByteArray := ⟨l.toArray⟩
theorem bs_data (s : ByteArray) : bs s.data.toList = s := by unfold bs; simp
theorem data_bs (l : List UInt8) : (bs l).data.toList = l := by unfold bs; simp
theorem bs_size (l : List UInt8) : (bs l).size = l.length := by unfold bs; simp [ByteArray.size]
theorem size_len (s : ByteArray) : s.data.toList.length = s.size := by simp
theorem bs_inj {a b : List UInt8} (h : bs a = bs b) : a = b := by rw [← data_bs a, h, data_bs]
theorem empty_iff (s : ByteArray) : s.toList.isEmpty = decide (s.size = 0) := by
  rw [ByteArray.toList_eq, Bool.eq_iff_iff]
  simp only [List.isEmpty_iff, decide_eq_true_eq]
  rw [← size_len]
  exact List.length_eq_zero_iff.symm
theorem empty_bs (l : List UInt8) : (bs l).toList.isEmpty = l.isEmpty := by
  rw [empty_iff, bs_size]
  cases l <;> simp
theorem bs_app (a b : List UInt8) : bs a ++ bs b = bs (a ++ b) := by
  apply ByteArray.ext
  simp [bs, ByteArray.data_append]
theorem builder_lt {T e : TypeId} {B b : Nat} {xs : List Value} {w : World} (h : Lib.IsBuilder T e B b xs w) : b < w.heap.size := h.elim (fun x => x.lt) (fun x => x.lt)

theorem idx_none : ∀ {l : List UInt8} {c : UInt8}, (∀ b ∈ l, b ≠ c) → indexByte l c = -1
  | [], _, _ => rfl
  | b :: l, c, h => by
    have h1 : (b == c) = false := by simpa using h b (by simp)
    have ih := idx_none (l := l) (c := c) fun x hx => h x (by simp [hx])
    unfold indexByte
    rw [h1, ih]; rfl
theorem idx_app : ∀ {a r : List UInt8} {c : UInt8}, (∀ b ∈ a, b ≠ c) → indexByte (a ++ c :: r) c = a.length
  | [], r, c, _ => by unfold indexByte; simp
  | b :: a, r, c, h => by
    have h1 : (b == c) = false := by simpa using h b (by simp)
    have ih := idx_app (a := a) (r := r) (c := c) fun x hx => h x (by simp [hx])
    rw [List.cons_append]
    unfold indexByte
    rw [h1, ih]
    have h2 : (((a.length : Nat) : Int) == -1) = false := by simp
    rw [h2]
    simp
theorem cut_or (l : List UInt8) (c : UInt8) : (∀ b ∈ l, b ≠ c) ∨ ∃ a r, l = a ++ c :: r ∧ ∀ b ∈ a, b ≠ c := by
  induction l with
  | nil => exact .inl fun b hb => by simp at hb
  | cons x l ih =>
    by_cases hx : x = c
    · exact .inr ⟨[], l, by rw [hx]; rfl, fun b hb => by simp at hb⟩
    · rcases ih with h | ⟨a, r, rfl, h⟩
      · exact .inl fun b hb => by
          rcases List.mem_cons.1 hb with e | e
          · rw [e]; exact hx
          · exact h b e
      · exact .inr ⟨x :: a, r, rfl, fun b hb => by
          rcases List.mem_cons.1 hb with e | e
          · rw [e]; exact hx
          · exact h b e⟩
theorem idx_cut_none {l : List UInt8} (h : cutL l = none) : indexByte l 10 = -1 := idx_none (cutL_none.1 h)
theorem idx_cut_some {l a r : List UInt8} (h : cutL l = some (a, r)) : indexByte l 10 = a.length := by
  obtain ⟨e, h2⟩ := cutL_some h
  rw [e]; exact idx_app h2
theorem cut_none {l : List UInt8} (h : cutL l = none) : Lib.cut l [10] = (l, [], false) := by
  unfold Lib.cut; rw [index_one, idx_cut_none h, if_neg (by omega)]
theorem cut_some {l a r : List UInt8} (h : cutL l = some (a, r)) : Lib.cut l [10] = (a, r, true) := by
  unfold Lib.cut; rw [index_one, idx_cut_some h, if_pos (by omega)]
  obtain ⟨e, _⟩ := cutL_some h
  rw [Int.toNat_natCast, e]
  simp
theorem bs_ext (l : List UInt8) (i j : Nat) : (bs l).extract i j = bs (l.extract i j) := by
  apply ByteArray.ext
  simp [bs, ByteArray.data_extract]
theorem split_bs : ∀ (n : Nat) (l : List UInt8), l.length ≤ n → countB (bs l) ⟨#[32]⟩ + 1 = (splitL l).length ∧ splitB ⟨#[32]⟩ 0 (countB (bs l) ⟨#[32]⟩) (bs l) = (splitL l).map bs := by
  intro n
  induction n with
  | zero =>
    intro l hl
    obtain rfl : l = [] := List.length_eq_zero_iff.1 (by omega)
    have h : indexB (bs []) ⟨#[32]⟩ = -1 := rfl
    rw [countB_miss _ _ h]
    exact ⟨rfl, rfl⟩
  | succ n ih =>
    intro l hl
    rcases cut_or l 32 with h | ⟨a, r, rfl, h⟩
    · have hi : indexB (bs l) ⟨#[32]⟩ = -1 := by
        show index (bs l).data.toList [32] = -1
        rw [data_bs, index_one]; exact idx_none h
      rw [countB_miss _ _ hi, splitL_one h]
      exact ⟨rfl, rfl⟩
    · have hi : indexB (bs (a ++ 32 :: r)) ⟨#[32]⟩ = a.length := by
        show index (bs (a ++ 32 :: r)).data.toList [32] = a.length
        rw [data_bs, index_one]; exact idx_app h
      have he : (bs (a ++ 32 :: r)).extract (a.length + (⟨#[32]⟩ : ByteArray).size) (bs (a ++ 32 :: r)).size = bs r := by
        rw [bs_ext, bs_size]
        congr 1
        show (a ++ 32 :: r).extract (a.length + 1) (a ++ 32 :: r).length = r
        simp
        exact List.take_of_length_le (by omega)
      have he0 : (bs (a ++ 32 :: r)).extract 0 (a.length + 0) = bs a := by
        rw [bs_ext]
        congr 1
        simp
      obtain ⟨i1, i2⟩ := ih r (by simp at hl; omega)
      rw [countB_hit _ _ a.length (by decide) hi, he, splitL_app h]
      refine ⟨by simp; omega, ?_⟩
      rw [Nat.add_comm 1, splitB_hit _ _ _ _ a.length hi, he, he0, i2]
      rfl
theorem byte_bs {l : List UInt8} {k : Nat} (h : k < (bs l).size) {c : UInt8} (hc : (bs l)[k]'h = c) : l[k]? = some c := by
  have := byte_at (bs l) h
  rw [data_bs, hc] at this
  exact this
theorem u8_ten {c : UInt8} {n : Nat} (hn : n < 256) (h : ((c.toNat : Int) == (n : Int)) = true) : c = UInt8.ofNat n := by rw [← u8_eq c n hn] at h; exact eq_of_beq h
theorem u8_nten {c : UInt8} {n : Nat} (hn : n < 256) (h : ((c.toNat : Int) == (n : Int)) = false) : c ≠ UInt8.ofNat n := by
  rw [← u8_eq c n hn] at h
  intro e; rw [e] at h; simp at h
theorem cut_here {l : List UInt8} {k : Nat} (hall : ∀ j x, j < k → l[j]? = some x → x ≠ 10) (h : l[k]? = some 10) : cutL l = some (l.take k, l.drop (k + 1)) := by
  have hk := (List.getElem?_eq_some_iff.1 h).1
  have e : l = l.take k ++ 10 :: l.drop (k + 1) := by
    have h2 := List.drop_eq_getElem_cons hk
    rw [(List.getElem?_eq_some_iff.1 h).2] at h2
    rw [← h2, List.take_append_drop]
  have := cutL_app (a := l.take k) (r := l.drop (k + 1)) (fun b hb => by
    obtain ⟨j, hj⟩ := List.getElem?_of_mem hb
    have hjk : j < k := by have := (List.getElem?_eq_some_iff.1 hj).1; simp at this; omega
    rw [List.getElem?_take_of_lt hjk] at hj
    exact hall j b hjk hj)
  rw [← e] at this
  exact this
theorem splitL_sp : ∀ (p : List UInt8), splitL (p ++ [32]) = splitL p ++ [[]]
  | [] => rfl
  | b :: r => by
    rw [List.cons_append, splitL, splitL, splitL_sp r]
    by_cases hb : b = 32
    · rw [if_pos hb, if_pos hb]; rfl
    · rw [if_neg hb, if_neg hb]
      cases h : splitL r with
      | nil => exact absurd h (splitL_ne r)
      | cons a q => rfl
theorem splitL_ch : ∀ (p : List UInt8) (c : UInt8), c ≠ 32 → ∃ ws x, splitL p = ws ++ [x] ∧ splitL (p ++ [c]) = ws ++ [x ++ [c]]
  | [], c, hc => ⟨[], [], rfl, by rw [List.nil_append, splitL, if_neg hc]; rfl⟩
  | b :: r, c, hc => by
    obtain ⟨ws, x, h1, h2⟩ := splitL_ch r c hc
    rw [List.cons_append, splitL, splitL, h1, h2]
    by_cases hb : b = 32
    · rw [if_pos hb, if_pos hb]; exact ⟨[] :: ws, x, rfl, rfl⟩
    · rw [if_neg hb, if_neg hb]
      cases ws with
      | nil => exact ⟨[], b :: x, rfl, rfl⟩
      | cons a q => exact ⟨(b :: a) :: q, x, rfl, rfl⟩
theorem splitL_len2 : ∀ (p : List UInt8), (splitL p).length ≤ p.length + 1
  | [] => by simp [splitL]
  | b :: r => by
    have ih := splitL_len2 r
    rw [splitL]
    by_cases hb : b = 32
    · rw [if_pos hb]; simp; omega
    · rw [if_neg hb]
      cases h : splitL r with
      | nil => exact absurd h (splitL_ne r)
      | cons a q => rw [h] at ih; simp [consH] at *; omega
theorem split_word : ∀ (p : List UInt8), ∀ x ∈ splitL p, x.length ≤ p.length
  | [], x, h => by simp [splitL] at h; subst h; simp
  | b :: r, x, h => by
    have ih := split_word r
    rw [splitL] at h
    by_cases hb : b = 32
    · rw [if_pos hb] at h
      rcases List.mem_cons.1 h with h | h
      · subst h; simp
      · have := ih x h; simp; omega
    · rw [if_neg hb] at h
      cases hs : splitL r with
      | nil => exact absurd hs (splitL_ne r)
      | cons a q =>
        rw [hs] at h ih
        rcases List.mem_cons.1 h with h | h
        · subst h; have := ih a (by simp); simp; omega
        · have := ih x (by simp [h]); simp; omega
theorem take_snoc {l : List Cm} {k : Nat} (h : k < l.length) : l.take k ++ [l[k]] = l.take (k + 1) := (List.take_succ_eq_append_getElem h).symm
theorem strs_tail {w : World} {b o : Nat} {x : ByteArray} {l : List ByteArray} (h : StrsAt w (some ⟨b, o, none⟩) (x :: l)) : StrsAt w (some ⟨b, o + 1, none⟩) l := fun k y hk => by
  obtain ⟨b', o', e, h1⟩ := h (k + 1) y (by simpa using hk)
  cases e
  exact ⟨_, _, rfl, by rw [show o + 1 + k = o + (k + 1) by omega]; exact h1⟩
theorem strs_nil (w : World) (A : Option Addr) : StrsAt w A [] := fun k x hk => by simp at hk
theorem ret_str {a b : ByteArray} (h : a = b) : Ending.returned (.string a) = .returned (.string b) := by rw [h]
theorem join_snoc : ∀ (ws : List (List UInt8)) (x : List UInt8), ws ≠ [] → Lib.join (ws ++ [x]) [32] = Lib.join ws [32] ++ 32 :: x
  | [], _, h => absurd rfl h
  | [w], x, _ => by rw [List.singleton_append, join_cons, join_one, join_one]
  | w :: v :: r, x, _ => by
    have ih := join_snoc (v :: r) x (by simp)
    rw [List.cons_append, List.cons_append, join_cons, ← List.cons_append, ih, join_cons]
    simp

end Go.Proofs.YtodiijoeeeeicaaDoor
