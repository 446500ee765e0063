/-
  The library's words for what Cut and SplitN answer, and ours. (The lemmas on indexByte as in XScrBrg, over this seat's translation.)
-/
import Derived.Test.YtodiijoeeeeicaaDoorAsmP
import Derived.Test.YtodiijoeeeeicaaDoorAsmWld
import Derived.Lib.IndexBytes
import Derived.Lib.CountLaws
import Derived.Lib.SplitLaws
namespace Go.Proofs.YtodiijoeeeeicaaDoor
open Go.Lib Go.ChangeShapes Go.WideShapes Go.ChangeAt Go.RowKit Go.Sort

theorem cutA_lib (l : List UInt8) : Lib.cut l [10] = cutA l := by
  unfold Lib.cut cutA
  rw [index_one]
  cases hc : cutL l with
  | none => rw [idx_none (cutL_none.1 hc), if_neg (by omega)]
  | some p =>
    obtain ⟨a, r⟩ := p
    obtain ⟨e, h2⟩ := cutL_some hc
    rw [e, idx_app h2, if_pos (by omega), Int.toNat_natCast]
    simp
theorem splitL_len : ∀ (l : List UInt8), (splitL l).length ≤ l.length + 1 ∧ ∀ x ∈ splitL l, x.length ≤ l.length
  | [] => by simp [splitL]
  | b :: l => by
    obtain ⟨h1, h2⟩ := splitL_len l
    rw [splitL]
    split
    · refine ⟨by simp; omega, fun x hx => ?_⟩
      rcases List.mem_cons.1 hx with e | e
      · rw [e]; simp
      · have := h2 x e; simp; omega
    · cases hs : splitL l with
      | nil => simp [consH]
      | cons a r =>
        rw [hs] at h1 h2
        refine ⟨by simp [consH] at h1 ⊢; omega, fun x hx => ?_⟩
        rcases List.mem_cons.1 hx with e | e
        · rw [e]; have := h2 a (by simp); simp; omega
        · have := h2 x (by simp [e]); simp; omega
theorem splitn_bs : ∀ (k : Nat) (l : List UInt8), ∃ Wd : List (List UInt8), splitB ⟨#[32]⟩ 0 k (bs l) = Wd.map bs ∧ Wd ≠ [] ∧ (∀ x ∈ Wd, x.length ≤ l.length) ∧ (Wd = splitL l ∨ Wd.length = k + 1 ∧ k + 1 < (splitL l).length)
  | 0, l => by
    refine ⟨[l], rfl, by simp, by simp, ?_⟩
    rcases cut_or l 32 with h | ⟨a, r, rfl, h⟩
    · exact .inl (splitL_one h).symm
    · right
      have := List.length_pos_iff.2 (splitL_ne r)
      rw [splitL_app h]
      simp; omega
  | k + 1, l => by
    rcases cut_or l 32 with h | ⟨a, r, rfl, h⟩
    · have hi : indexB (bs l) ⟨#[32]⟩ = -1 := by
        show index (bs l).data.toList [32] = -1
        rw [data_bs, index_one]; exact idx_none h
      refine ⟨[l], ?_, by simp, by simp, .inl (splitL_one h).symm⟩
      rw [splitB_miss _ _ _ _ hi]; rfl
    · have hi : indexB (bs (a ++ 32 :: r)) ⟨#[32]⟩ = a.length := by
        show index (bs (a ++ 32 :: r)).data.toList [32] = a.length
        rw [data_bs, index_one]; exact idx_app h
      have he : (bs (a ++ 32 :: r)).extract (a.length + (⟨#[32]⟩ : ByteArray).size) (bs (a ++ 32 :: r)).size = bs r := by
        rw [bs_ext, bs_size]
        congr 1
        show (a ++ 32 :: r).extract (a.length + 1) (a ++ 32 :: r).length = r
        simp
        exact List.take_of_length_le (by omega)
      have he0 : (bs (a ++ 32 :: r)).extract 0 (a.length + 0) = bs a := by
        rw [bs_ext]
        congr 1
        simp
      obtain ⟨Wd, i1, i2, i3, i4⟩ := splitn_bs k r
      refine ⟨a :: Wd, ?_, by simp, ?_, ?_⟩
      · rw [splitB_hit _ _ _ _ a.length hi, he, he0, i1]; rfl
      · intro x hx
        rcases List.mem_cons.1 hx with e | e
        · rw [e]; simp
        · have := i3 x e; simp; omega
      · rw [splitL_app h]
        rcases i4 with e | ⟨e1, e2⟩
        · exact .inl (by rw [e])
        · exact .inr ⟨by simp [e1], by simp; omega⟩
/-- strings.SplitN(s, " ", 6): the words, or six pieces where there are more words than six. -/
theorem splitn_any (l : List UInt8) (w : World) (hl : l.length < 4294967281) (h : Wld w) :
    Calls Tryd.prog 64 #[.string (bs l), .string ⟨#[32]⟩, .int .i64 6] w fun e w' => Below w.heap.size w w' ∧ ∃ (Wd : List (List UInt8)) (cap : Nat), Wd ≠ [] ∧ (∀ x ∈ Wd, x.length ≤ l.length) ∧ (Wd = splitL l ∨ Wd.length = 6 ∧ 6 < (splitL l).length) ∧ e = .returned (.slice (some ⟨w.heap.size, 0, none⟩) Wd.length cap) ∧ StrsAt w' (some ⟨w.heap.size, 0, none⟩) (Wd.map bs) := by
  obtain ⟨m, hm⟩ := h.mx
  refine (Tryd.strings_SplitN (bs l) ⟨#[32]⟩ 6 m w (by rw [bs_size]; exact hl) hm (by decide) (by omega) (by omega)).mono ?_
  rintro e w' ⟨rfl, rfl⟩
  obtain ⟨Wd, h1, h2, h3, h4⟩ := splitn_bs (min 6 ((bs l).size + 1) - 1) l
  have hsz := bs_size l
  have hlen := (splitL_len l).1
  rw [h1]
  refine ⟨below_box _ _, Wd, _, h2, h3, ?_, by rw [List.length_map], fun k x hk => ⟨_, _, rfl, ?_⟩⟩
  · rcases h4 with e | ⟨e1, e2⟩
    · exact .inl e
    · right
      rw [hsz] at e1 e2
      omega
  · rw [Nat.zero_add]
    have hx : (cellsOf (Wd.map bs) (min 6 ((bs l).size + 1)))[k]? = some (.string x) := by
      unfold cellsOf
      rw [List.getElem?_toArray, List.getElem?_append_left (by simpa using (List.getElem?_eq_some_iff.1 hk).1), List.getElem?_map, hk]; rfl
    exact (bx_new w _ _).cell hx
/-- strings.Cut at a line feed. -/
theorem cut_any (l : List UInt8) (w : World) (hl : l.length < 4294967281) (h : Wld w) :
    Calls Tryd.prog 42 #[.string (bs l), .string ⟨#[10]⟩] w fun e w' => e = .returned (.tuple #[.string (bs (cutA l).1), .string (bs (cutA l).2.1), .bool (cutA l).2.2]) ∧ Below w.heap.size w w' := by
  obtain ⟨m, hm⟩ := h.mx
  refine (Tryd.strings_Cut (bs l) ⟨#[10]⟩ m w (by rw [bs_size]; exact hl) hm).mono ?_
  rintro e w' ⟨rfl, n, rfl⟩
  refine ⟨?_, below_drewN (Below.refl _ _) n⟩
  rw [data_bs]
  show Ending.returned (.tuple #[.string ⟨(Lib.cut l [10]).1.toArray⟩, .string ⟨(Lib.cut l [10]).2.1.toArray⟩, .bool (Lib.cut l [10]).2.2]) = _
  rw [cutA_lib]; rfl

end Go.Proofs.YtodiijoeeeeicaaDoor
