/-
  How long a text form is.
-/
import Derived.Test.YtklljdjeobifiaaDoorScrSame
import Derived.Lib.ItoaLen
namespace Go.Proofs.YtklljdjeobifiaaDoor
open Go.Lib

theorem itoa_len {v : Int} (h0 : -9223372036854775808 ≤ v) (h1 : v ≤ 9223372036854775807) : (itoa v).length ≤ 21 := itoa_length_le v h0 h1
theorem joinW_len : ∀ (ws : List (List UInt8)), (join ws [32]).length ≤ (ws.map fun w => w.length + 1).sum
  | [] => by simp [join, List.intercalate]
  | [w] => by rw [join_one]; simp
  | w :: v :: r => by
    have := joinW_len (v :: r)
    rw [join_cons, List.map_cons, List.sum_cons, List.length_append, List.length_cons]; omega
theorem nums_len : ∀ (ns : List Int), (∀ n ∈ ns, -9223372036854775808 ≤ n ∧ n ≤ 9223372036854775807) → ((ns.map itoa).map fun w => w.length + 1).sum ≤ 22 * ns.length
  | [], _ => by simp
  | n :: r, h => by
    have h1 := nums_len r (fun x hx => h x (by simp [hx]))
    have h2 := itoa_len (h n (by simp)).1 (h n (by simp)).2
    rw [List.map_cons, List.map_cons, List.sum_cons, List.length_cons]; omega
theorem shp_len : ∀ s ∈ shpL, s.word.length ≤ 9 := by
  intro s hs
  simp only [shpL, List.mem_cons, List.not_mem_nil, or_false] at hs
  rcases hs with h | h | h | h | h | h | h | h | h | h | h | h | h | h <;> (subst h; decide)
theorem fmtC_len {c : Cm} (hf : Fits c) (ht : c.text.length ≤ 9223372036854775807) : (fmtC c).length ≤ c.name.length + c.text.length + 22 * c.nums.length + 40 := by
  unfold fmtC
  cases hk : findK c.kind with
  | none => simp
  | some s =>
    have hw := shp_len s (findK_some hk).1
    have h1 := joinW_len (wordsC s c)
    have h2 := nums_len c.nums hf
    have hc := List.count_le_length (a := (10 : UInt8)) (l := c.text)
    have h3 := itoa_len (v := (c.text.count 10 : Nat)) (by omega) (by omega)
    have h4 : ((wordsC s c).map fun w => w.length + 1).sum ≤ 10 + (c.name.length + 1) + 22 * c.nums.length + 22 := by
      unfold wordsC
      rw [List.map_cons, List.sum_cons, List.map_append, List.map_append, List.sum_append, List.sum_append]
      have a1 : ((if s.name = true then [c.name] else []).map fun w => w.length + 1).sum ≤ c.name.length + 1 := by split <;> simp
      have a2 : ((if s.text = true then [itoa (c.text.count 10 : Nat)] else []).map fun w => w.length + 1).sum ≤ 22 := by split <;> simp; omega
      omega
    dsimp only
    rw [List.length_append, List.length_cons]; omega
theorem okC_len {c : Cm} (h : okC c = true) (hf : Fits c) : (fmtC c).length ≤ 200000 := by
  have hs := okC_sm h
  obtain ⟨s, hs'⟩ := okC_iff.1 h
  have h1 : c.name.length ≤ 16 := by
    cases hn : s.name with
    | true => exact nm_len (hs'.n1 hn)
    | false => rw [hs'.n2 hn]; simp
  have h2 : c.text.length ≤ 65536 := by
    cases ht : s.text with
    | true => exact (hs'.t2 ht).1
    | false => rw [hs'.t1 ht]; simp
  have h3 := hs'.m
  have := fmtC_len hf (by omega)
  omega
theorem fmtL_len : ∀ (l : List Cm), (∀ c ∈ l, okC c = true) → (∀ c ∈ l, Fits c) → (fmtL l).length ≤ 200000 * l.length
  | [], _, _ => by simp [fmtL]
  | c :: l, h, hf => by
    have h1 := fmtL_len l (fun x hx => h x (by simp [hx])) (fun x hx => hf x (by simp [hx]))
    have h2 := okC_len (h c (by simp)) (hf c (by simp))
    rw [fmtL_cons, List.length_append, List.length_cons]; omega
theorem okL_all {l : List Cm} (h : okL l = true) : ∀ c ∈ l, okC c = true := by
  unfold okL at h
  simp only [Bool.and_eq_true, List.all_eq_true] at h
  exact h.2
theorem okL_bnd {l : List Cm} (h : okL l = true) (hf : ∀ c ∈ l, Fits c) : (fmtL l).length ≤ 200000000 := by
  have := fmtL_len l (okL_all h) hf
  have := okL_len h
  omega
/-- The lines of a text form. -/
theorem fmtL_count : ∀ (l : List Cm), (∀ c ∈ l, okC c = true) → (fmtL l).count 10 = (l.map lnC).sum
  | [], _ => rfl
  | c :: l, h => by
    have h1 := fmtL_count l (fun x hx => h x (by simp [hx]))
    rw [fmtL_cons, List.count_append, fmt_count (h c (by simp)), h1, List.map_cons, List.sum_cons]
theorem okL_append {a b : List Cm} (ha : okL a = true) (hb : okL b = true) (hn : a.length + b.length ≤ 1000) : okL (a ++ b) = true := by
  unfold okL
  simp only [Bool.and_eq_true, List.all_eq_true, decide_eq_true_eq, List.length_append]
  exact ⟨hn, fun c hc => (List.mem_append.1 hc).elim (okL_all ha c) (okL_all hb c)⟩

end Go.Proofs.YtklljdjeobifiaaDoor
