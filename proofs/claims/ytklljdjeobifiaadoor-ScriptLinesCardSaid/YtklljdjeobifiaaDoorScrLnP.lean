/-
  ScriptLines, plainly.
-/
import Derived.Test.YtklljdjeobifiaaDoorScrBnd
import Derived.Laws.RangeAny
namespace Go.Proofs.YtklljdjeobifiaaDoor
open Go.Lib

theorem dec_step (s : ByteArray) (i : Nat) (h : i < s.size) : 1 ≤ (Utf8.decode s i).2 ∧ i + (Utf8.decode s i).2 ≤ s.size ∧ ∀ j, 0 < j → j < (Utf8.decode s i).2 → (s.get! (i + j)).toNat / 64 = 2 := by
  simp only [Utf8.decode]
  repeat' split
  all_goals simp_all
  all_goals first
    | omega
    | (refine ⟨by omega, fun j h0 h1 => ?_⟩
       rcases (show j = 1 ∨ j = 2 ∨ j = 3 by omega) with rfl | rfl | rfl <;> first | omega | (simp_all; done))
theorem bs_get (l : List UInt8) (j : Nat) : (bs l).get! j = l.getD j default := by
  show (bs l).data[j]! = _
  unfold bs
  simp [List.getD_eq_getElem?_getD]
/-- Lines ahead of a place. -/
def lnTo (l : List UInt8) (i : Nat) : Nat := (l.take i).count 10
theorem count_none : ∀ {l : List UInt8}, (∀ b ∈ l, b ≠ 10) → l.count 10 = 0 := fun h => List.count_eq_zero.2 fun hm => h 10 hm rfl
theorem lnTo_step {l : List UInt8} {i d : Nat} (hi : i < l.length) (h1 : 1 ≤ d) (h2 : i + d ≤ l.length) (h3 : ∀ j, 0 < j → j < d → (l.getD (i + j) default).toNat / 64 = 2) :
    lnTo l (i + d) = lnTo l i + (if l[i] = 10 then 1 else 0) := by
  unfold lnTo
  obtain ⟨e, rfl⟩ : ∃ e, d = e + 1 := ⟨d - 1, by omega⟩
  have hd : l.take (i + (e + 1)) = l.take i ++ (l[i] :: (l.drop (i + 1)).take e) := by
    rw [List.take_add, List.drop_eq_getElem_cons hi, List.take_succ_cons]
  rw [hd, List.count_append, List.count_cons, count_none (l := (l.drop (i + 1)).take e)]
  · simp
  · intro b hb e10
    obtain ⟨k, hk⟩ := List.getElem?_of_mem hb
    have hke : k < e := by have := (List.getElem?_eq_some_iff.1 hk).1; simp at this; omega
    rw [List.getElem?_take_of_lt hke, List.getElem?_drop] at hk
    have := h3 (k + 1) (by omega) (by omega)
    rw [List.getD_eq_getElem?_getD, show i + (k + 1) = i + 1 + k by omega, hk, Option.getD_some, e10] at this
    revert this; decide

theorem prs_tail {l : List Cm} (h : okL l = true) (hf : ∀ c ∈ l, Fits c) (hn : l.length ≤ 400) {s : List UInt8} (hs : s ≠ []) {e : Int} (hr : read1 s = .err e) : parseL (fmtL l ++ s) = .err (1 + (fmtL l).count 10) e := by
  have hl : 0 < s.length := List.length_pos_iff.2 hs
  unfold parseL
  rw [prs_fmt l _ s [] 1 (fun c hc => ⟨okL_all h c hc, hf c hc⟩) (by simp; omega) (by omega), prs, if_neg hs, if_neg (by simp; omega), hr, fmtL_count l (okL_all h)]
def haltW : List UInt8 := [104, 97, 108, 116, 10]
def showW : List UInt8 := [115, 104, 111, 119]
def loadW (k : Nat) : List UInt8 := [108, 111, 97, 100, 32] ++ [UInt8.ofNat (48 + k)] ++ [10]
theorem read_halt : read1 haltW = .err 3 := read1_a (first := [104, 97, 108, 116]) (rest := []) rfl rfl
theorem read_show : read1 showW = .err 4 := by
  unfold read1
  rw [show cutL showW = none from rfl]
theorem head_load {k : Nat} (h0 : 0 < k) (h1 : k < 10) : headL ([108, 111, 97, 100, 32] ++ [UInt8.ofNat (48 + k)]) = some (⟨1, [], [], []⟩, k) := by
  have hd : UInt8.ofNat (48 + k) ≠ 32 := fun e => by
    have := congrArg UInt8.toNat e
    rw [dig_ofNat h1] at this
    simp at this
    omega
  have h1' : splitL ([108, 111, 97, 100, 32] ++ [UInt8.ofNat (48 + k)]) = [[108, 111, 97, 100], [UInt8.ofNat (48 + k)]] := by
    rw [show ([108, 111, 97, 100, 32] ++ [UInt8.ofNat (48 + k)] : List UInt8) = [108, 111, 97, 100] ++ 32 :: [UInt8.ofNat (48 + k)] from rfl, splitL_app (by decide), splitL_one (by simpa using hd)]
  have h2 : lookW [108, 111, 97, 100] = some ⟨[108, 111, 97, 100], 1, false, 0, true⟩ := rfl
  have h3 : numsL [[UInt8.ofNat (48 + k)]] = some [(k : Int)] := by
    rw [← itoa_small k h1, show [itoa (k : Int)] = [(k : Int)].map itoa from rfl, numsL_map _ (by simp; omega)]
  rw [headL_of h1' h2]
  show (match numsL [[UInt8.ofNat (48 + k)]] with | none => none | some ns => _) = _
  rw [h3]
  have h4 : linesN ⟨[108, 111, 97, 100], 1, false, 0, true⟩ [(k : Int)] = some (k, []) := by
    unfold linesN
    rw [if_pos rfl]
    show (if (k : Int) < 0 then none else some ((k : Int).toNat, _)) = _
    rw [if_neg (by omega)]
    rfl
  dsimp only
  rw [h4]
  rfl
theorem read_load {k : Nat} (h0 : 0 < k) (h1 : k < 10) : read1 (loadW k) = .err 4 := by
  have hne : ∀ b ∈ ([108, 111, 97, 100, 32] ++ [UInt8.ofNat (48 + k)] : List UInt8), b ≠ 10 := by
    intro b hb
    simp only [List.mem_append, List.mem_cons, List.not_mem_nil, or_false] at hb
    rcases hb with (h | h | h | h | h) | h <;> subst h <;> intro e
    · revert e; decide
    · revert e; decide
    · revert e; decide
    · revert e; decide
    · revert e; decide
    · have := congrArg UInt8.toNat e
      rw [dig_ofNat h1] at this
      simp at this
      omega
  obtain ⟨m, rfl⟩ : ∃ m, k = m + 1 := ⟨k - 1, by omega⟩
  unfold read1 loadW
  rw [cutL_app hne]
  dsimp only
  rw [head_load h0 h1]
  rfl

end Go.Proofs.YtklljdjeobifiaaDoor
