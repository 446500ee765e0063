/-
  ScriptTexts, plainly.
-/
import Derived.Test.YtklljdjeobifiaaDoorScrBnd
namespace Go.Proofs.YtklljdjeobifiaaDoor
open Go.Lib

def annW : List UInt8 := [97, 110, 110]
def txL (t : List UInt8) : List Cm := [⟨1, [], t ++ [10], []⟩, ⟨9, [], [], []⟩, ⟨12, annW, t ++ [10], [1, 0, 0, -7]⟩]
theorem ann_ok : nmB annW = true := by decide +kernel
theorem suf_lf (t : List UInt8) : hasSuffix (t ++ [10]) [10] = true := by unfold hasSuffix; simp
theorem tx_ok {t : List UInt8} (h : t.length ≤ 10000) : okL (txL t) = true := by
  have hl : (t ++ [10]).length ≤ 65536 := by simp; omega
  have a : okC ⟨1, [], t ++ [10], []⟩ = true := okC_iff.2 ⟨⟨[108, 111, 97, 100], 1, false, 0, true⟩, ⟨rfl, by simp, by simp, by simp, by simp, by simp, fun _ => ⟨hl, .inr (suf_lf t)⟩⟩⟩
  have b : okC ⟨9, [], [], []⟩ = true := by decide +kernel
  have c : okC ⟨12, annW, t ++ [10], [1, 0, 0, -7]⟩ = true := okC_iff.2 ⟨⟨[115, 117, 98, 109, 105, 116], 12, true, 4, true⟩, ⟨rfl, fun _ => ann_ok, by simp, by simp, by simp, by simp, fun _ => ⟨hl, .inr (suf_lf t)⟩⟩⟩
  unfold okL txL
  simp [a, b, c]
theorem tx_fits (t : List UInt8) : ∀ c ∈ txL t, Fits c := by
  intro c hc
  simp only [txL, List.mem_cons, List.not_mem_nil, or_false] at hc
  rcases hc with h | h | h <;> subst h <;> intro n hn <;> simp at hn
  omega

end Go.Proofs.YtklljdjeobifiaaDoor
