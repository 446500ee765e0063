/-
  ScriptLimit, plainly: a script of k commands 'check'.
-/
import Derived.Test.YtklljdjeobifiaaDoorScrL4
namespace Go.Proofs.YtklljdjeobifiaaDoor
open Go.ChangeShapes Go.WideShapes Go.ChangeAt Go.RowKit Go.Sort Go.Maps

def ckC : Cm := ⟨5, [], [], []⟩
theorem ck_fmt : fmtC ckC = [99, 104, 101, 99, 107, 10] := rfl
theorem ck_ok : okC ckC = true := by decide +kernel
theorem ck_fits (k : Nat) : ∀ c ∈ List.replicate k ckC, Fits c := fun c hc n hn => by
  rw [(List.mem_replicate.1 hc).2] at hn
  simp [ckC] at hn
theorem ck_okL (k : Nat) : okL (List.replicate k ckC) = decide (k ≤ 1000) := by
  unfold okL
  rw [List.length_replicate, show (List.replicate k ckC).all okC = true from List.all_eq_true.2 fun c hc => by rw [(List.mem_replicate.1 hc).2]; exact ck_ok, Bool.and_true]
theorem ck_len (k : Nat) : (fmtL (List.replicate k ckC)).length = 6 * k := by
  induction k with
  | zero => rfl
  | succ k ih => rw [List.replicate_succ, fmtL_cons, List.length_append, ih, ck_fmt]; simp; omega
theorem ck_lines (k : Nat) : ((List.replicate k ckC).map lnC).sum = k := by
  induction k with
  | zero => rfl
  | succ k ih => rw [List.replicate_succ, List.map_cons, List.sum_cons, ih]; show 1 + 0 + k = k + 1; omega
theorem ck_snoc (k : Nat) : fmtL (List.replicate (k + 1) ckC) = fmtL (List.replicate k ckC) ++ [99, 104, 101, 99, 107, 10] := by
  rw [List.replicate_succ', fmtL_append]
  congr 1
theorem parse_rep (k : Nat) (h : k ≤ 1000) : parseL (fmtL (List.replicate k ckC)) = .ok (List.replicate k ckC) :=
  parse_fmt (by rw [ck_okL]; exact decide_eq_true h) (ck_fits k)
theorem parse_rep_big (k : Nat) (h : 1000 < k) : parseL (fmtL (List.replicate k ckC)) = .err 1001 5 := by
  obtain ⟨m, hm⟩ : ∃ m, m = 1000 := ⟨_, rfl⟩
  have hmk : m < k := by omega
  have e : List.replicate k ckC = List.replicate m ckC ++ List.replicate (k - m) ckC := by
    rw [List.replicate_append_replicate, show m + (k - m) = k by omega]
  have hne : fmtL (List.replicate (k - m) ckC) ≠ [] := by
    intro h0
    have := ck_len (k - m)
    rw [h0, List.length_nil] at this
    omega
  have hf := prs_fmt (List.replicate m ckC) ((fmtL (List.replicate m ckC) ++ fmtL (List.replicate (k - m) ckC)).length + 1) (fmtL (List.replicate (k - m) ckC)) [] 1 (fun c hc => ⟨by rw [(List.mem_replicate.1 hc).2]; exact ck_ok, ck_fits m c hc⟩) (by rw [List.length_replicate, List.length_nil]; omega) (by omega)
  unfold parseL
  rw [e, fmtL_append, hf, ck_lines, prs, if_neg hne, if_pos (by rw [List.nil_append, List.length_replicate]; exact hm), hm]

end Go.Proofs.YtklljdjeobifiaaDoor
