/-
  Keywords of layer 2: the contracts of lexer.Keyword and of the reference's Keywords.
-/
import Derived.Test.YtklljdjeobifiaaDoorGMapB
namespace Go.Proofs.YtklljdjeobifiaaDoor
open Go.ChangeShapes Go.WideShapes Go.ChangeAt Go.RowKit Go.Sort Go.Maps

def kwL : List ByteArray := [⟨#[105, 110, 116]⟩, ⟨#[97, 114, 114, 97, 121]⟩, ⟨#[115, 116, 97, 99, 107]⟩, ⟨#[112, 114, 111, 99]⟩, ⟨#[109, 97, 105, 110]⟩, ⟨#[112, 117, 115, 104]⟩, ⟨#[112, 111, 112]⟩, ⟨#[114, 101, 97, 100]⟩, ⟨#[117, 110, 114, 101, 97, 100]⟩, ⟨#[119, 114, 105, 116, 101]⟩, ⟨#[117, 110, 119, 114, 105, 116, 101]⟩, ⟨#[99, 97, 108, 108]⟩, ⟨#[117, 110, 99, 97, 108, 108]⟩, ⟨#[105, 102]⟩, ⟨#[101, 108, 115, 101]⟩, ⟨#[102, 105]⟩, ⟨#[102, 114, 111, 109]⟩, ⟨#[108, 111, 111, 112]⟩, ⟨#[117, 110, 116, 105, 108]⟩, ⟨#[108, 111, 99, 97, 108]⟩, ⟨#[100, 101, 108, 111, 99, 97, 108]⟩, ⟨#[116, 111, 112]⟩, ⟨#[115, 105, 122, 101]⟩]
theorem eqS_iff {a b : ByteArray} : (a.toList == b.toList) = true ↔ a = b := by
  rw [ByteArray.toList_eq, ByteArray.toList_eq]
  constructor
  · intro h; exact WideShapes.bytes_inj (by simpa using h)
  · intro h; rw [h]; simp
theorem eqS_eq (a b : ByteArray) : (a.toList == b.toList) = decide (a = b) := by
  rw [Bool.eq_iff_iff]; simp only [eqS_iff, decide_eq_true_eq]
def inL (l : List ByteArray) (s : ByteArray) : Bool := l.any fun x => decide (x = s)
def kwEnv : ByteArray → Option Bool := kwL.foldl (fun e x => setE e x (some true)) (fun _ => none)
theorem foldE (s : ByteArray) : ∀ (l : List ByteArray) (e : ByteArray → Option Bool), ((l.foldl (fun e x => setE e x (some true)) e) s).getD false = (inL l s || (e s).getD false)
  | [], e => by simp [inL]
  | x :: r, e => by
    rw [List.foldl_cons, foldE s r]
    unfold setE
    by_cases h : s = x
    · rw [if_pos h]; simp [inL, h]
    · rw [if_neg h]
      have : decide (x = s) = false := by simp; exact fun e => h e.symm
      simp [inL, this]
theorem kwEnv_eq (s : ByteArray) : (kwEnv s).getD false = inL kwL s := by
  unfold kwEnv; rw [foldE]; simp
def kwB (s : ByteArray) : Bool := decide (2 ≤ s.size) && decide (s.size ≤ 7) && inL kwL s

set_option maxRecDepth 100000 in
set_option maxHeartbeats 1000000 in
theorem keyword_any (s : ByteArray) (w : World) (hs : s.size ≤ 9223372036854775807) :
    Calls Tryd.prog 59 #[.string s] w fun e w' => e = .returned (.bool (kwB s)) ∧ Below w.heap.size w w' := by
  have hmm := @run_makeMap Tryd.prog
  by_cases h2 : s.size < 2
  · have hn := Lib.hid (show kwB s = false by simp [kwB]; omega)
    go_enter Tryd.func59, Tryd.ntmps59
    go_wp2
    go_ret
    exact ⟨ret_bool hn.out.symm, Below.refl _ _⟩
  by_cases h7 : 7 < s.size
  · have hn := Lib.hid (show kwB s = false by simp [kwB]; omega)
    go_enter Tryd.func59, Tryd.ntmps59
    go_wp2
    go_ret
    exact ⟨ret_bool hn.out.symm, Below.refl _ _⟩
  have hn := Lib.hid (show (kwEnv s).getD false = kwB s by rw [kwEnv_eq]; unfold kwB; simp; omega)
  have HM := mapB_made w
  have hbM := below_box w (.map #[] 0)
  go_enter Tryd.func59, Tryd.ntmps59
  go_wp2_with (first
    | (refine wpList_put_B _ rfl _ _ _ 110 (.inr rfl) Tryd.underlying110 w.heap.size _ _ _ rfl HM (by decide) _ true rfl rfl (by decide) ?_; intro w1 HM1 hT; have hbM := hbM.grown hT.grown (by have := hbM.size; omega) (by intro k hk; cases hk; exact Nat.le_refl _); have HM := HM1; clear hT HM1)
    | (at_lookup; refine wpList_look_B _ rfl _ _ 110 rfl Tryd.underlying110 w.heap.size _ _ _ rfl HM s rfl (by unfold maxLen; omega) ?_))
  go_ret
  exact ⟨ret_bool hn.out, hbM⟩
theorem strs_new (w : World) (T : TypeId) (l : List ByteArray) (cs : Array Value) (hcs : cs = (l.map Value.string).toArray) : StrsAt (w.alloc (Obj.cells cs T)) (some ⟨w.heap.size, 0, none⟩) l := fun k x hk => by
  subst hcs
  refine ⟨w.heap.size, 0, rfl, ?_⟩
  simp [go_sem, hk]

theorem kw_len {s : ByteArray} (h : inL kwL s = true) : 2 ≤ s.size ∧ s.size ≤ 7 := by
  have : ∀ x ∈ kwL, 2 ≤ x.size ∧ x.size ≤ 7 := by decide
  unfold inL at h
  rw [List.any_eq_true] at h
  obtain ⟨x, hx, e⟩ := h
  have := this x hx
  rw [of_decide_eq_true e] at this
  exact this
theorem rkeywords_any (w : World) :
    Calls Tryd.prog 57 #[] w fun e w' => ∃ A c, e = .returned (.slice A 23 c) ∧ StrsAt w' A kwL ∧ Below w.heap.size w w' := by
  have hst := strs_new w 9 kwL _ rfl
  have hbx := below_box w (Obj.cells (kwL.map Value.string).toArray 9)
  go_enter Tryd.func57, Tryd.ntmps57
  go_wp2_with fail
  go_ret
  exact ⟨_, _, rfl, hst, hbx⟩

end Go.Proofs.YtklljdjeobifiaaDoor
