/-
  The contract of lexer.Name.
-/
import Derived.Test.YtklljdjeobifiaaDoorScrName
import Derived.Test.YtklljdjeobifiaaDoorScrKw
namespace Go.Proofs.YtklljdjeobifiaaDoor
open Go.ChangeShapes Go.WideShapes Go.ChangeAt Go.RowKit Go.Sort

def bs (l : List UInt8) : ByteArray := ⟨l.toArray⟩
theorem bs_data (s : ByteArray) : bs s.data.toList = s := by unfold bs; simp
theorem data_bs (l : List UInt8) : (bs l).data.toList = l := by unfold bs; simp
theorem bs_size (l : List UInt8) : (bs l).size = l.length := by unfold bs; simp [ByteArray.size]
theorem size_len (s : ByteArray) : s.data.toList.length = s.size := by simp
theorem bs_inj {a b : List UInt8} (h : bs a = bs b) : a = b := by rw [← data_bs a, h, data_bs]
theorem kw_lists : kwL.map (fun x => x.data.toList) = kwW := by decide +kernel
theorem inL_contains (l : List ByteArray) (s : ByteArray) : inL l s = (l.map fun x => x.data.toList).contains s.data.toList := by
  unfold inL
  rw [Bool.eq_iff_iff, List.any_eq_true]
  simp only [decide_eq_true_eq, List.contains_iff_mem, List.mem_map]
  constructor
  · rintro ⟨x, hx, rfl⟩; exact ⟨x, hx, rfl⟩
  · rintro ⟨x, hx, e⟩
    refine ⟨x, hx, ?_⟩
    rw [← bs_data x, ← bs_data s, e]
theorem kwB_eq (s : ByteArray) : kwB s = kwW.contains s.data.toList := by
  have e : inL kwL s = kwW.contains s.data.toList := by rw [inL_contains, kw_lists]
  unfold kwB
  rw [← e]
  cases h : inL kwL s with
  | false => simp
  | true => have := kw_len h; simp [this]
theorem empty_iff (s : ByteArray) : s.toList.isEmpty = decide (s.size = 0) := by
  rw [ByteArray.toList_eq, Bool.eq_iff_iff]
  simp only [List.isEmpty_iff, decide_eq_true_eq]
  rw [← size_len]
  exact List.length_eq_zero_iff.symm
theorem spn_len {cls : UInt8 → Bool} : ∀ {l : List UInt8}, spn cls l = l.length ↔ l.all cls = true
  | [] => by simp [spn]
  | a :: r => by
    have ih := spn_len (cls := cls) (l := r)
    unfold spn at ih ⊢
    rw [List.takeWhile_cons]
    cases h : cls a with
    | false => simp [h]
    | true => simp [h]; simpa using ih
theorem nm_long {l : List UInt8} (h : 16 < l.length) : nmB l = false := by
  cases l with
  | nil => rfl
  | cons a r => unfold nmB; have : decide ((a :: r).length ≤ 16) = false := by simp at h ⊢; omega
                rw [this]; simp
theorem nm_cons {l : List UInt8} {a : UInt8} (h : l[0]? = some a) (h16 : l.length ≤ 16) : nmB l = (letB a && decide (spn (fun b => letB b || digB b) l = l.length) && !kwW.contains l) := by
  cases l with
  | nil => simp at h
  | cons b r =>
    simp at h; subst h
    have e : decide (spn (fun b => letB b || digB b) (b :: r) = (b :: r).length) = (b :: r).all (fun b => letB b || digB b) := by
      rw [Bool.eq_iff_iff, decide_eq_true_eq]; exact spn_len
    rw [e]
    unfold nmB
    have e2 : decide ((b :: r).length ≤ 16) = true := by simpa using h16
    simp only [e2, Bool.and_true]

/-- What lexer.first returns. -/
def RetFirst (x : Bool) (n : Nat) (w : World) (e : Ending) (w' : World) : Prop :=
  (x = true ∧ e = .returned (.tuple #[.int .u8 1, .int .i64 n]) ∨ x = false ∧ ∃ k n : Int, (k == 1) = false ∧ e = .returned (.tuple #[.int .u8 k, .int .i64 n])) ∧ w = w'

set_option maxRecDepth 100000 in
set_option maxHeartbeats 1000000 in
theorem first_any (s : ByteArray) (w : World) (h0 : 0 < s.size) (hs : s.size ≤ 9223372036854775807) :
    Calls Tryd.prog 58 #[.string s] w (RetFirst (letB s[0]) (spn (fun b => letB b || digB b) s.data.toList) w) := by
  have H1 := Lib.hid (letter_any s[0] w)
  have H2 := Lib.hid (digit_any s[0] w)
  have H3 := Lib.hid (blank_any s[0] w)
  have G1 := Lib.hid (span_wd s w hs)
  have G2 := Lib.hid (span_dg s w hs)
  have G3 := Lib.hid (span_bl s w hs)
  have G4 := Lib.hid (span_nl s w hs)
  have G5 := Lib.hid (sign_any s w h0 hs)
  generalize letB s[0] = x at *
  generalize digB s[0] = y at *
  cases x with
  | true =>
    go_enter Tryd.func58, Tryd.ntmps58
    go_wp2_with (first | (go_at_call 77; refine H1.out.mono ?_; rintro e w' ⟨rfl, rfl⟩) | (go_at_call 78; refine G1.out.mono ?_; rintro e w' ⟨rfl, rfl⟩))
    go_ret2
    exact ⟨.inl ⟨rfl, rfl⟩, rfl⟩
  | false =>
  cases y with
  | true =>
    go_enter Tryd.func58, Tryd.ntmps58
    go_wp2_with (first | (go_at_call 77; refine H1.out.mono ?_; rintro e w' ⟨rfl, rfl⟩) | (go_at_call 80; refine H2.out.mono ?_; rintro e w' ⟨rfl, rfl⟩) | (go_at_call 78; refine G2.out.mono ?_; rintro e w' ⟨m, rfl, rfl⟩))
    go_ret2
    exact ⟨.inr ⟨rfl, _, _, rfl, rfl⟩, rfl⟩
  | false =>
    go_enter Tryd.func58, Tryd.ntmps58
    go_wp2_with (first | (go_at_call 77; refine H1.out.mono ?_; rintro e w' ⟨rfl, rfl⟩) | (go_at_call 80; refine H2.out.mono ?_; rintro e w' ⟨rfl, rfl⟩))
    refine H3.out.mono ?_
    rintro e w' ⟨r, rfl, rfl⟩
    cases r with
    | true =>
      go_wp2_with (go_at_call 78; refine G3.out.mono ?_; rintro e w' ⟨m, rfl, rfl⟩)
      go_ret2
      exact ⟨.inr ⟨rfl, _, _, rfl, rfl⟩, rfl⟩
    | false =>
      have h35 : (((s[0].toNat : Nat) : Int) == 35) = true ∨ (((s[0].toNat : Nat) : Int) == 35) = false := by cases (((s[0].toNat : Nat) : Int) == 35) <;> simp
      rcases h35 with h35 | h35
      · go_wp2_with (go_at_call 78; refine G4.out.mono ?_; rintro e w' ⟨m, rfl, rfl⟩)
        go_ret2
        exact ⟨.inr ⟨rfl, _, _, rfl, rfl⟩, rfl⟩
      · go_wp2_with (go_at_call 83; refine G5.out.mono ?_; rintro e w' ⟨m, rfl, rfl⟩)
        go_ret2
        exact ⟨.inr ⟨rfl, _, _, rfl, rfl⟩, rfl⟩

set_option maxRecDepth 100000 in
theorem lname_any (s : ByteArray) (w : World) (hs : s.size ≤ 9223372036854775807) :
    Calls Tryd.prog 43 #[.string s] w fun e w' => e = .returned (.bool (nmB s.data.toList)) ∧ Below w.heap.size w w' := by
  by_cases h0 : s.size = 0
  · have he : s.toList.isEmpty = true := by rw [empty_iff]; simpa using h0
    have HE := Lib.hid (show nmB s.data.toList = false by
      have : s.data.toList = [] := List.length_eq_zero_iff.1 (by rw [size_len]; exact h0)
      rw [this]; rfl)
    clear h0
    go_enter Tryd.func43, Tryd.ntmps43
    go_wp2_with fail
    go_ret
    exact ⟨ret_bool HE.out.symm, Below.refl _ _⟩
  have he : s.toList.isEmpty = false := by rw [empty_iff]; simpa using h0
  by_cases h16 : 16 < s.size
  · have HE := Lib.hid (nm_long (l := s.data.toList) (by rw [size_len]; exact h16))
    go_enter Tryd.func43, Tryd.ntmps43
    go_wp2_with fail
    go_ret
    exact ⟨ret_bool HE.out.symm, Below.refl _ _⟩
  have h0' : 0 < s.size := by omega
  have HE := Lib.hid (nm_cons (l := s.data.toList) (byte_at s h0') (by rw [size_len]; omega))
  have HF := Lib.hid (first_any s w h0' hs)
  have HK := Lib.hid (keyword_any s w hs)
  rw [kwB_eq] at HK
  rw [size_len] at HE
  generalize letB s[0] = x at *
  generalize spn (fun b => letB b || digB b) s.data.toList = n at *
  generalize kwW.contains s.data.toList = kw at *
  go_enter Tryd.func43, Tryd.ntmps43
  go_wp2_with fail
  refine HF.out.mono ?_
  rintro e w' ⟨hr, rfl⟩
  rcases hr with ⟨rfl, rfl⟩ | ⟨rfl, k, m, hk, rfl⟩
  · by_cases hn : n = s.size
    · have hn1 : ((n : Int) == (s.size : Int)) = true := by rw [hn]; simp
      have HE2 := Lib.hid (HE.out.trans (by rw [hn]; simp : _ = !kw))
      clear HE hn
      go_wp2_with (go_at_call 59; refine HK.out.mono ?_; rintro e w' ⟨rfl, hb⟩)
      go_ret
      exact ⟨ret_bool HE2.out.symm, hb⟩
    · have hn1 : ((n : Int) == (s.size : Int)) = false := beq_eq_false_iff_ne.2 (by omega)
      have HE2 := Lib.hid (HE.out.trans (by simp [hn] : _ = false))
      clear HE hn
      go_wp2_with fail
      go_ret
      exact ⟨ret_bool HE2.out.symm, Below.refl _ _⟩
  · have HE2 := Lib.hid (HE.out.trans (by simp : _ = false))
    clear HE
    go_wp2_with fail
    go_ret
    exact ⟨ret_bool HE2.out.symm, Below.refl _ _⟩

end Go.Proofs.YtklljdjeobifiaaDoor
