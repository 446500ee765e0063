/-
  Names of layer 2: the contract of lexer.Name.
-/
import Derived.Test.YtklljdjeobifiaaDoorGMem
import Derived.Test.YtklljdjeobifiaaDoorScrP
import Derived.Test.YtklljdjeobifiaaDoorScrShelf
namespace Go.Proofs.YtklljdjeobifiaaDoor
open Go.ChangeShapes Go.WideShapes Go.ChangeAt Go.RowKit Go.Sort

def blkB (b : UInt8) : Bool := b == 32 || b == 9 || b == 13 || b == 10
theorem u8_eq (b : UInt8) (n : Nat) (hn : n < 256) : (b == UInt8.ofNat n) = ((b.toNat : Int) == (n : Int)) := by
  rw [Bool.eq_iff_iff, beq_iff_eq, beq_iff_eq]
  constructor
  · rintro rfl; rw [UInt8.toNat_ofNat']; omega
  · intro h; apply UInt8.toNat_inj.1; rw [UInt8.toNat_ofNat']; omega
theorem letter_any (b : UInt8) (w : World) :
    Calls Tryd.prog 77 #[.int .u8 b.toNat] w fun e w' => e = .returned (.bool (letB b)) ∧ w = w' := by
  by_cases h1 : 97 ≤ b.toNat
  · by_cases h2 : b.toNat ≤ 122
    · have HE := Lib.hid (show letB b = true by unfold letB; simp [h1, h2])
      go_enter Tryd.func77, Tryd.ntmps77
      go_wp2
      go_ret
      exact ⟨ret_bool (by first | (rw [HE.out]; done) | (rw [HE.out]; simp; done) | (rw [HE.out]; simp; omega)), rfl⟩
    · have HE := Lib.hid (show letB b = false by unfold letB; simp [h1, h2])
      go_enter Tryd.func77, Tryd.ntmps77
      go_wp2
      go_ret
      exact ⟨ret_bool (by first | (rw [HE.out]; done) | (rw [HE.out]; simp; done) | (rw [HE.out]; simp; omega)), rfl⟩
  · have HE := Lib.hid (show letB b = false by unfold letB; simp [h1])
    go_enter Tryd.func77, Tryd.ntmps77
    go_wp2
    go_ret
    exact ⟨ret_bool (by first | (rw [HE.out]; done) | (rw [HE.out]; simp; done) | (rw [HE.out]; simp; omega)), rfl⟩
theorem digit_any (b : UInt8) (w : World) :
    Calls Tryd.prog 80 #[.int .u8 b.toNat] w fun e w' => e = .returned (.bool (digB b)) ∧ w = w' := by
  by_cases h1 : 48 ≤ b.toNat
  · by_cases h2 : b.toNat ≤ 57
    · have HE := Lib.hid (show digB b = true by unfold digB; simp [h1, h2])
      go_enter Tryd.func80, Tryd.ntmps80
      go_wp2
      go_ret
      exact ⟨ret_bool (by first | (rw [HE.out]; done) | (rw [HE.out]; simp; done) | (rw [HE.out]; simp; omega)), rfl⟩
    · have HE := Lib.hid (show digB b = false by unfold digB; simp [h1, h2])
      go_enter Tryd.func80, Tryd.ntmps80
      go_wp2
      go_ret
      exact ⟨ret_bool (by first | (rw [HE.out]; done) | (rw [HE.out]; simp; done) | (rw [HE.out]; simp; omega)), rfl⟩
  · have HE := Lib.hid (show digB b = false by unfold digB; simp [h1])
    go_enter Tryd.func80, Tryd.ntmps80
    go_wp2
    go_ret
    exact ⟨ret_bool (by first | (rw [HE.out]; done) | (rw [HE.out]; simp; done) | (rw [HE.out]; simp; omega)), rfl⟩
/-- A function on bytes. -/
def ByteFn (F : FuncId) : Prop := ∀ (b : UInt8) (w : World), Calls Tryd.prog F #[.int .u8 b.toNat] w fun e w' => ∃ r : Bool, e = .returned (.bool r) ∧ w = w'
theorem blank_any : ByteFn 81 := by
  intro b w
  have h1 : ((b.toNat : Int) == 32) = true ∨ ((b.toNat : Int) == 32) = false := by cases ((b.toNat : Int) == 32) <;> simp
  have h2 : ((b.toNat : Int) == 9) = true ∨ ((b.toNat : Int) == 9) = false := by cases ((b.toNat : Int) == 9) <;> simp
  have h3 : ((b.toNat : Int) == 13) = true ∨ ((b.toNat : Int) == 13) = false := by cases ((b.toNat : Int) == 13) <;> simp
  rcases h1 with h1 | h1 <;> rcases h2 with h2 | h2 <;> rcases h3 with h3 | h3
  all_goals
    go_enter Tryd.func81, Tryd.ntmps81
    go_wp2
    go_ret
    exact ⟨_, rfl, rfl⟩
theorem nl_any : ByteFn 82 := by
  intro b w
  go_enter Tryd.func82, Tryd.ntmps82
  go_wp2
  go_ret
  exact ⟨_, rfl, rfl⟩
theorem wd_any (b : UInt8) (w : World) :
    Calls Tryd.prog 79 #[.int .u8 b.toNat] w fun e w' => e = .returned (.bool (letB b || digB b)) ∧ w = w' := by
  have H1 := Lib.hid (letter_any b w)
  have H2 := Lib.hid (digit_any b w)
  generalize letB b = x at *
  generalize digB b = y at *
  cases x
  all_goals
    go_enter Tryd.func79, Tryd.ntmps79
    go_wp2_with (first | (go_at_call 77; refine H1.out.mono ?_; rintro e w' ⟨rfl, rfl⟩) | (go_at_call 80; refine H2.out.mono ?_; rintro e w' ⟨rfl, rfl⟩))
    go_ret
    exact ⟨by simp, rfl⟩

def spn (cls : UInt8 → Bool) (l : List UInt8) : Nat := (l.takeWhile cls).length
/-- All of the first k bytes are in the class. -/
theorem spn_stop {cls : UInt8 → Bool} : ∀ {l : List UInt8} {k : Nat} {b : UInt8}, (∀ j x, j < k → l[j]? = some x → cls x = true) → l[k]? = some b → cls b = false → spn cls l = k
  | [], k, b, _, hb, _ => by simp at hb
  | a :: r, 0, b, _, hb, hc => by
    simp at hb; subst hb
    unfold spn; rw [List.takeWhile_cons, if_neg (by rw [hc]; simp)]; rfl
  | a :: r, k + 1, b, h, hb, hc => by
    have h0 := h 0 a (by omega) rfl
    have ih := spn_stop (l := r) (k := k) (fun j x hj hx => h (j + 1) x (by omega) (by simpa using hx)) (by simpa using hb) hc
    unfold spn at ih ⊢
    rw [List.takeWhile_cons, if_pos h0, List.length_cons, ih]
theorem spn_all {cls : UInt8 → Bool} : ∀ {l : List UInt8}, (∀ x ∈ l, cls x = true) → spn cls l = l.length
  | [], _ => rfl
  | a :: r, h => by
    have ih := spn_all (l := r) (fun x hx => h x (by simp [hx]))
    unfold spn at ih ⊢
    rw [List.takeWhile_cons, if_pos (h a (by simp)), List.length_cons, ih]; rfl
theorem byte_at (s : ByteArray) {k : Nat} (h : k < s.size) : s.data.toList[k]? = some s[k] := by
  rw [List.getElem?_eq_getElem (by simpa using h)]; rfl

set_option maxRecDepth 100000 in
theorem span_wd (s : ByteArray) (w : World) (hs : s.size ≤ 9223372036854775807) :
    Calls Tryd.prog 78 #[.string s, .func (.func 79) #[] #[]] w fun e w' => e = .returned (.int .i64 (spn (fun b => letB b || digB b) s.data.toList)) ∧ w = w' := by
  go_enter Tryd.func78, Tryd.ntmps78
  go_wp2_with fail
  go_loop [8] (fun i => ∃ k : Nat, k ≤ s.size ∧ i = .int .i64 k ∧ Hid (∀ j x, j < k → s.data.toList[j]? = some x → (letB x || digB x) = true)) (fun i => s.size - (intOf i).toNat)
  case atStart => exact ⟨0, by omega, rfl, fun j x hj => by omega⟩
  case round =>
    obtain ⟨k, hk, rfl, hall⟩ := hrel
    by_cases hin : k < s.size
    · have HB := Lib.hid (byte_at s hin)
      have HC := Lib.hid (wd_any s[k] w)
      generalize hx : (letB s[k] || digB s[k]) = x at *
      have HX := Lib.hid hx
      clear hx
      cases x with
      | false =>
        have HE := Lib.hid (spn_stop (cls := fun b => letB b || digB b) hall.out HB.out HX.out)
        go_wp2_with (go_at_call 79; refine HC.out.mono ?_; rintro e w' ⟨rfl, rfl⟩)
        go_ret
        exact ⟨ret_i64 (by rw [HE.out]), rfl⟩
      | true =>
        have HN := Lib.hid (fun (j : Nat) (y : UInt8) (hj : j < k + 1) (hy : s.data.toList[j]? = some y) => show (letB y || digB y) = true from by
          by_cases e : j = k
          · subst e; rw [HB.out] at hy; cases hy; exact HX.out
          · exact hall.out j y (by omega) hy)
        go_wp2_with (go_at_call 79; refine HC.out.mono ?_; rintro e w' ⟨rfl, rfl⟩)
        exact ⟨⟨k + 1, by omega, by go_num, HN⟩, by simp [intOf]; omega⟩
    · have HE := Lib.hid (spn_all (cls := fun b => letB b || digB b) (l := s.data.toList) (fun y hy => by
        obtain ⟨j, hj⟩ := List.getElem?_of_mem hy
        have := (List.getElem?_eq_some_iff.1 hj).1
        exact hall.out j y (by have e : s.data.toList.length = s.size := by simp
                               omega) hj))
      go_wp2_with fail
      go_ret
      exact ⟨ret_i64 (by rw [HE.out]; simp), rfl⟩

theorem digit_fn : ByteFn 80 := fun b w => (digit_any b w).mono fun _ _ h => ⟨_, h.1, h.2⟩
/-- Any integer. -/
def SomeI (w : World) (e : Ending) (w' : World) : Prop := ∃ n : Int, e = .returned (.int .i64 n) ∧ w = w'
set_option maxRecDepth 100000 in
theorem span_dg (s : ByteArray) (w : World) (hs : s.size ≤ 9223372036854775807) :
    Calls Tryd.prog 78 #[.string s, .func (.func 80) #[] #[]] w (SomeI w) := by
  go_enter Tryd.func78, Tryd.ntmps78
  go_wp2_with fail
  go_loop [8] (fun i => ∃ k : Nat, k ≤ s.size ∧ i = .int .i64 k) (fun i => s.size - (intOf i).toNat)
  case atStart => exact ⟨0, by omega, rfl⟩
  case round =>
    obtain ⟨k, hk, rfl⟩ := hrel
    by_cases hin : k < s.size
    · have HC := Lib.hid (digit_fn s[k] w)
      go_wp2_with (go_at_call 80; refine HC.out.mono ?_; rintro e w' ⟨r, rfl, rfl⟩)
      all_goals first
        | exact ⟨⟨k + 1, by omega, by go_num⟩, by simp [intOf]; omega⟩
        | (go_ret; exact ⟨_, rfl, rfl⟩)
    · go_wp2_with fail
      go_ret
      exact ⟨_, rfl, rfl⟩
set_option maxRecDepth 100000 in
theorem span_bl (s : ByteArray) (w : World) (hs : s.size ≤ 9223372036854775807) :
    Calls Tryd.prog 78 #[.string s, .func (.func 81) #[] #[]] w (SomeI w) := by
  go_enter Tryd.func78, Tryd.ntmps78
  go_wp2_with fail
  go_loop [8] (fun i => ∃ k : Nat, k ≤ s.size ∧ i = .int .i64 k) (fun i => s.size - (intOf i).toNat)
  case atStart => exact ⟨0, by omega, rfl⟩
  case round =>
    obtain ⟨k, hk, rfl⟩ := hrel
    by_cases hin : k < s.size
    · have HC := Lib.hid (blank_any s[k] w)
      go_wp2_with (go_at_call 81; refine HC.out.mono ?_; rintro e w' ⟨r, rfl, rfl⟩)
      all_goals first
        | exact ⟨⟨k + 1, by omega, by go_num⟩, by simp [intOf]; omega⟩
        | (go_ret; exact ⟨_, rfl, rfl⟩)
    · go_wp2_with fail
      go_ret
      exact ⟨_, rfl, rfl⟩
set_option maxRecDepth 100000 in
theorem span_nl (s : ByteArray) (w : World) (hs : s.size ≤ 9223372036854775807) :
    Calls Tryd.prog 78 #[.string s, .func (.func 82) #[] #[]] w (SomeI w) := by
  go_enter Tryd.func78, Tryd.ntmps78
  go_wp2_with fail
  go_loop [8] (fun i => ∃ k : Nat, k ≤ s.size ∧ i = .int .i64 k) (fun i => s.size - (intOf i).toNat)
  case atStart => exact ⟨0, by omega, rfl⟩
  case round =>
    obtain ⟨k, hk, rfl⟩ := hrel
    by_cases hin : k < s.size
    · have HC := Lib.hid (nl_any s[k] w)
      go_wp2_with (go_at_call 82; refine HC.out.mono ?_; rintro e w' ⟨r, rfl, rfl⟩)
      all_goals first
        | exact ⟨⟨k + 1, by omega, by go_num⟩, by simp [intOf]; omega⟩
        | (go_ret; exact ⟨_, rfl, rfl⟩)
    · go_wp2_with fail
      go_ret
      exact ⟨_, rfl, rfl⟩

set_option maxRecDepth 100000 in
set_option maxHeartbeats 1000000 in
theorem sign_any (s : ByteArray) (w : World) (h0 : 0 < s.size) (hs : s.size ≤ 9223372036854775807) :
    Calls Tryd.prog 83 #[.string s] w (SomeI w) := by
  have HP := Lib.hid (Tryd.strings_HasPrefix s ⟨#[60, 61, 62]⟩ w)
  have HX := Lib.hid (fun c => Tryd.strings_IndexByte ⟨#[43, 45, 42, 47, 37, 38, 124, 94, 33, 61, 60, 62, 40, 41, 123, 125, 91, 93, 59, 44]⟩ c w)
  generalize hp : Lib.hasPrefix s.data.toList _ = p at *
  clear hp
  cases p with
  | true =>
    go_enter Tryd.func83, Tryd.ntmps83
    go_wp2_with (go_at_call 94; refine HP.out.mono ?_; rintro e w' ⟨rfl, rfl⟩)
    go_ret
    exact ⟨_, rfl, rfl⟩
  | false =>
  by_cases h1 : s.size = 1
  all_goals
    go_enter Tryd.func83, Tryd.ntmps83
    go_wp2_with (first | (go_at_call 94; refine HP.out.mono ?_; rintro e w' ⟨rfl, rfl⟩) | (go_at_call 64; refine (HX.out _).mono ?_; rintro e w' ⟨rfl, rfl⟩))
    all_goals
      go_ret
      exact ⟨_, rfl, rfl⟩

end Go.Proofs.YtklljdjeobifiaaDoor
