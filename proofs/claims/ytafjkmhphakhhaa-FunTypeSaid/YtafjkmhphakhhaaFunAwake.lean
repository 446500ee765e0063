/-
  The laws' own examples of layer 35 hold: awake returns true.
-/
import Derived.Test.YtafjkmhphakhhaaFunLen
namespace Go.Proofs.Ytafjkmhphakhhaa
open Go.ChangeShapes Go.WideShapes Go.ChangeAt Go.RowKit Go.Sort

def fitB : Nd → Bool
  | .mk k n s l => decide (k < 256) && decide (-9223372036854775808 ≤ n) && decide (n ≤ 9223372036854775807) && decide (s.size ≤ 9223372036854775807) && decide (l.length ≤ 9223372036854775807)
theorem fit_mk {x : Nd} (h : fitB x = true) (hk : ∀ (k : Nat) (y : Nd), x.kids[k]? = some y → NdFit y) : NdFit x := by
  obtain ⟨k, n, s, l⟩ := x
  simp [fitB] at h
  exact .mk h.1.1.1.1 ⟨h.1.1.1.2, h.1.1.2⟩ h.1.2 h.2 hk
theorem fit_none {x : Nd} (h : fitB x = true) (e : x.kids = []) : NdFit x := fit_mk h (fun k y hy => by rw [e] at hy; simp at hy)
theorem fit_one {x y0 : Nd} (h : fitB x = true) (e : x.kids = [y0]) (h0 : NdFit y0) : NdFit x := fit_mk h (fun k y hy => by
  rw [e] at hy
  match k, hy with
  | 0, hy => simp at hy; subst hy; exact h0
  | k + 1, hy => simp at hy)
theorem fit_two {x y0 y1 : Nd} (h : fitB x = true) (e : x.kids = [y0, y1]) (h0 : NdFit y0) (h1 : NdFit y1) : NdFit x := fit_mk h (fun k y hy => by
  rw [e] at hy
  match k, hy with
  | 0, hy => simp at hy; subst hy; exact h0
  | 1, hy => simp at hy; subst hy; exact h1
  | k + 2, hy => simp at hy)
theorem fit_three {x y0 y1 y2 : Nd} (h : fitB x = true) (e : x.kids = [y0, y1, y2]) (h0 : NdFit y0) (h1 : NdFit y1) (h2 : NdFit y2) : NdFit x := fit_mk h (fun k y hy => by
  rw [e] at hy
  match k, hy with
  | 0, hy => simp at hy; subst hy; exact h0
  | 1, hy => simp at hy; subst hy; exact h1
  | 2, hy => simp at hy; subst hy; exact h2
  | k + 3, hy => simp at hy)
theorem fit_xs : NdFit xsN := fit_none (by decide) rfl
theorem fit_body : NdFit lenBody := fit_three (by decide) rfl (fit_one (by decide) rfl fit_xs) (fit_none (by decide) rfl) (fit_two (by decide) rfl (fit_none (by decide) rfl) (fit_one (by decide) rfl (fit_one (by decide) rfl fit_xs)))
theorem len_get {k : Nat} {f : Fn1} (h : lenLib[k]? = some f) : k = 0 ∧ f = lenFn := by
  match k, h with
  | 0, h => simp [lenLib] at h; exact ⟨rfl, h.symm⟩
  | k + 1, h => simp [lenLib] at h
theorem len_fit : LibFit lenLib := ⟨by decide, fun k f h => by
  obtain ⟨_, rfl⟩ := len_get h
  exact ⟨by decide, ⟨by decide, fun k p hp => by
    match k, hp with
    | 0, hp => simp [lenFn] at hp; subst hp; decide
    | k + 1, hp => simp [lenFn] at hp⟩, fit_body⟩⟩
theorem len_few : FewParams lenLib := fun k f h => by obtain ⟨_, rfl⟩ := len_get h; decide
theorem len_size : sizeT lenBody = 9 := by decide
theorem len_nodes : FewNodes lenLib := fun k f h => by obtain ⟨_, rfl⟩ := len_get h; show sizeT lenBody ≤ _; rw [len_size]; omega
theorem len_find : findF lenLib ⟨#[108, 101, 110]⟩ 0 = 0 := by decide +kernel
theorem len_find' : findF lenLib ⟨#[110, 101, 108]⟩ 0 = -1 := by decide +kernel
theorem len_name : nameB ⟨#[108, 101, 110]⟩ = true := by decide +kernel
theorem xs_name : nameB ⟨#[120, 115]⟩ = true := by decide +kernel
theorem len_form : formT lenBody = true := by decide +kernel
theorem len_dep : depT lenBody = 5 := by decide
theorem len_chk : chkT lenLib lenBody (envF lenFn.params) = (false, 0) := by decide +kernel
theorem len_param : paramE lenFn.params = 0 := by
  unfold paramE
  rw [if_neg (by decide), if_neg, if_pos (by decide)]
  rintro ⟨p, hp, h⟩
  simp [lenFn] at hp; subst hp
  rw [xs_name] at h; cases h
theorem len_one : oneE lenLib 0 lenFn = 0 := by
  unfold oneE
  rw [if_neg (by decide), if_neg (by show ¬ nameB ⟨#[108, 101, 110]⟩ = false; rw [len_name]; simp), if_neg (by show ¬ findF lenLib ⟨#[108, 101, 110]⟩ 0 < _; rw [len_find]; omega), if_neg (fun h => h len_param), if_neg (by show ¬ formT lenBody = false; rw [len_form]; simp), if_neg (by show ¬ 80 < depT lenBody; rw [len_dep]; omega), if_neg (by show ¬ 2000 < sizeT lenBody; rw [len_size]; omega)]
  unfold chkE
  show (if (chkT lenLib lenBody (envF lenFn.params)).2 ≠ 0 then _ else if (chkT lenLib lenBody (envF lenFn.params)).1 ≠ false then _ else _) = _
  rw [len_chk]; rfl
theorem len_valid : validR lenLib = (-1, 0) := by
  unfold validR
  show vldL (oneK lenLib) 1 0 = _
  unfold vldL
  have : oneK lenLib 0 = 0 := len_one
  rw [this]; rfl
theorem len_calls : callsR lenLib 0 = [0] := by decide +kernel
theorem len_type : typeR lenLib 0 xsN = (true, 0) := by decide +kernel

set_option maxRecDepth 100000 in
set_option maxHeartbeats 1000000 in
theorem awake_any (w : World) :
    Calls Try.prog 11 #[] w fun e w' => e = .returned (.bool true) ∧ Below w.heap.size w w' := by
  go_enter Try.func11, Try.ntmps11
  go_wp2_with fail
  refine (length_any w).mono ?_
  rintro e w1 ⟨A1, c1, rfl, hL1, hb1⟩
  go_wp2_with fail
  refine (valid_any lenLib A1 c1 w1 hL1 len_fit len_few len_nodes).mono ?_
  rintro e w2 ⟨rfl, hb2⟩
  rw [len_valid]
  have q2 := Lib.hid (below_step hb1 hb1.size hb2)
  clear hL1 hb1 hb2
  go_wp2_with fail
  refine (length_any w2).mono ?_
  rintro e w3 ⟨A3, c3, rfl, hL3, hb3⟩
  go_wp2_with fail
  refine (calls_any lenLib A3 c3 0 w3 hL3 len_fit len_nodes).mono ?_
  rintro e w4 ⟨A4, c4, rfl, hI4, hb4⟩
  rw [len_calls] at hI4 ⊢
  obtain ⟨b4, o4, rfl, hc4⟩ := hI4 0 0 rfl
  have q4 := Lib.hid (below_step (below_step q2.out q2.out.size hb3) (by have := q2.out.size; have := hb3.size; omega) hb4)
  clear hL3 hb3 hb4 q2 hI4
  go_wp2_with fail
  refine (length_any w4).mono ?_
  rintro e w5 ⟨A5, c5, rfl, hL5, hb5⟩
  have hc5 := below_cell hb5 hc4
  have q5 := Lib.hid (below_step q4.out q4.out.size hb5)
  clear hc4 hb5 q4
  go_wp2_with fail
  refine (type_any lenLib A5 c5 0 xsN none 0 w5 hL5 len_fit len_few fit_xs (fun k x hk => by simp [xsN, Nd.kids] at hk) (by decide)).mono ?_
  rintro e w6 ⟨rfl, hb6⟩
  rw [len_type]
  have hc6 := below_cell hb6 hc5
  have q6 := Lib.hid (below_step q5.out q5.out.size hb6)
  clear hc5 hb6 q5 hL5
  rw [Nat.add_zero] at hc6
  go_wp2_with fail
  refine (length_any w6).mono ?_
  rintro e w7 ⟨A7, c7, rfl, hL7, hb7⟩
  have q7 := Lib.hid (below_step q6.out q6.out.size hb7)
  go_wp2_with fail
  refine (find_any lenLib A7 c7 ⟨#[108, 101, 110]⟩ w7 hL7 (by decide)).mono ?_
  rintro e w8 ⟨rfl, hb8⟩
  rw [len_find]
  have q8 := Lib.hid (below_step q7.out q7.out.size hb8)
  clear hc6 hb7 hb8 hL7 q6 q7
  go_wp2_with fail
  refine (length_any w8).mono ?_
  rintro e w9 ⟨A9, c9, rfl, hL9, hb9⟩
  have q9 := Lib.hid (below_step q8.out q8.out.size hb9)
  go_wp2_with fail
  refine (find_any lenLib A9 c9 ⟨#[110, 101, 108]⟩ w9 hL9 (by decide)).mono ?_
  rintro e w10 ⟨rfl, hb10⟩
  rw [len_find']
  have q10 := Lib.hid (below_step q9.out q9.out.size hb10)
  clear hb9 hb10 hL9 q8 q9
  go_wp2_with fail
  go_ret
  exact ⟨rfl, q10.out⟩

end Go.Proofs.Ytafjkmhphakhhaa
