/-
  The contracts of funeval.Steps and Height.
-/
import Derived.Test.YtoankdaddgjnlaaFevMem
import Derived.Test.YtoankdaddgjnlaaFevFuel
import Derived.Test.YtoankdaddgjnlaaFunVT
namespace Go.Proofs.Ytoankdaddgjnlaa
open Go.ChangeShapes Go.WideShapes Go.ChangeAt Go.RowKit Go.Sort Go.Maps

theorem stepsT_eq (t : Tr) : stepsT t = 1 + stepsL t.calls := by cases t; rw [stepsT]; rfl
theorem highT_eq (t : Tr) : highT t = highL t.calls + 1 := by cases t; rw [highT]; rfl
theorem stepsL_step {l : List Tr} {k : Nat} (h : k < l.length) : stepsL (l.take (k + 1)) = stepsL (l.take k) + stepsT l[k] := by
  rw [List.take_succ_eq_append_getElem h, stepsL_append, stepsL, stepsL]; omega
theorem highL_step {l : List Tr} {k : Nat} (h : k < l.length) : highL (l.take (k + 1)) = max (highL (l.take k)) (highT l[k]) := by
  rw [List.take_succ_eq_append_getElem h, highL_append, highL, highL]; omega
theorem stepsL_le {l : List Tr} (k : Nat) : stepsL (l.take k) ≤ stepsL l := by
  have := stepsL_append (l.take k) (l.drop k)
  rw [List.take_append_drop] at this; omega
theorem high_steps : ∀ (n : Nat) (t : Tr), SizeOf.sizeOf t ≤ n → highT t ≤ stepsT t
  | 0, t, h => by cases t; simp at h
  | n + 1, .mk f a r c, h => by
    rw [highT, stepsT]
    have : ∀ l : List Tr, (∀ t ∈ l, SizeOf.sizeOf t ≤ n) → highL l ≤ stepsL l := by
      intro l
      induction l with
      | nil => intro _; rw [highL]; omega
      | cons x r ih =>
        intro hl
        rw [highL, stepsL]
        have h1 := high_steps n x (hl x (by simp))
        have h2 := ih (fun t ht => hl t (by simp [ht]))
        omega
    have := this c (fun t ht => by have := List.sizeOf_lt_of_mem ht; simp at h; omega)
    omega
theorem kid_le {t : Tr} {k : Nat} {y : Tr} (h : t.calls[k]? = some y) : SizeOf.sizeOf y < SizeOf.sizeOf t := by
  obtain ⟨f, a, r, c⟩ := t
  have := List.sizeOf_lt_of_mem (List.mem_of_getElem? (show c[k]? = some y from h))
  simp; omega
theorem TrsX.kid {w : World} {X : Nat → Prop} {A : Option Addr} {l : List Tr} (h : TrsX w X A l) {k : Nat} (hk : k < l.length) : ∃ b o Aa ca AL cL Ac cc, A = some ⟨b, o, none⟩ ∧ b < w.heap.size ∧ w.cell? ⟨b, o + k * 6, none⟩ = some (.int .i64 l[k].func) ∧ w.cell? ⟨b, o + k * 6 + 1, none⟩ = some (.slice Aa l[k].args.length ca) ∧ w.cell? ⟨b, o + k * 6 + 2, none⟩ = some (.bool l[k].res.list) ∧ w.cell? ⟨b, o + k * 6 + 3, none⟩ = some (.int .i64 l[k].res.n) ∧ w.cell? ⟨b, o + k * 6 + 4, none⟩ = some (.slice AL l[k].res.l.length cL) ∧ w.cell? ⟨b, o + k * 6 + 5, none⟩ = some (.slice Ac l[k].calls.length cc) ∧ VlsX w X Aa l[k].args ∧ IntsC w X AL cL l[k].res.l ∧ TrsX w X Ac l[k].calls := by
  obtain ⟨b, o, e, ht⟩ := h k _ (List.getElem?_eq_getElem hk)
  obtain ⟨cs, ⟨Aa, ca, AL, cL, Ac, cc, rfl, h1, h2, h3⟩, _, hc⟩ := ht.open_
  have c0 := hc 0 _ rfl
  exact ⟨b, o, Aa, ca, AL, cL, Ac, cc, e, block_lt_of_cell c0, c0, hc 1 _ rfl, hc 2 _ rfl, hc 3 _ rfl, hc 4 _ rfl, hc 5 _ rfl, h1, h2, h3⟩
theorem TrsX.below {w w' : World} {X : Nat → Prop} {A : Option Addr} {l : List Tr} (h : TrsX w X A l) (hb : Below w.heap.size w w') : TrsX w' X A l := h.le (Le.of_fr (Fr.of_below hb (fun _ => False)) (fun _ _ e => e.elim) fun _ _ e => e)

set_option maxRecDepth 100000 in
set_option maxHeartbeats 1000000 in
theorem steps_any (X : Nat → Prop) (N : Nat) : ∀ (t : Tr), SizeOf.sizeOf t ≤ N → stepsT t ≤ 4611686018427387904 → ∀ (tf : Int) (Aa : Option Addr) (na ca : Nat) (b : Bool) (m : Int) (AL : Option Addr) (nl cL : Nat) (Ac : Option Addr) (cc : Nat) (w : World), TrsX w X Ac t.calls →
    Calls Try.prog 11 #[.agg #[.int .i64 tf, .slice Aa na ca, .bool b, .int .i64 m, .slice AL nl cL, .slice Ac t.calls.length cc]] w fun e w' => e = .returned (.int .i64 (stepsT t)) ∧ Below w.heap.size w w' := by
  induction N with
  | zero => intro t ht; exfalso; cases t; simp at ht
  | succ N ih =>
    intro t ht hS tf Aa na ca b m AL nl cL Ac cc w hK
    have hbW := below_box w (Obj.cells #[.int .i64 tf, .slice Aa na ca, .bool b, .int .i64 m, .slice AL nl cL, .slice Ac t.calls.length cc] 50)
    have hse := stepsT_eq t
    have HSE := Lib.hid hse
    have hsl : stepsL t.calls ≤ 4611686018427387903 := by omega
    have hlen : t.calls.length ≤ stepsL t.calls := by
      generalize t.calls = c
      induction c with
      | nil => simp
      | cons x r ih => cases x; rw [stepsL, stepsT, List.length_cons]; omega
    have HK := Lib.hid (hK.below hbW)
    clear hK hse
    go_enter Try.func11, Try.ntmps11
    go_wp2_with fail
    generalize w.alloc _ = W at hbW HK ⊢
    go_loopw [3, 9] (fun d i wr => ∃ k : Nat, k ≤ t.calls.length ∧ i = .int .i64 k ∧ d = .int .i64 ((1 + stepsL (t.calls.take k) : Nat) : Int) ∧ Below W.heap.size W wr) (fun _ i _ => t.calls.length - (intOf i).toNat)
    case atStart => exact ⟨0, by omega, rfl, by simp [stepsL], Below.refl _ _⟩
    case round =>
      obtain ⟨k, hk, rfl, rfl, hb⟩ := hrel
      by_cases hin : k < t.calls.length
      · have hz1 := stepsL_step hin
        have hle := stepsL_le (l := t.calls) (k + 1)
        obtain ⟨kb, ko, Aa', ca', AL', cL', Ac', cc', rfl, hlt, c0, c1, c2, c3, c4, c5, _, _, hK'⟩ := (HK.out.below hb).kid hin
        have hsz := kid_le (List.getElem?_eq_getElem hin)
        generalize t.calls[k] = y at *
        have HZ1 := Lib.hid hz1
        have hb1 : stepsL (t.calls.take k) + stepsT y ≤ 4611686018427387903 := by omega
        have bb := below_box wr (Obj.cells #[.int .i64 y.func, .slice Aa' y.args.length ca', .bool y.res.list, .int .i64 y.res.n, .slice AL' y.res.l.length cL', .slice Ac' y.calls.length cc'] 50)
        have HK2 := Lib.hid (hK'.below bb)
        have q2 := below_step hb hb.size bb
        clear hz1 hle hK'
        go_wp2_with fail
        generalize wr.alloc _ = W2 at HK2 q2 ⊢
        refine (ih y (by omega) (by omega) _ _ _ _ _ _ _ _ _ _ _ W2 HK2.out).mono ?_
        rintro e w3 ⟨rfl, hb3⟩
        have q3 := below_step q2 q2.size hb3
        generalize stepsL (t.calls.take k) = d0 at *
        generalize stepsT y = d1 at *
        go_wp2_with fail
        all_goals exact ⟨⟨k + 1, by omega, by go_num, by rw [HZ1.out]; congr 1; omega, q3⟩, by simp [intOf]; omega⟩
      · obtain rfl : k = t.calls.length := by omega
        rw [List.take_length]
        have q := below_step hbW hbW.size hb
        go_wp2_with fail
        go_ret
        refine ⟨?_, q⟩
        rw [HSE.out]
        rfl

set_option maxRecDepth 100000 in
set_option maxHeartbeats 1000000 in
theorem height_any (X : Nat → Prop) (N : Nat) : ∀ (t : Tr), SizeOf.sizeOf t ≤ N → stepsT t ≤ 4611686018427387904 → ∀ (tf : Int) (Aa : Option Addr) (na ca : Nat) (b : Bool) (m : Int) (AL : Option Addr) (nl cL : Nat) (Ac : Option Addr) (cc : Nat) (w : World), TrsX w X Ac t.calls →
    Calls Try.prog 12 #[.agg #[.int .i64 tf, .slice Aa na ca, .bool b, .int .i64 m, .slice AL nl cL, .slice Ac t.calls.length cc]] w fun e w' => e = .returned (.int .i64 (highT t)) ∧ Below w.heap.size w w' := by
  induction N with
  | zero => intro t ht; exfalso; cases t; simp at ht
  | succ N ih =>
    intro t ht hS tf Aa na ca b m AL nl cL Ac cc w hK
    have hbW := below_box w (Obj.cells #[.int .i64 tf, .slice Aa na ca, .bool b, .int .i64 m, .slice AL nl cL, .slice Ac t.calls.length cc] 50)
    have hse := stepsT_eq t
    have HSE := Lib.hid (highT_eq t)
    have hhs := high_steps _ t (Nat.le_refl _)
    have hsl : stepsL t.calls ≤ 4611686018427387903 := by omega
    have hhl : highL t.calls ≤ 4611686018427387903 := by have := highT_eq t; omega
    have hlen : t.calls.length ≤ stepsL t.calls := by
      generalize t.calls = c
      induction c with
      | nil => simp
      | cons x r ih => cases x; rw [stepsL, stepsT, List.length_cons]; omega
    have HK := Lib.hid (hK.below hbW)
    clear hK hse
    go_enter Try.func12, Try.ntmps12
    go_wp2_with fail
    generalize w.alloc _ = W at hbW HK ⊢
    go_loopw [3, 9] (fun d i wr => ∃ k : Nat, k ≤ t.calls.length ∧ i = .int .i64 k ∧ d = .int .i64 (highL (t.calls.take k)) ∧ Below W.heap.size W wr) (fun _ i _ => t.calls.length - (intOf i).toNat)
    case atStart => exact ⟨0, by omega, rfl, by simp [highL], Below.refl _ _⟩
    case round =>
      obtain ⟨k, hk, rfl, rfl, hb⟩ := hrel
      by_cases hin : k < t.calls.length
      · have hz1 := highL_step hin
        have hz2 := stepsL_step hin
        have hle := stepsL_le (l := t.calls) (k + 1)
        obtain ⟨kb, ko, Aa', ca', AL', cL', Ac', cc', rfl, hlt, c0, c1, c2, c3, c4, c5, _, _, hK'⟩ := (HK.out.below hb).kid hin
        have hsz := kid_le (List.getElem?_eq_getElem hin)
        generalize t.calls[k] = y at *
        have HZ1 := Lib.hid hz1
        have bb := below_box wr (Obj.cells #[.int .i64 y.func, .slice Aa' y.args.length ca', .bool y.res.list, .int .i64 y.res.n, .slice AL' y.res.l.length cL', .slice Ac' y.calls.length cc'] 50)
        have HK2 := Lib.hid (hK'.below bb)
        have q2 := below_step hb hb.size bb
        have hSy : stepsT y ≤ 4611686018427387904 := by omega
        clear hz1 hz2 hle hK'
        go_wp2_with fail
        generalize wr.alloc _ = W2 at HK2 q2 ⊢
        refine (ih y (by omega) hSy _ _ _ _ _ _ _ _ _ _ _ W2 HK2.out).mono ?_
        rintro e w3 ⟨rfl, hb3⟩
        have q3 := below_step q2 q2.size hb3
        generalize highL (t.calls.take k) = d0 at *
        generalize highT y = d1 at *
        go_wp2_with fail
        all_goals exact ⟨⟨k + 1, by omega, by go_num, by rw [HZ1.out]; congr 1; omega, q3⟩, by simp [intOf]; omega⟩
      · obtain rfl : k = t.calls.length := by omega
        rw [List.take_length]
        have q := below_step hbW hbW.size hb
        go_wp2_with fail
        go_ret
        refine ⟨?_, q⟩
        rw [HSE.out]
        rfl

end Go.Proofs.Ytoankdaddgjnlaa
