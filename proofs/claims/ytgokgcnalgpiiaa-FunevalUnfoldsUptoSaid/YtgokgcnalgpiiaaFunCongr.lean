/-
  Type checking depends on the library only through what the called names stand for (plain).
-/
import Derived.Test.YtgokgcnalgpiiaaFunVld
import Derived.Test.YtgokgcnalgpiiaaFunCallsP
namespace Go.Proofs.Ytgokgcnalgpiiaa

/-- What a name stands for: the types of the parameters and of the result. -/
def sigF (lib : List Fn1) (s : ByteArray) : Option (List Bool × Bool) := if findF lib s 0 < 0 then none else (lib[(findF lib s 0).toNat]?).map fun f => (f.params.map Pm.list, f.list)
mutual
def namesT : Nd → List ByteArray
  | .mk kind _ name kids => (if kind = 85 then [name] else []) ++ namesTL kids
def namesTL : List Nd → List ByteArray
  | [] => []
  | y :: r => namesT y ++ namesTL r
end
theorem sig_get {lib : List Fn1} {s : ByteArray} : (findF lib s 0 < 0 ∧ sigF lib s = none) ∨ ∃ f, 0 ≤ findF lib s 0 ∧ lib[(findF lib s 0).toNat]? = some f ∧ sigF lib s = some (f.params.map Pm.list, f.list) := by
  rcases findF_range s lib 0 with e | ⟨i, h1, h2, h3, h4⟩
  · exact .inl ⟨by rw [e]; omega, by unfold sigF; rw [if_pos (by rw [e]; omega)]⟩
  · have hn : (findF lib s 0).toNat = i := by rw [h2]; omega
    refine .inr ⟨lib[i], by rw [h2]; omega, by rw [hn]; exact List.getElem?_eq_getElem h1, ?_⟩
    unfold sigF
    rw [if_neg (by rw [h2]; omega), hn, List.getElem?_eq_getElem h1]; rfl
theorem reach_sig {lib lib' : List Fn1} {env : ByteArray → Option Bool} {x : Nd} (h : x.kind = 85 → sigF lib x.name = sigF lib' x.name) : reachE lib env x = reachE lib' env x := by
  unfold reachE
  by_cases h1 : x.kind = 81
  · rw [if_pos h1, if_pos h1]
  rw [if_neg h1, if_neg h1]
  by_cases h2 : x.kind = 84
  · rw [if_pos h2, if_pos h2]
  rw [if_neg h2, if_neg h2]
  by_cases h3 : x.kind = 85
  · rw [if_pos h3, if_pos h3]
    have hs := h h3
    rcases sig_get (lib := lib) (s := x.name) with ⟨a1, a2⟩ | ⟨f, a1, a2, a3⟩ <;> rcases sig_get (lib := lib') (s := x.name) with ⟨b1, b2⟩ | ⟨g, b1, b2, b3⟩
    · rw [if_pos a1, if_pos b1]
    · rw [a2, b3] at hs; cases hs
    · rw [a3, b2] at hs; cases hs
    · rw [a3, b3] at hs
      simp at hs
      rw [if_neg (show ¬ findF lib x.name 0 < 0 by omega), if_neg (show ¬ findF lib' x.name 0 < 0 by omega), a2, b2]
      have : f.params.length = g.params.length := by have := congrArg List.length hs.1; simpa using this
      simp [this]
  · rw [if_neg h3, if_neg h3]
theorem res_sig {lib lib' : List Fn1} {x : Nd} {ts : List Bool} (h : x.kind = 85 → sigF lib x.name = sigF lib' x.name ∧ 0 ≤ findF lib x.name 0) : resR lib x ts = resR lib' x ts := by
  unfold resR
  congr 1
  unfold wantR
  by_cases h3 : x.kind = 85
  · have hs := h h3
    rw [if_neg (by omega), if_neg (by omega), if_neg (by omega), if_pos h3, if_neg (by omega), if_neg (by omega), if_neg (by omega), if_pos h3]
    rcases sig_get (lib := lib) (s := x.name) with ⟨a1, a2⟩ | ⟨f, a1, a2, a3⟩ <;> rcases sig_get (lib := lib') (s := x.name) with ⟨b1, b2⟩ | ⟨g, b1, b2, b3⟩
    · omega
    · omega
    · rw [a3, b2] at hs; cases hs.1
    · rw [a3, b3] at hs
      simp at hs
      rw [a2, b2]
      simp [hs.1]
  · rw [if_neg h3, if_neg h3]
mutual
theorem chk_sig {lib lib' : List Fn1} : ∀ (x : Nd) (env : ByteArray → Option Bool), (∀ s ∈ namesT x, sigF lib s = sigF lib' s) → chkT lib x env = chkT lib' x env
  | .mk kind num name kids, env, h => by
    have h1 : (Nd.mk kind num name kids).kind = 85 → sigF lib name = sigF lib' name := fun e => h name (by have e' : kind = 85 := e; rw [namesT, if_pos e']; simp)
    have h2 : ∀ s ∈ namesTL kids, sigF lib s = sigF lib' s := fun s hs => h s (by rw [namesT]; simp [hs])
    rw [chkT, chkT, reach_sig (lib := lib) (lib' := lib') h1, chk_sigL kids env kind name 0 [] h2]
    by_cases h3 : reachE lib' env (.mk kind num name kids) = 0
    · have h6 : resR lib (.mk kind num name kids) (chkTL lib' kids env kind name 0 []).1 = resR lib' (.mk kind num name kids) (chkTL lib' kids env kind name 0 []).1 := res_sig (fun e => ⟨h1 e, by
        have h4 : 0 ≤ findF lib' name 0 := (reach85 h3 e).1
        have h5 : sigF lib name = sigF lib' name := h1 e
        show 0 ≤ findF lib name 0
        rcases sig_get (lib := lib) (s := name) with ⟨a1, a2⟩ | ⟨f, a1, a2, a3⟩
        · rcases sig_get (lib := lib') (s := name) with ⟨b1, b2⟩ | ⟨g, b1, b2, b3⟩
          · omega
          · rw [a2, b3] at h5; cases h5
        · exact a1⟩)
      rw [h6]
    · rw [if_pos h3, if_pos h3]
theorem chk_sigL {lib lib' : List Fn1} : ∀ (l : List Nd) (env : ByteArray → Option Bool) (kind : Nat) (name : ByteArray) (i : Nat) (ts : List Bool), (∀ s ∈ namesTL l, sigF lib s = sigF lib' s) → chkTL lib l env kind name i ts = chkTL lib' l env kind name i ts
  | [], _, _, _, _, _, _ => rfl
  | y :: r, env, kind, name, i, ts, h => by
    have h1 : ∀ s ∈ namesT y, sigF lib s = sigF lib' s := fun s hs => h s (by rw [namesTL]; simp [hs])
    have h2 : ∀ s ∈ namesTL r, sigF lib s = sigF lib' s := fun s hs => h s (by rw [namesTL]; simp [hs])
    rw [chkTL, chkTL, chk_sig y _ h1, chk_sigL r _ _ _ _ _ h2]
end

/-! ### One function more -/
theorem findF_hit {f : Fn1} {r : List Fn1} {s : ByteArray} {k : Nat} (h : (f.name.toList == s.toList) = true) : findF (f :: r) s k = k := by unfold findF; rw [if_pos h]
theorem findF_miss {f : Fn1} {r : List Fn1} {s : ByteArray} {k : Nat} (h : ¬ (f.name.toList == s.toList) = true) : findF (f :: r) s k = findF r s (k + 1) := by rw [findF, if_neg h]
theorem findF_snoc (s : ByteArray) (z : Fn1) : ∀ (l : List Fn1) (k : Nat), findF (l ++ [z]) s k = if 0 ≤ findF l s k then findF l s k else if z.name = s then ((k + l.length : Nat) : Int) else -1
  | [], k => by
    have e0 : findF [] s k = -1 := rfl
    rw [List.nil_append, e0, if_neg (show ¬ (0 : Int) ≤ -1 by omega)]
    by_cases h : z.name = s
    · rw [findF_hit (eqS_iff.2 h), if_pos h]; simp
    · rw [findF_miss (fun e => h (eqS_iff.1 e)), if_neg h]; rfl
  | f :: r, k => by
    rw [List.cons_append]
    by_cases h : (f.name.toList == s.toList) = true
    · rw [findF_hit h, findF_hit h, if_pos (show (0 : Int) ≤ (k : Int) by omega)]
    · rw [findF_miss h, findF_miss h, findF_snoc s z r (k + 1)]
      have : ((k + 1 + r.length : Nat) : Int) = ((k + (f :: r).length : Nat) : Int) := by simp; omega
      rw [this]
theorem find_snoc_ne {l : List Fn1} {s : ByteArray} {z : Fn1} (h : z.name ≠ s) : findF (l ++ [z]) s 0 = findF l s 0 := by
  rw [findF_snoc]
  by_cases h0 : 0 ≤ findF l s 0
  · rw [if_pos h0]
  · rw [if_neg h0, if_neg h]
    rcases findF_range s l 0 with e | ⟨i, _, h2, _⟩
    · rw [e]
    · omega
theorem sig_snoc {l : List Fn1} {s : ByteArray} {z : Fn1} (h : z.name ≠ s) : sigF (l ++ [z]) s = sigF l s := by
  unfold sigF
  rw [find_snoc_ne h]
  by_cases h0 : findF l s 0 < 0
  · rw [if_pos h0, if_pos h0]
  rcases findF_range s l 0 with e | ⟨i, h1, h2, _⟩
  · rw [e] at h0; exact absurd (by omega) h0
  · rw [if_neg h0, if_neg h0]
    have hn : (findF l s 0).toNat = i := by rw [h2]; omega
    rw [hn, List.getElem?_append_left h1]
mutual
theorem calls_names (lib : List Fn1) : ∀ (x : Nd) (s : ByteArray), s ∈ namesT x → 0 ≤ findF lib s 0 → findF lib s 0 ∈ callsT lib x
  | .mk kind _ name kids, s, h, h0 => by
    rw [namesT] at h
    rw [callsT]
    rcases List.mem_append.1 h with h | h
    · by_cases e : kind = 85
      · rw [if_pos e] at h
        simp at h; subst h
        rw [if_pos ⟨e, h0⟩]; simp
      · rw [if_neg e] at h; simp at h
    · exact List.mem_append.2 (.inr (calls_namesL lib kids s h h0))
theorem calls_namesL (lib : List Fn1) : ∀ (l : List Nd) (s : ByteArray), s ∈ namesTL l → 0 ≤ findF lib s 0 → findF lib s 0 ∈ callsTL lib l
  | [], s, h, _ => by simp [namesTL] at h
  | y :: r, s, h, h0 => by
    rw [namesTL] at h
    rw [callsTL]
    rcases List.mem_append.1 h with h | h
    · exact List.mem_append.2 (.inl (calls_names lib y s h h0))
    · exact List.mem_append.2 (.inr (calls_namesL lib r s h h0))
end
mutual
theorem calls_congr {lib lib' : List Fn1} : ∀ (x : Nd), (∀ s ∈ namesT x, findF lib s 0 = findF lib' s 0) → callsT lib x = callsT lib' x
  | .mk kind _ name kids, h => by
    rw [callsT, callsT, calls_congrL kids (fun s hs => h s (by rw [namesT]; simp [hs]))]
    by_cases e : kind = 85
    · rw [h name (by rw [namesT, if_pos e]; simp)]
    · rw [if_neg (fun h => e h.1), if_neg (fun h => e h.1)]
theorem calls_congrL {lib lib' : List Fn1} : ∀ (l : List Nd), (∀ s ∈ namesTL l, findF lib s 0 = findF lib' s 0) → callsTL lib l = callsTL lib' l
  | [], _ => rfl
  | y :: r, h => by
    rw [callsTL, callsTL, calls_congr y (fun s hs => h s (by rw [namesTL]; simp [hs])), calls_congrL r (fun s hs => h s (by rw [namesTL]; simp [hs]))]
end

/-- A function of the library keeps its first error, if its body does not name the new one. -/
theorem one_snoc {lib : List Fn1} {z : Fn1} {i : Nat} {f : Fn1} (hf : lib[i]? = some f) (hz : ∀ s ∈ namesT f.body, z.name ≠ s) (hnew : findF lib z.name 0 < 0) : oneE (lib ++ [z]) i f = oneE lib i f := by
  have hfn : z.name ≠ f.name := fun e => by
    have := (findF_le (k := 0) hf e.symm).1; omega
  unfold oneE chkE
  rw [find_snoc_ne hfn, chk_sig (lib := lib ++ [z]) (lib' := lib) f.body _ (fun s hs => sig_snoc (hz s hs))]
theorem vldL_congr {E E' : Nat → Int} : ∀ (n k : Nat), (∀ j, k ≤ j → j < k + n → E j = E' j) → vldL E n k = vldL E' n k
  | 0, k, _ => rfl
  | n + 1, k, h => by
    rw [vldL, vldL, h k (by omega) (by omega), vldL_congr n (k + 1) (fun j h1 h2 => h j (by omega) (by omega))]
theorem vldL_more {E : Nat → Int} : ∀ (n k m : Nat), (vldL E n k).2 ≠ 0 → vldL E (n + m) k = vldL E n k
  | 0, k, m, h => absurd rfl h
  | n + 1, k, m, h => by
    rw [vldL] at h ⊢
    rw [show n + 1 + m = (n + m) + 1 by omega, vldL]
    by_cases e : E k = 0
    · rw [if_neg (fun h => h e)] at h ⊢
      rw [if_neg (fun h => h e)]
      exact vldL_more n (k + 1) m h
    · rw [if_pos e, if_pos e]
theorem vldL_range {E : Nat → Int} : ∀ (n k : Nat), (vldL E n k).2 ≠ 0 → (k : Int) ≤ (vldL E n k).1 ∧ (vldL E n k).1 < (k + n : Nat)
  | 0, k, h => absurd rfl h
  | n + 1, k, h => by
    rw [vldL] at h ⊢
    by_cases e : E k = 0
    · rw [if_neg (fun h => h e)] at h ⊢
      have := vldL_range n (k + 1) h
      omega
    · rw [if_pos e]; simp; omega

end Go.Proofs.Ytgokgcnalgpiiaa
