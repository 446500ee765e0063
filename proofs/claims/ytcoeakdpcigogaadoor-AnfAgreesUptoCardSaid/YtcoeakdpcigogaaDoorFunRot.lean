/-
  The calls of an expression (plain).
  Type checking depends on the library only through what the called names stand for (plain).
  Rotating a library (plain).
-/
import Derived.Test.YtcoeakdpcigogaaDoorFunForm
import Derived.Test.YtcoeakdpcigogaaDoorFunBase
import Derived.Test.YtcoeakdpcigogaaDoorFunVld
namespace Go.Proofs.YtcoeakdpcigogaaDoor

mutual
def callsT (lib : List Fn1) : Nd → List Int
  | .mk kind _ name kids => (if kind = 85 ∧ 0 ≤ findF lib name 0 then [findF lib name 0] else []) ++ callsTL lib kids
def callsTL (lib : List Fn1) : List Nd → List Int
  | [] => []
  | y :: r => callsT lib y ++ callsTL lib r
end
theorem callsT_eq (lib : List Fn1) (x : Nd) : callsT lib x = (if x.kind = 85 ∧ 0 ≤ findF lib x.name 0 then [findF lib x.name 0] else []) ++ callsTL lib x.kids := by cases x; rw [callsT]; rfl
theorem callsTL_append (lib : List Fn1) : ∀ l r : List Nd, callsTL lib (l ++ r) = callsTL lib l ++ callsTL lib r
  | [], r => by simp [callsTL]
  | x :: l, r => by rw [List.cons_append, callsTL, callsTL, callsTL_append lib l r, List.append_assoc]
theorem callsTL_step {lib : List Fn1} {l : List Nd} {k : Nat} (h : k < l.length) : callsTL lib (l.take (k + 1)) = callsTL lib (l.take k) ++ callsT lib l[k] := by
  rw [List.take_succ_eq_append_getElem h, callsTL_append, callsTL, callsTL, List.append_nil]
mutual
theorem callsT_le (lib : List Fn1) : ∀ x : Nd, (callsT lib x).length ≤ sizeT x
  | .mk k n s l => by
    rw [callsT, sizeT]
    have := callsTL_le lib l
    split <;> simp <;> omega
theorem callsTL_le (lib : List Fn1) : ∀ l : List Nd, (callsTL lib l).length ≤ sizeTL l
  | [] => by simp [callsTL]
  | x :: r => by
    rw [callsTL, sizeTL, List.length_append]
    have := callsT_le lib x
    have := callsTL_le lib r
    omega
end

end Go.Proofs.YtcoeakdpcigogaaDoor

namespace Go.Proofs.YtcoeakdpcigogaaDoor

/-- What a name stands for: the types of the parameters and of the result. -/
def sigF (lib : List Fn1) (s : ByteArray) : Option (List Bool × Bool) := if findF lib s 0 < 0 then none else (lib[(findF lib s 0).toNat]?).map fun f => (f.params.map Pm.list, f.list)
mutual
def nmsT : Nd → List ByteArray
  | .mk kind _ name kids => (if kind = 85 then [name] else []) ++ nmsTL kids
def nmsTL : List Nd → List ByteArray
  | [] => []
  | y :: r => nmsT y ++ nmsTL r
end
theorem sig_get {lib : List Fn1} {s : ByteArray} : (findF lib s 0 < 0 ∧ sigF lib s = none) ∨ ∃ f, 0 ≤ findF lib s 0 ∧ lib[(findF lib s 0).toNat]? = some f ∧ sigF lib s = some (f.params.map Pm.list, f.list) := by
  rcases findF_range s lib 0 with e | ⟨i, h1, h2, h3, h4⟩
  · exact .inl ⟨by rw [e]; omega, by unfold sigF; rw [if_pos (by rw [e]; omega)]⟩
  · have hn : (findF lib s 0).toNat = i := by rw [h2]; omega
    refine .inr ⟨lib[i], by rw [h2]; omega, by rw [hn]; exact List.getElem?_eq_getElem h1, ?_⟩
    unfold sigF
    rw [if_neg (by rw [h2]; omega), hn, List.getElem?_eq_getElem h1]; rfl
theorem reach_sig {lib lib' : List Fn1} {env : ByteArray → Option Bool} {x : Nd} (h : x.kind = 85 → sigF lib x.name = sigF lib' x.name) : reachE lib env x = reachE lib' env x := by
  unfold reachE
  by_cases h1 : x.kind = 81
  · rw [if_pos h1, if_pos h1]
  rw [if_neg h1, if_neg h1]
  by_cases h2 : x.kind = 84
  · rw [if_pos h2, if_pos h2]
  rw [if_neg h2, if_neg h2]
  by_cases h3 : x.kind = 85
  · rw [if_pos h3, if_pos h3]
    have hs := h h3
    rcases sig_get (lib := lib) (s := x.name) with ⟨a1, a2⟩ | ⟨f, a1, a2, a3⟩ <;> rcases sig_get (lib := lib') (s := x.name) with ⟨b1, b2⟩ | ⟨g, b1, b2, b3⟩
    · rw [if_pos a1, if_pos b1]
    · rw [a2, b3] at hs; cases hs
    · rw [a3, b2] at hs; cases hs
    · rw [a3, b3] at hs
      simp at hs
      rw [if_neg (show ¬ findF lib x.name 0 < 0 by omega), if_neg (show ¬ findF lib' x.name 0 < 0 by omega), a2, b2]
      have : f.params.length = g.params.length := by have := congrArg List.length hs.1; simpa using this
      simp [this]
  · rw [if_neg h3, if_neg h3]
theorem res_sig {lib lib' : List Fn1} {x : Nd} {ts : List Bool} (h : x.kind = 85 → sigF lib x.name = sigF lib' x.name ∧ 0 ≤ findF lib x.name 0) : resR lib x ts = resR lib' x ts := by
  unfold resR
  congr 1
  unfold wantR
  by_cases h3 : x.kind = 85
  · have hs := h h3
    rw [if_neg (by omega), if_neg (by omega), if_neg (by omega), if_pos h3, if_neg (by omega), if_neg (by omega), if_neg (by omega), if_pos h3]
    rcases sig_get (lib := lib) (s := x.name) with ⟨a1, a2⟩ | ⟨f, a1, a2, a3⟩ <;> rcases sig_get (lib := lib') (s := x.name) with ⟨b1, b2⟩ | ⟨g, b1, b2, b3⟩
    · omega
    · omega
    · rw [a3, b2] at hs; cases hs.1
    · rw [a3, b3] at hs
      simp at hs
      rw [a2, b2]
      simp [hs.1]
  · rw [if_neg h3, if_neg h3]
mutual
theorem chk_sig {lib lib' : List Fn1} : ∀ (x : Nd) (env : ByteArray → Option Bool), (∀ s ∈ nmsT x, sigF lib s = sigF lib' s) → chkT lib x env = chkT lib' x env
  | .mk kind num name kids, env, h => by
    have h1 : (Nd.mk kind num name kids).kind = 85 → sigF lib name = sigF lib' name := fun e => h name (by have e' : kind = 85 := e; rw [nmsT, if_pos e']; simp)
    have h2 : ∀ s ∈ nmsTL kids, sigF lib s = sigF lib' s := fun s hs => h s (by rw [nmsT]; simp [hs])
    rw [chkT, chkT, reach_sig (lib := lib) (lib' := lib') h1, chk_sigL kids env kind name 0 [] h2]
    by_cases h3 : reachE lib' env (.mk kind num name kids) = 0
    · have h6 : resR lib (.mk kind num name kids) (chkTL lib' kids env kind name 0 []).1 = resR lib' (.mk kind num name kids) (chkTL lib' kids env kind name 0 []).1 := res_sig (fun e => ⟨h1 e, by
        have h4 : 0 ≤ findF lib' name 0 := (reach85 h3 e).1
        have h5 : sigF lib name = sigF lib' name := h1 e
        show 0 ≤ findF lib name 0
        rcases sig_get (lib := lib) (s := name) with ⟨a1, a2⟩ | ⟨f, a1, a2, a3⟩
        · rcases sig_get (lib := lib') (s := name) with ⟨b1, b2⟩ | ⟨g, b1, b2, b3⟩
          · omega
          · rw [a2, b3] at h5; cases h5
        · exact a1⟩)
      rw [h6]
    · rw [if_pos h3, if_pos h3]
theorem chk_sigL {lib lib' : List Fn1} : ∀ (l : List Nd) (env : ByteArray → Option Bool) (kind : Nat) (name : ByteArray) (i : Nat) (ts : List Bool), (∀ s ∈ nmsTL l, sigF lib s = sigF lib' s) → chkTL lib l env kind name i ts = chkTL lib' l env kind name i ts
  | [], _, _, _, _, _, _ => rfl
  | y :: r, env, kind, name, i, ts, h => by
    have h1 : ∀ s ∈ nmsT y, sigF lib s = sigF lib' s := fun s hs => h s (by rw [nmsTL]; simp [hs])
    have h2 : ∀ s ∈ nmsTL r, sigF lib s = sigF lib' s := fun s hs => h s (by rw [nmsTL]; simp [hs])
    rw [chkTL, chkTL, chk_sig y _ h1, chk_sigL r _ _ _ _ _ h2]
end

/-! ### One function more -/
theorem findF_hit {f : Fn1} {r : List Fn1} {s : ByteArray} {k : Nat} (h : (f.name.toList == s.toList) = true) : findF (f :: r) s k = k := by unfold findF; rw [if_pos h]
theorem findF_miss {f : Fn1} {r : List Fn1} {s : ByteArray} {k : Nat} (h : ¬ (f.name.toList == s.toList) = true) : findF (f :: r) s k = findF r s (k + 1) := by rw [findF, if_neg h]
theorem findF_snoc (s : ByteArray) (z : Fn1) : ∀ (l : List Fn1) (k : Nat), findF (l ++ [z]) s k = if 0 ≤ findF l s k then findF l s k else if z.name = s then ((k + l.length : Nat) : Int) else -1
  | [], k => by
    have e0 : findF [] s k = -1 := rfl
    rw [List.nil_append, e0, if_neg (show ¬ (0 : Int) ≤ -1 by omega)]
    by_cases h : z.name = s
    · rw [findF_hit (eqS_iff.2 h), if_pos h]; simp
    · rw [findF_miss (fun e => h (eqS_iff.1 e)), if_neg h]; rfl
  | f :: r, k => by
    rw [List.cons_append]
    by_cases h : (f.name.toList == s.toList) = true
    · rw [findF_hit h, findF_hit h, if_pos (show (0 : Int) ≤ (k : Int) by omega)]
    · rw [findF_miss h, findF_miss h, findF_snoc s z r (k + 1)]
      have : ((k + 1 + r.length : Nat) : Int) = ((k + (f :: r).length : Nat) : Int) := by simp; omega
      rw [this]
theorem find_snoc_ne {l : List Fn1} {s : ByteArray} {z : Fn1} (h : z.name ≠ s) : findF (l ++ [z]) s 0 = findF l s 0 := by
  rw [findF_snoc]
  by_cases h0 : 0 ≤ findF l s 0
  · rw [if_pos h0]
  · rw [if_neg h0, if_neg h]
    rcases findF_range s l 0 with e | ⟨i, _, h2, _⟩
    · rw [e]
    · omega
theorem sig_snoc {l : List Fn1} {s : ByteArray} {z : Fn1} (h : z.name ≠ s) : sigF (l ++ [z]) s = sigF l s := by
  unfold sigF
  rw [find_snoc_ne h]
  by_cases h0 : findF l s 0 < 0
  · rw [if_pos h0, if_pos h0]
  rcases findF_range s l 0 with e | ⟨i, h1, h2, _⟩
  · rw [e] at h0; exact absurd (by omega) h0
  · rw [if_neg h0, if_neg h0]
    have hn : (findF l s 0).toNat = i := by rw [h2]; omega
    rw [hn, List.getElem?_append_left h1]
mutual
theorem calls_names (lib : List Fn1) : ∀ (x : Nd) (s : ByteArray), s ∈ nmsT x → 0 ≤ findF lib s 0 → findF lib s 0 ∈ callsT lib x
  | .mk kind _ name kids, s, h, h0 => by
    rw [nmsT] at h
    rw [callsT]
    rcases List.mem_append.1 h with h | h
    · by_cases e : kind = 85
      · rw [if_pos e] at h
        simp at h; subst h
        rw [if_pos ⟨e, h0⟩]; simp
      · rw [if_neg e] at h; simp at h
    · exact List.mem_append.2 (.inr (calls_namesL lib kids s h h0))
theorem calls_namesL (lib : List Fn1) : ∀ (l : List Nd) (s : ByteArray), s ∈ nmsTL l → 0 ≤ findF lib s 0 → findF lib s 0 ∈ callsTL lib l
  | [], s, h, _ => by simp [nmsTL] at h
  | y :: r, s, h, h0 => by
    rw [nmsTL] at h
    rw [callsTL]
    rcases List.mem_append.1 h with h | h
    · exact List.mem_append.2 (.inl (calls_names lib y s h h0))
    · exact List.mem_append.2 (.inr (calls_namesL lib r s h h0))
end
mutual
theorem calls_congr {lib lib' : List Fn1} : ∀ (x : Nd), (∀ s ∈ nmsT x, findF lib s 0 = findF lib' s 0) → callsT lib x = callsT lib' x
  | .mk kind _ name kids, h => by
    rw [callsT, callsT, calls_congrL kids (fun s hs => h s (by rw [nmsT]; simp [hs]))]
    by_cases e : kind = 85
    · rw [h name (by rw [nmsT, if_pos e]; simp)]
    · rw [if_neg (fun h => e h.1), if_neg (fun h => e h.1)]
theorem calls_congrL {lib lib' : List Fn1} : ∀ (l : List Nd), (∀ s ∈ nmsTL l, findF lib s 0 = findF lib' s 0) → callsTL lib l = callsTL lib' l
  | [], _ => rfl
  | y :: r, h => by
    rw [callsTL, callsTL, calls_congr y (fun s hs => h s (by rw [nmsTL]; simp [hs])), calls_congrL r (fun s hs => h s (by rw [nmsTL]; simp [hs]))]
end

/-- A function of the library keeps its first error, if its body does not name the new one. -/
theorem one_snoc {lib : List Fn1} {z : Fn1} {i : Nat} {f : Fn1} (hf : lib[i]? = some f) (hz : ∀ s ∈ nmsT f.body, z.name ≠ s) (hnew : findF lib z.name 0 < 0) : oneE (lib ++ [z]) i f = oneE lib i f := by
  have hfn : z.name ≠ f.name := fun e => by
    have := (findF_le (k := 0) hf e.symm).1; omega
  unfold oneE chkE
  rw [find_snoc_ne hfn, chk_sig (lib := lib ++ [z]) (lib' := lib) f.body _ (fun s hs => sig_snoc (hz s hs))]
theorem vldL_congr {E E' : Nat → Int} : ∀ (n k : Nat), (∀ j, k ≤ j → j < k + n → E j = E' j) → vldL E n k = vldL E' n k
  | 0, k, _ => rfl
  | n + 1, k, h => by
    rw [vldL, vldL, h k (by omega) (by omega), vldL_congr n (k + 1) (fun j h1 h2 => h j (by omega) (by omega))]
theorem vldL_more {E : Nat → Int} : ∀ (n k m : Nat), (vldL E n k).2 ≠ 0 → vldL E (n + m) k = vldL E n k
  | 0, k, m, h => absurd rfl h
  | n + 1, k, m, h => by
    rw [vldL] at h ⊢
    rw [show n + 1 + m = (n + m) + 1 by omega, vldL]
    by_cases e : E k = 0
    · rw [if_neg (fun h => h e)] at h ⊢
      rw [if_neg (fun h => h e)]
      exact vldL_more n (k + 1) m h
    · rw [if_pos e, if_pos e]
theorem vldL_range {E : Nat → Int} : ∀ (n k : Nat), (vldL E n k).2 ≠ 0 → (k : Int) ≤ (vldL E n k).1 ∧ (vldL E n k).1 < (k + n : Nat)
  | 0, k, h => absurd rfl h
  | n + 1, k, h => by
    rw [vldL] at h ⊢
    by_cases e : E k = 0
    · rw [if_neg (fun h => h e)] at h ⊢
      have := vldL_range n (k + 1) h
      omega
    · rw [if_pos e]; simp; omega

end Go.Proofs.YtcoeakdpcigogaaDoor

namespace Go.Proofs.YtcoeakdpcigogaaDoor

def rotL (lib : List Fn1) (k : Nat) : List Fn1 := lib.drop k ++ lib.take k
theorem rot_len {lib : List Fn1} {k : Nat} (hk : k < lib.length) : (rotL lib k).length = lib.length := by
  unfold rotL; simp; omega
theorem rot_get {lib : List Fn1} {k f : Nat} (hk : k < lib.length) (hf : f < lib.length) : (rotL lib k)[f]? = lib[(f + k) % lib.length]? := by
  unfold rotL
  by_cases h : f < lib.length - k
  · rw [List.getElem?_append_left (by simp; omega), List.getElem?_drop, Nat.mod_eq_of_lt (by omega), Nat.add_comm]
  · rw [List.getElem?_append_right (by simp; omega), List.getElem?_take_of_lt (by simp; omega)]
    congr 1
    simp
    rw [Nat.mod_eq_sub_mod (by omega), Nat.mod_eq_of_lt (by omega)]
    omega
/-- All names differ. -/
def Dist (l : List Fn1) : Prop := ∀ (i j : Nat) (f g : Fn1), l[i]? = some f → l[j]? = some g → f.name = g.name → i = j
theorem find_uniq {l : List Fn1} (hd : Dist l) {j : Nat} {f : Fn1} (hj : l[j]? = some f) : findF l f.name 0 = j := by
  obtain ⟨h0, h1⟩ := findF_le (k := 0) hj rfl
  rcases findF_range f.name l 0 with e | ⟨i, h2, h3, h4, h5⟩
  · omega
  · have := hd i j _ _ (List.getElem?_eq_getElem h4) hj h5
    rw [h3]; omega
theorem find_none {l : List Fn1} {s : ByteArray} (h : ∀ (j : Nat) (f : Fn1), l[j]? = some f → f.name ≠ s) : findF l s 0 = -1 := by
  rcases findF_range s l 0 with e | ⟨i, h2, h3, h4, h5⟩
  · exact e
  · exact absurd h5 (h i _ (List.getElem?_eq_getElem h4))
theorem valid_dist {lib : List Fn1} (h : (validR lib).2 = 0) : Dist lib := fun i j f g hi hj e => by
  have h1 := valid_find h hi
  have h2 := valid_find h hj
  rw [e, h2] at h1
  omega
theorem rot_dist {lib : List Fn1} (hd : Dist lib) {k : Nat} (hk : k < lib.length) : Dist (rotL lib k) := fun i j f g hi hj e => by
  have li : i < lib.length := by have := (List.getElem?_eq_some_iff.1 hi).1; rw [rot_len hk] at this; exact this
  have lj : j < lib.length := by have := (List.getElem?_eq_some_iff.1 hj).1; rw [rot_len hk] at this; exact this
  rw [rot_get hk li] at hi
  rw [rot_get hk lj] at hj
  have := hd _ _ _ _ hi hj e
  by_cases h1 : i + k < lib.length <;> by_cases h2 : j + k < lib.length
  · rw [Nat.mod_eq_of_lt h1, Nat.mod_eq_of_lt h2] at this; omega
  · rw [Nat.mod_eq_of_lt h1, Nat.mod_eq_sub_mod (by omega), Nat.mod_eq_of_lt (by omega)] at this; omega
  · rw [Nat.mod_eq_of_lt h2, Nat.mod_eq_sub_mod (by omega), Nat.mod_eq_of_lt (by omega)] at this; omega
  · rw [Nat.mod_eq_sub_mod (by omega), Nat.mod_eq_of_lt (by omega), Nat.mod_eq_sub_mod (show j + k ≥ lib.length by omega), Nat.mod_eq_of_lt (by omega)] at this; omega
/-- A name in both. -/
theorem find_rot {lib : List Fn1} (hd : Dist lib) {k : Nat} (hk : k < lib.length) (s : ByteArray) : (findF lib s 0 = -1 ∧ findF (rotL lib k) s 0 = -1) ∨ ∃ (j : Nat) (f : Fn1), j < lib.length ∧ (rotL lib k)[j]? = some f ∧ lib[(j + k) % lib.length]? = some f ∧ findF (rotL lib k) s 0 = j ∧ findF lib s 0 = ((j + k) % lib.length : Nat) := by
  rcases findF_range s (rotL lib k) 0 with e | ⟨j, h1, h2, h3, h4⟩
  · refine .inl ⟨find_none (fun i f hi en => ?_), e⟩
    have hil : i < lib.length := (List.getElem?_eq_some_iff.1 hi).1
    have hm : ((i + (lib.length - k)) % lib.length + k) % lib.length = i := by
      rw [Nat.mod_add_mod, show i + (lib.length - k) + k = i + lib.length by omega, Nat.add_mod_right, Nat.mod_eq_of_lt hil]
    have hg : (rotL lib k)[(i + (lib.length - k)) % lib.length]? = some f := by
      rw [rot_get hk (Nat.mod_lt _ (by omega)), hm]; exact hi
    have := (findF_le (k := 0) hg en).1
    omega
  · have hj : j < lib.length := by rw [rot_len hk] at h1; exact h1
    have hg : (rotL lib k)[j]? = some (rotL lib k)[j] := List.getElem?_eq_getElem h3
    have hg2 := hg
    rw [rot_get hk hj] at hg2
    refine .inr ⟨j, _, hj, hg, hg2, by rw [h2]; simp, ?_⟩
    rw [← h4]
    exact find_uniq hd hg2
theorem sig_rot {lib : List Fn1} (hd : Dist lib) {k : Nat} (hk : k < lib.length) (s : ByteArray) : sigF (rotL lib k) s = sigF lib s := by
  unfold sigF
  rcases find_rot hd hk s with ⟨e1, e2⟩ | ⟨j, f, h1, h2, h3, h4, h5⟩
  · rw [e1, e2]; rfl
  · rw [h4, h5, if_neg (by omega), if_neg (by omega), Int.toNat_natCast, Int.toNat_natCast, h2, h3]
theorem rot_valid {lib : List Fn1} (h : (validR lib).2 = 0) {k : Nat} (hk : k < lib.length) : validR (rotL lib k) = (-1, 0) := by
  have hd := valid_dist h
  refine valid_of (fun i f hi => ?_)
  have li : i < lib.length := by have := (List.getElem?_eq_some_iff.1 hi).1; rw [rot_len hk] at this; exact this
  have hi2 := hi
  rw [rot_get hk li] at hi2
  obtain ⟨_, h2, _, h4, h5, h6, h7, h8⟩ := one_facts (valid_facts h hi2)
  have h30 : i < 30 := by
    have := (one_facts (valid_facts h (List.getElem?_eq_getElem li))).1
    exact this
  refine one_of h30 h2 (by rw [find_uniq (rot_dist hd hk) hi]; omega) h4 h5 h6 h7 ?_
  rw [chk_sig (lib := rotL lib k) (lib' := lib) f.body _ (fun s _ => sig_rot hd hk s)]
  exact h8
mutual
theorem calls_rot {lib : List Fn1} (hd : Dist lib) {k : Nat} (hk : k < lib.length) : ∀ (x : Nd), callsT lib x = (callsT (rotL lib k) x).map fun j : Int => (j + (k : Int)) % (lib.length : Int)
  | .mk kind _ name kids => by
    rw [callsT, callsT, List.map_append, calls_rotL hd hk kids]
    congr 1
    by_cases e : kind = 85
    · rcases find_rot hd hk name with ⟨e1, e2⟩ | ⟨j, f, h1, h2, h3, h4, h5⟩
      · rw [e1, e2, if_neg (by omega)]; rfl
      · rw [h4, h5, if_pos ⟨e, by omega⟩, if_pos ⟨e, by omega⟩]; simp
    · rw [if_neg (fun h => e h.1), if_neg (fun h => e h.1)]; rfl
theorem calls_rotL {lib : List Fn1} (hd : Dist lib) {k : Nat} (hk : k < lib.length) : ∀ (l : List Nd), callsTL lib l = (callsTL (rotL lib k) l).map fun j : Int => (j + (k : Int)) % (lib.length : Int)
  | [] => rfl
  | y :: r => by rw [callsTL, callsTL, List.map_append, calls_rot hd hk y, calls_rotL hd hk r]
end
theorem rot_in {lib : List Fn1} {k i : Nat} {f : Fn1} (h : (rotL lib k)[i]? = some f) : ∃ j : Nat, lib[j]? = some f := by
  have hm : f ∈ rotL lib k := List.mem_of_getElem? h
  unfold rotL at hm
  have hm2 : f ∈ lib := by
    rcases List.mem_append.1 hm with h | h
    · exact List.mem_of_mem_drop h
    · exact List.mem_of_mem_take h
  exact List.getElem?_of_mem hm2
theorem rot_fit {lib : List Fn1} {k : Nat} (hk : k < lib.length) (h : LibFit lib) : LibFit (rotL lib k) := ⟨by rw [rot_len hk]; exact h.1, fun i f hf => by obtain ⟨j, hj⟩ := rot_in hf; exact h.2 j f hj⟩
theorem rot_few {lib : List Fn1} {k : Nat} (h : FewParams lib) : FewParams (rotL lib k) := fun i f hf => by obtain ⟨j, hj⟩ := rot_in hf; exact h j f hj
theorem rot_nodes {lib : List Fn1} {k : Nat} (h : FewNodes lib) : FewNodes (rotL lib k) := fun i f hf => by obtain ⟨j, hj⟩ := rot_in hf; exact h j f hj

end Go.Proofs.YtcoeakdpcigogaaDoor
