/-
  The calls of an expression (plain).
  Type checking depends on the library only through what the called names stand for (plain).
  Rotating a library (plain).
  anf.Normalize, with the capacity of its result.
  The law's count, small.
  Normalized functions fit (plain): names' sizes, numbers of binds.
  Normalizing does not look at the library's order (plain).
  What an opened library gives the laws of layer 38.
-/
import Derived.Test.YtcoeakdpcigogaaDoorFunForm
import Derived.Test.YtcoeakdpcigogaaDoorFunBase
import Derived.Test.YtcoeakdpcigogaaDoorFunVld
import Derived.Test.YtcoeakdpcigogaaDoorAnfNz
import Derived.Test.YtcoeakdpcigogaaDoorAnfLaw
import Derived.Test.YtcoeakdpcigogaaDoorAnfVl6
import Derived.Test.YtcoeakdpcigogaaDoorAnfVd3
namespace Go.Proofs.YtcoeakdpcigogaaDoor

mutual
def callsT (lib : List Fn1) : Nd → List Int
  | .mk kind _ name kids => (if kind = 85 ∧ 0 ≤ findF lib name 0 then [findF lib name 0] else []) ++ callsTL lib kids
def callsTL (lib : List Fn1) : List Nd → List Int
  | [] => []
  | y :: r => callsT lib y ++ callsTL lib r
end
theorem callsT_eq (lib : List Fn1) (x : Nd) : callsT lib x = (if x.kind = 85 ∧ 0 ≤ findF lib x.name 0 then [findF lib x.name 0] else []) ++ callsTL lib x.kids := by cases x; rw [callsT]; rfl
theorem callsTL_append (lib : List Fn1) : ∀ l r : List Nd, callsTL lib (l ++ r) = callsTL lib l ++ callsTL lib r
  | [], r => by simp [callsTL]
  | x :: l, r => by rw [List.cons_append, callsTL, callsTL, callsTL_append lib l r, List.append_assoc]
theorem callsTL_step {lib : List Fn1} {l : List Nd} {k : Nat} (h : k < l.length) : callsTL lib (l.take (k + 1)) = callsTL lib (l.take k) ++ callsT lib l[k] := by
  rw [List.take_succ_eq_append_getElem h, callsTL_append, callsTL, callsTL, List.append_nil]
mutual
theorem callsT_le (lib : List Fn1) : ∀ x : Nd, (callsT lib x).length ≤ sizeT x
  | .mk k n s l => by
    rw [callsT, sizeT]
    have := callsTL_le lib l
    split <;> simp <;> omega
theorem callsTL_le (lib : List Fn1) : ∀ l : List Nd, (callsTL lib l).length ≤ sizeTL l
  | [] => by simp [callsTL]
  | x :: r => by
    rw [callsTL, sizeTL, List.length_append]
    have := callsT_le lib x
    have := callsTL_le lib r
    omega
end

end Go.Proofs.YtcoeakdpcigogaaDoor

namespace Go.Proofs.YtcoeakdpcigogaaDoor

/-- What a name stands for: the types of the parameters and of the result. -/
def sigF (lib : List Fn1) (s : ByteArray) : Option (List Bool × Bool) := if findF lib s 0 < 0 then none else (lib[(findF lib s 0).toNat]?).map fun f => (f.params.map Pm.list, f.list)
mutual
def nmsT : Nd → List ByteArray
  | .mk kind _ name kids => (if kind = 85 then [name] else []) ++ nmsTL kids
def nmsTL : List Nd → List ByteArray
  | [] => []
  | y :: r => nmsT y ++ nmsTL r
end
theorem sig_get {lib : List Fn1} {s : ByteArray} : (findF lib s 0 < 0 ∧ sigF lib s = none) ∨ ∃ f, 0 ≤ findF lib s 0 ∧ lib[(findF lib s 0).toNat]? = some f ∧ sigF lib s = some (f.params.map Pm.list, f.list) := by
  rcases findF_range s lib 0 with e | ⟨i, h1, h2, h3, h4⟩
  · exact .inl ⟨by rw [e]; omega, by unfold sigF; rw [if_pos (by rw [e]; omega)]⟩
  · have hn : (findF lib s 0).toNat = i := by rw [h2]; omega
    refine .inr ⟨lib[i], by rw [h2]; omega, by rw [hn]; exact List.getElem?_eq_getElem h1, ?_⟩
    unfold sigF
    rw [if_neg (by rw [h2]; omega), hn, List.getElem?_eq_getElem h1]; rfl
theorem reach_sig {lib lib' : List Fn1} {env : ByteArray → Option Bool} {x : Nd} (h : x.kind = 85 → sigF lib x.name = sigF lib' x.name) : reachE lib env x = reachE lib' env x := by
  unfold reachE
  by_cases h1 : x.kind = 81
  · rw [if_pos h1, if_pos h1]
  rw [if_neg h1, if_neg h1]
  by_cases h2 : x.kind = 84
  · rw [if_pos h2, if_pos h2]
  rw [if_neg h2, if_neg h2]
  by_cases h3 : x.kind = 85
  · rw [if_pos h3, if_pos h3]
    have hs := h h3
    rcases sig_get (lib := lib) (s := x.name) with ⟨a1, a2⟩ | ⟨f, a1, a2, a3⟩ <;> rcases sig_get (lib := lib') (s := x.name) with ⟨b1, b2⟩ | ⟨g, b1, b2, b3⟩
    · rw [if_pos a1, if_pos b1]
    · rw [a2, b3] at hs; cases hs
    · rw [a3, b2] at hs; cases hs
    · rw [a3, b3] at hs
      simp at hs
      rw [if_neg (show ¬ findF lib x.name 0 < 0 by omega), if_neg (show ¬ findF lib' x.name 0 < 0 by omega), a2, b2]
      have : f.params.length = g.params.length := by have := congrArg List.length hs.1; simpa using this
      simp [this]
  · rw [if_neg h3, if_neg h3]
theorem res_sig {lib lib' : List Fn1} {x : Nd} {ts : List Bool} (h : x.kind = 85 → sigF lib x.name = sigF lib' x.name ∧ 0 ≤ findF lib x.name 0) : resR lib x ts = resR lib' x ts := by
  unfold resR
  congr 1
  unfold wantR
  by_cases h3 : x.kind = 85
  · have hs := h h3
    rw [if_neg (by omega), if_neg (by omega), if_neg (by omega), if_pos h3, if_neg (by omega), if_neg (by omega), if_neg (by omega), if_pos h3]
    rcases sig_get (lib := lib) (s := x.name) with ⟨a1, a2⟩ | ⟨f, a1, a2, a3⟩ <;> rcases sig_get (lib := lib') (s := x.name) with ⟨b1, b2⟩ | ⟨g, b1, b2, b3⟩
    · omega
    · omega
    · rw [a3, b2] at hs; cases hs.1
    · rw [a3, b3] at hs
      simp at hs
      rw [a2, b2]
      simp [hs.1]
  · rw [if_neg h3, if_neg h3]
mutual
theorem chk_sig {lib lib' : List Fn1} : ∀ (x : Nd) (env : ByteArray → Option Bool), (∀ s ∈ nmsT x, sigF lib s = sigF lib' s) → chkT lib x env = chkT lib' x env
  | .mk kind num name kids, env, h => by
    have h1 : (Nd.mk kind num name kids).kind = 85 → sigF lib name = sigF lib' name := fun e => h name (by have e' : kind = 85 := e; rw [nmsT, if_pos e']; simp)
    have h2 : ∀ s ∈ nmsTL kids, sigF lib s = sigF lib' s := fun s hs => h s (by rw [nmsT]; simp [hs])
    rw [chkT, chkT, reach_sig (lib := lib) (lib' := lib') h1, chk_sigL kids env kind name 0 [] h2]
    by_cases h3 : reachE lib' env (.mk kind num name kids) = 0
    · have h6 : resR lib (.mk kind num name kids) (chkTL lib' kids env kind name 0 []).1 = resR lib' (.mk kind num name kids) (chkTL lib' kids env kind name 0 []).1 := res_sig (fun e => ⟨h1 e, by
        have h4 : 0 ≤ findF lib' name 0 := (reach85 h3 e).1
        have h5 : sigF lib name = sigF lib' name := h1 e
        show 0 ≤ findF lib name 0
        rcases sig_get (lib := lib) (s := name) with ⟨a1, a2⟩ | ⟨f, a1, a2, a3⟩
        · rcases sig_get (lib := lib') (s := name) with ⟨b1, b2⟩ | ⟨g, b1, b2, b3⟩
          · omega
          · rw [a2, b3] at h5; cases h5
        · exact a1⟩)
      rw [h6]
    · rw [if_pos h3, if_pos h3]
theorem chk_sigL {lib lib' : List Fn1} : ∀ (l : List Nd) (env : ByteArray → Option Bool) (kind : Nat) (name : ByteArray) (i : Nat) (ts : List Bool), (∀ s ∈ nmsTL l, sigF lib s = sigF lib' s) → chkTL lib l env kind name i ts = chkTL lib' l env kind name i ts
  | [], _, _, _, _, _, _ => rfl
  | y :: r, env, kind, name, i, ts, h => by
    have h1 : ∀ s ∈ nmsT y, sigF lib s = sigF lib' s := fun s hs => h s (by rw [nmsTL]; simp [hs])
    have h2 : ∀ s ∈ nmsTL r, sigF lib s = sigF lib' s := fun s hs => h s (by rw [nmsTL]; simp [hs])
    rw [chkTL, chkTL, chk_sig y _ h1, chk_sigL r _ _ _ _ _ h2]
end

/-! ### One function more -/
theorem findF_hit {f : Fn1} {r : List Fn1} {s : ByteArray} {k : Nat} (h : (f.name.toList == s.toList) = true) : findF (f :: r) s k = k := by unfold findF; rw [if_pos h]
theorem findF_miss {f : Fn1} {r : List Fn1} {s : ByteArray} {k : Nat} (h : ¬ (f.name.toList == s.toList) = true) : findF (f :: r) s k = findF r s (k + 1) := by rw [findF, if_neg h]
theorem findF_snoc (s : ByteArray) (z : Fn1) : ∀ (l : List Fn1) (k : Nat), findF (l ++ [z]) s k = if 0 ≤ findF l s k then findF l s k else if z.name = s then ((k + l.length : Nat) : Int) else -1
  | [], k => by
    have e0 : findF [] s k = -1 := rfl
    rw [List.nil_append, e0, if_neg (show ¬ (0 : Int) ≤ -1 by omega)]
    by_cases h : z.name = s
    · rw [findF_hit (eqS_iff.2 h), if_pos h]; simp
    · rw [findF_miss (fun e => h (eqS_iff.1 e)), if_neg h]; rfl
  | f :: r, k => by
    rw [List.cons_append]
    by_cases h : (f.name.toList == s.toList) = true
    · rw [findF_hit h, findF_hit h, if_pos (show (0 : Int) ≤ (k : Int) by omega)]
    · rw [findF_miss h, findF_miss h, findF_snoc s z r (k + 1)]
      have : ((k + 1 + r.length : Nat) : Int) = ((k + (f :: r).length : Nat) : Int) := by simp; omega
      rw [this]
theorem find_snoc_ne {l : List Fn1} {s : ByteArray} {z : Fn1} (h : z.name ≠ s) : findF (l ++ [z]) s 0 = findF l s 0 := by
  rw [findF_snoc]
  by_cases h0 : 0 ≤ findF l s 0
  · rw [if_pos h0]
  · rw [if_neg h0, if_neg h]
    rcases findF_range s l 0 with e | ⟨i, _, h2, _⟩
    · rw [e]
    · omega
theorem sig_snoc {l : List Fn1} {s : ByteArray} {z : Fn1} (h : z.name ≠ s) : sigF (l ++ [z]) s = sigF l s := by
  unfold sigF
  rw [find_snoc_ne h]
  by_cases h0 : findF l s 0 < 0
  · rw [if_pos h0, if_pos h0]
  rcases findF_range s l 0 with e | ⟨i, h1, h2, _⟩
  · rw [e] at h0; exact absurd (by omega) h0
  · rw [if_neg h0, if_neg h0]
    have hn : (findF l s 0).toNat = i := by rw [h2]; omega
    rw [hn, List.getElem?_append_left h1]
mutual
theorem calls_names (lib : List Fn1) : ∀ (x : Nd) (s : ByteArray), s ∈ nmsT x → 0 ≤ findF lib s 0 → findF lib s 0 ∈ callsT lib x
  | .mk kind _ name kids, s, h, h0 => by
    rw [nmsT] at h
    rw [callsT]
    rcases List.mem_append.1 h with h | h
    · by_cases e : kind = 85
      · rw [if_pos e] at h
        simp at h; subst h
        rw [if_pos ⟨e, h0⟩]; simp
      · rw [if_neg e] at h; simp at h
    · exact List.mem_append.2 (.inr (calls_namesL lib kids s h h0))
theorem calls_namesL (lib : List Fn1) : ∀ (l : List Nd) (s : ByteArray), s ∈ nmsTL l → 0 ≤ findF lib s 0 → findF lib s 0 ∈ callsTL lib l
  | [], s, h, _ => by simp [nmsTL] at h
  | y :: r, s, h, h0 => by
    rw [nmsTL] at h
    rw [callsTL]
    rcases List.mem_append.1 h with h | h
    · exact List.mem_append.2 (.inl (calls_names lib y s h h0))
    · exact List.mem_append.2 (.inr (calls_namesL lib r s h h0))
end
mutual
theorem calls_congr {lib lib' : List Fn1} : ∀ (x : Nd), (∀ s ∈ nmsT x, findF lib s 0 = findF lib' s 0) → callsT lib x = callsT lib' x
  | .mk kind _ name kids, h => by
    rw [callsT, callsT, calls_congrL kids (fun s hs => h s (by rw [nmsT]; simp [hs]))]
    by_cases e : kind = 85
    · rw [h name (by rw [nmsT, if_pos e]; simp)]
    · rw [if_neg (fun h => e h.1), if_neg (fun h => e h.1)]
theorem calls_congrL {lib lib' : List Fn1} : ∀ (l : List Nd), (∀ s ∈ nmsTL l, findF lib s 0 = findF lib' s 0) → callsTL lib l = callsTL lib' l
  | [], _ => rfl
  | y :: r, h => by
    rw [callsTL, callsTL, calls_congr y (fun s hs => h s (by rw [nmsTL]; simp [hs])), calls_congrL r (fun s hs => h s (by rw [nmsTL]; simp [hs]))]
end

/-- A function of the library keeps its first error, if its body does not name the new one. -/
theorem one_snoc {lib : List Fn1} {z : Fn1} {i : Nat} {f : Fn1} (hf : lib[i]? = some f) (hz : ∀ s ∈ nmsT f.body, z.name ≠ s) (hnew : findF lib z.name 0 < 0) : oneE (lib ++ [z]) i f = oneE lib i f := by
  have hfn : z.name ≠ f.name := fun e => by
    have := (findF_le (k := 0) hf e.symm).1; omega
  unfold oneE chkE
  rw [find_snoc_ne hfn, chk_sig (lib := lib ++ [z]) (lib' := lib) f.body _ (fun s hs => sig_snoc (hz s hs))]
theorem vldL_congr {E E' : Nat → Int} : ∀ (n k : Nat), (∀ j, k ≤ j → j < k + n → E j = E' j) → vldL E n k = vldL E' n k
  | 0, k, _ => rfl
  | n + 1, k, h => by
    rw [vldL, vldL, h k (by omega) (by omega), vldL_congr n (k + 1) (fun j h1 h2 => h j (by omega) (by omega))]
theorem vldL_more {E : Nat → Int} : ∀ (n k m : Nat), (vldL E n k).2 ≠ 0 → vldL E (n + m) k = vldL E n k
  | 0, k, m, h => absurd rfl h
  | n + 1, k, m, h => by
    rw [vldL] at h ⊢
    rw [show n + 1 + m = (n + m) + 1 by omega, vldL]
    by_cases e : E k = 0
    · rw [if_neg (fun h => h e)] at h ⊢
      rw [if_neg (fun h => h e)]
      exact vldL_more n (k + 1) m h
    · rw [if_pos e, if_pos e]
theorem vldL_range {E : Nat → Int} : ∀ (n k : Nat), (vldL E n k).2 ≠ 0 → (k : Int) ≤ (vldL E n k).1 ∧ (vldL E n k).1 < (k + n : Nat)
  | 0, k, h => absurd rfl h
  | n + 1, k, h => by
    rw [vldL] at h ⊢
    by_cases e : E k = 0
    · rw [if_neg (fun h => h e)] at h ⊢
      have := vldL_range n (k + 1) h
      omega
    · rw [if_pos e]; simp; omega

end Go.Proofs.YtcoeakdpcigogaaDoor

namespace Go.Proofs.YtcoeakdpcigogaaDoor

def rotL (lib : List Fn1) (k : Nat) : List Fn1 := lib.drop k ++ lib.take k
theorem rot_len {lib : List Fn1} {k : Nat} (hk : k < lib.length) : (rotL lib k).length = lib.length := by
  unfold rotL; simp; omega
theorem rot_get {lib : List Fn1} {k f : Nat} (hk : k < lib.length) (hf : f < lib.length) : (rotL lib k)[f]? = lib[(f + k) % lib.length]? := by
  unfold rotL
  by_cases h : f < lib.length - k
  · rw [List.getElem?_append_left (by simp; omega), List.getElem?_drop, Nat.mod_eq_of_lt (by omega), Nat.add_comm]
  · rw [List.getElem?_append_right (by simp; omega), List.getElem?_take_of_lt (by simp; omega)]
    congr 1
    simp
    rw [Nat.mod_eq_sub_mod (by omega), Nat.mod_eq_of_lt (by omega)]
    omega
/-- All names differ. -/
def Dist (l : List Fn1) : Prop := ∀ (i j : Nat) (f g : Fn1), l[i]? = some f → l[j]? = some g → f.name = g.name → i = j
theorem find_uniq {l : List Fn1} (hd : Dist l) {j : Nat} {f : Fn1} (hj : l[j]? = some f) : findF l f.name 0 = j := by
  obtain ⟨h0, h1⟩ := findF_le (k := 0) hj rfl
  rcases findF_range f.name l 0 with e | ⟨i, h2, h3, h4, h5⟩
  · omega
  · have := hd i j _ _ (List.getElem?_eq_getElem h4) hj h5
    rw [h3]; omega
theorem find_none {l : List Fn1} {s : ByteArray} (h : ∀ (j : Nat) (f : Fn1), l[j]? = some f → f.name ≠ s) : findF l s 0 = -1 := by
  rcases findF_range s l 0 with e | ⟨i, h2, h3, h4, h5⟩
  · exact e
  · exact absurd h5 (h i _ (List.getElem?_eq_getElem h4))
theorem valid_dist {lib : List Fn1} (h : (validR lib).2 = 0) : Dist lib := fun i j f g hi hj e => by
  have h1 := valid_find h hi
  have h2 := valid_find h hj
  rw [e, h2] at h1
  omega
theorem rot_dist {lib : List Fn1} (hd : Dist lib) {k : Nat} (hk : k < lib.length) : Dist (rotL lib k) := fun i j f g hi hj e => by
  have li : i < lib.length := by have := (List.getElem?_eq_some_iff.1 hi).1; rw [rot_len hk] at this; exact this
  have lj : j < lib.length := by have := (List.getElem?_eq_some_iff.1 hj).1; rw [rot_len hk] at this; exact this
  rw [rot_get hk li] at hi
  rw [rot_get hk lj] at hj
  have := hd _ _ _ _ hi hj e
  by_cases h1 : i + k < lib.length <;> by_cases h2 : j + k < lib.length
  · rw [Nat.mod_eq_of_lt h1, Nat.mod_eq_of_lt h2] at this; omega
  · rw [Nat.mod_eq_of_lt h1, Nat.mod_eq_sub_mod (by omega), Nat.mod_eq_of_lt (by omega)] at this; omega
  · rw [Nat.mod_eq_of_lt h2, Nat.mod_eq_sub_mod (by omega), Nat.mod_eq_of_lt (by omega)] at this; omega
  · rw [Nat.mod_eq_sub_mod (by omega), Nat.mod_eq_of_lt (by omega), Nat.mod_eq_sub_mod (show j + k ≥ lib.length by omega), Nat.mod_eq_of_lt (by omega)] at this; omega
/-- A name in both. -/
theorem find_rot {lib : List Fn1} (hd : Dist lib) {k : Nat} (hk : k < lib.length) (s : ByteArray) : (findF lib s 0 = -1 ∧ findF (rotL lib k) s 0 = -1) ∨ ∃ (j : Nat) (f : Fn1), j < lib.length ∧ (rotL lib k)[j]? = some f ∧ lib[(j + k) % lib.length]? = some f ∧ findF (rotL lib k) s 0 = j ∧ findF lib s 0 = ((j + k) % lib.length : Nat) := by
  rcases findF_range s (rotL lib k) 0 with e | ⟨j, h1, h2, h3, h4⟩
  · refine .inl ⟨find_none (fun i f hi en => ?_), e⟩
    have hil : i < lib.length := (List.getElem?_eq_some_iff.1 hi).1
    have hm : ((i + (lib.length - k)) % lib.length + k) % lib.length = i := by
      rw [Nat.mod_add_mod, show i + (lib.length - k) + k = i + lib.length by omega, Nat.add_mod_right, Nat.mod_eq_of_lt hil]
    have hg : (rotL lib k)[(i + (lib.length - k)) % lib.length]? = some f := by
      rw [rot_get hk (Nat.mod_lt _ (by omega)), hm]; exact hi
    have := (findF_le (k := 0) hg en).1
    omega
  · have hj : j < lib.length := by rw [rot_len hk] at h1; exact h1
    have hg : (rotL lib k)[j]? = some (rotL lib k)[j] := List.getElem?_eq_getElem h3
    have hg2 := hg
    rw [rot_get hk hj] at hg2
    refine .inr ⟨j, _, hj, hg, hg2, by rw [h2]; simp, ?_⟩
    rw [← h4]
    exact find_uniq hd hg2
theorem sig_rot {lib : List Fn1} (hd : Dist lib) {k : Nat} (hk : k < lib.length) (s : ByteArray) : sigF (rotL lib k) s = sigF lib s := by
  unfold sigF
  rcases find_rot hd hk s with ⟨e1, e2⟩ | ⟨j, f, h1, h2, h3, h4, h5⟩
  · rw [e1, e2]; rfl
  · rw [h4, h5, if_neg (by omega), if_neg (by omega), Int.toNat_natCast, Int.toNat_natCast, h2, h3]
theorem rot_valid {lib : List Fn1} (h : (validR lib).2 = 0) {k : Nat} (hk : k < lib.length) : validR (rotL lib k) = (-1, 0) := by
  have hd := valid_dist h
  refine valid_of (fun i f hi => ?_)
  have li : i < lib.length := by have := (List.getElem?_eq_some_iff.1 hi).1; rw [rot_len hk] at this; exact this
  have hi2 := hi
  rw [rot_get hk li] at hi2
  obtain ⟨_, h2, _, h4, h5, h6, h7, h8⟩ := one_facts (valid_facts h hi2)
  have h30 : i < 30 := by
    have := (one_facts (valid_facts h (List.getElem?_eq_getElem li))).1
    exact this
  refine one_of h30 h2 (by rw [find_uniq (rot_dist hd hk) hi]; omega) h4 h5 h6 h7 ?_
  rw [chk_sig (lib := rotL lib k) (lib' := lib) f.body _ (fun s _ => sig_rot hd hk s)]
  exact h8
mutual
theorem calls_rot {lib : List Fn1} (hd : Dist lib) {k : Nat} (hk : k < lib.length) : ∀ (x : Nd), callsT lib x = (callsT (rotL lib k) x).map fun j : Int => (j + (k : Int)) % (lib.length : Int)
  | .mk kind _ name kids => by
    rw [callsT, callsT, List.map_append, calls_rotL hd hk kids]
    congr 1
    by_cases e : kind = 85
    · rcases find_rot hd hk name with ⟨e1, e2⟩ | ⟨j, f, h1, h2, h3, h4, h5⟩
      · rw [e1, e2, if_neg (by omega)]; rfl
      · rw [h4, h5, if_pos ⟨e, by omega⟩, if_pos ⟨e, by omega⟩]; simp
    · rw [if_neg (fun h => e h.1), if_neg (fun h => e h.1)]; rfl
theorem calls_rotL {lib : List Fn1} (hd : Dist lib) {k : Nat} (hk : k < lib.length) : ∀ (l : List Nd), callsTL lib l = (callsTL (rotL lib k) l).map fun j : Int => (j + (k : Int)) % (lib.length : Int)
  | [] => rfl
  | y :: r => by rw [callsTL, callsTL, List.map_append, calls_rot hd hk y, calls_rotL hd hk r]
end
theorem rot_in {lib : List Fn1} {k i : Nat} {f : Fn1} (h : (rotL lib k)[i]? = some f) : ∃ j : Nat, lib[j]? = some f := by
  have hm : f ∈ rotL lib k := List.mem_of_getElem? h
  unfold rotL at hm
  have hm2 : f ∈ lib := by
    rcases List.mem_append.1 hm with h | h
    · exact List.mem_of_mem_drop h
    · exact List.mem_of_mem_take h
  exact List.getElem?_of_mem hm2
theorem rot_fit {lib : List Fn1} {k : Nat} (hk : k < lib.length) (h : LibFit lib) : LibFit (rotL lib k) := ⟨by rw [rot_len hk]; exact h.1, fun i f hf => by obtain ⟨j, hj⟩ := rot_in hf; exact h.2 j f hj⟩
theorem rot_few {lib : List Fn1} {k : Nat} (h : FewParams lib) : FewParams (rotL lib k) := fun i f hf => by obtain ⟨j, hj⟩ := rot_in hf; exact h j f hj
theorem rot_nodes {lib : List Fn1} {k : Nat} (h : FewNodes lib) : FewNodes (rotL lib k) := fun i f hf => by obtain ⟨j, hj⟩ := rot_in hf; exact h j f hj

end Go.Proofs.YtcoeakdpcigogaaDoor

namespace Go.Proofs.YtcoeakdpcigogaaDoor
open Go.ChangeShapes Go.WideShapes Go.ChangeAt Go.RowKit Go.Sort Go.Maps

def RetNzC (lib : List Fn1) (w : World) (e : Ending) (w' : World) : Prop := Below w.heap.size w w' ∧ (((validR lib).2 ≠ 0 ∧ e = .returned (.tuple #[.slice none 0 0, .int .i64 (validR lib).2])) ∨ ((validR lib).2 = 0 ∧ ∃ A c, e = .returned (.tuple #[.slice A lib.length c, .int .i64 0]) ∧ lib.length ≤ c ∧ AfsAt w' A (normL lib)))

set_option maxRecDepth 100000 in
set_option maxHeartbeats 2000000 in
theorem Normalize_cap {w : World} (hW : Wld w) {lib : List Fn1} {A : Option Addr} {cap : Nat} (hL : LibAt w A lib) (hF : LibFit lib) (hP : FewParams lib) (hN : FewNodes lib) (hl8 : lib.length ≤ 1000) :
    Calls Tryd.prog 11 #[.slice A lib.length cap] w (RetNzC lib w) := by
  have HVA := Lib.hid (valid_any lib A cap w hL hF hP hN)
  have HL := Lib.hid (And.intro hW (And.intro hL hF))
  clear hW hL hF hP hN
  go_enter Tryd.func11, Tryd.ntmps11
  go_wp2_with fail
  refine HVA.out.mono ?_
  clear HVA
  rintro e w1 ⟨rfl, hb1⟩
  by_cases hv : (validR lib).2 = 0
  rotate_left
  · have hne : ((validR lib).2 != 0) = true := by simpa using hv
    have HR := Lib.hid (show RetNzC lib w (.returned (.tuple #[.slice none 0 0, .int .i64 (validR lib).2])) w1 from ⟨hb1, .inl ⟨hv, rfl⟩⟩)
    clear hb1 hv
    generalize (validR lib).2 = ev at hne HR ⊢
    generalize (validR lib).1 = ei
    go_wp2_with fail
    go_ret2
    exact HR.out
  · have hne : ((validR lib).2 != 0) = false := by rw [hv]; rfl
    have HB1 := Lib.hid hb1
    have HVV := Lib.hid hv
    generalize (validR lib).1 = ei
    rw [hv] at hne ⊢
    clear hb1 hv
    obtain ⟨i0, hi0, hz0, hz1, hz2⟩ := info_parts info_af
    have HI := Lib.hid (And.intro hi0 (And.intro hz0 (And.intro hz1 hz2)))
    clear hi0 hz0 hz1 hz2
    go_wp2_with fail
    go_loopw [6, 19] (fun v i wr => ∃ k : Nat, k ≤ lib.length ∧ i = .int .i64 k ∧ Hid (NzR w1 wr v ((normL lib).take k))) (fun _ i _ => lib.length - (intOf i).toNat)
    case atStart => exact ⟨0, by omega, rfl, Lib.hid (NzR.start w1)⟩
    case round =>
      obtain ⟨k, hk, rfl, hrow⟩ := hrel
      by_cases hin : k < lib.length
      · obtain ⟨hb, cs, ho, hr⟩ := hrow.out
        have HSTP := Lib.hid (normL_step hin)
        have hlen : ((normL lib).take k).length = k := by rw [List.length_take]; unfold normL; rw [List.length_map]; omega
        rw [hlen] at ho
        obtain ⟨Av, cv, rfl, hcv, hqq⟩ := own_formB ho
        clear hqq
        have HO := Lib.hid ho
        have HR := Lib.hid hr
        have HBR := Lib.hid hb
        have HBW := Lib.hid (below_step HB1.out HB1.out.size hb)
        obtain ⟨b, o, rfl, hfo⟩ := (HL.out.2.1.mono HBW.out).at_ hin
        have hget : lib[k]? = some lib[k] := List.getElem?_eq_getElem hin
        have HNE := Lib.hid (nr_need HVV.out hget)
        have HFI := Lib.hid (HL.out.2.2.2 k _ hget)
        generalize lib[k] = f at *
        have hlt := hfo.lt
        obtain ⟨c0, ⟨A1, cp1, c1, hps⟩, c2, hbody⟩ := hfo
        obtain ⟨A3, cp3, d0, d1, d2, d3, hks⟩ := hbody.open_
        have bx := bx_new wr #[.string f.name, .slice A1 f.params.length cp1, .bool f.list, .int .u8 f.body.kind, .int .i64 f.body.num, .string f.body.name, .slice A3 f.body.kids.length cp3] 55
        have HBX := Lib.hid (below_box wr (Obj.cells #[.string f.name, .slice A1 f.params.length cp1, .bool f.list, .int .u8 f.body.kind, .int .i64 f.body.num, .string f.body.name, .slice A3 f.body.kids.length cp3] 55))
        have HBF := Lib.hid (below_step HBW.out HBW.out.size HBX.out)
        have HPK := Lib.hid (And.intro (hps.mono HBX.out) (hks.mono HBX.out))
        have rk1 : (0 : Int) ≤ k := by omega
        clear hrow ho hr hb hget hps hks hbody
        go_upto_region 8 with fail
        clear c0 c1 c2 d0 d1 d2 d3
        have HFC := Lib.hid (normalize_any (cap := cap) (cp := cp1) (ck := cp3) (HL.out.1.below HBF.out) (HL.out.2.1.mono HBF.out) HL.out.2.2 HPK.out.1 HPK.out.2 HFI.out HNE.out.1 HNE.out.2.1 HNE.out.2.2.1 HNE.out.2.2.2.1 HNE.out.2.2.2.2)
        have HBX7 := Lib.hid bx
        clear bx
        generalize wr.alloc _ = W at HBX HBF HPK HFC HBX7 ⊢
        obtain ⟨a0, a1, a2, a3, a4, a5, a6⟩ := HBX7.out.seven
        have hlt7 := HBX7.out.lt
        go_wp2_with fail
        refine HFC.out.mono ?_
        clear HFC a0 a1 a2 a3 a4 a5 a6 hlt7
        rintro e w5 ⟨cs5, rfl, hc5, hb5⟩
        have HC5 := Lib.hid hc5
        have HB5 := Lib.hid hb5
        have hszs : w1.heap.size ≤ w5.heap.size := by have := HBR.out.size; have := HBX.out.size; have := hb5.size; omega
        obtain ⟨Ap5, cp5, At5, ct5, Ab5, cb5, rfl, _⟩ := hc5
        clear hb5
        go_wp2_with (at_builtin; go_loud (refine wpList_app _ rfl _ _ 25 rfl w1.heap.size 39 i0 (.agg #[.string ⟨#[]⟩, .slice none 0 0, .bool false, .slice none 0 0, .slice none 0 0, .string ⟨#[]⟩]) 6 112 Tryd.underlying25 HI.out.1 HI.out.2.1 HI.out.2.2.1 HI.out.2.2.2 rfl (by decide) (.slice Av k cv) k cs rfl (own_below HO.out (below_step (below_step HBX.out HBX.out.size HB5.out) (by have := HBX.out.size; have := HB5.out.size; omega) (below_box w5 _))) (some ⟨w5.heap.size, 0, none⟩) 1 1 [.string (normF lib f).name, .slice Ap5 (normF lib f).params.length cp5, .bool (normF lib f).list, .slice At5 (normF lib f).temps.length ct5, .slice Ab5 (normF lib f).body.length cb5, .string (normF lib f).result] rfl rfl (cells_newC w5 rfl _ _) (fun u hu => by simp at hu; rcases hu with rfl | rfl | rfl | rfl | rfl | rfl <;> rfl) (by unfold maxLen; omega) (by omega) (by simp; omega) ?_; intro v' w9 hown' hgrow hat))
        have hpu := NzR.push (l := (normL lib).take k) HBR.out (by rw [hlen]; exact HO.out) HR.out HBX.out HB5.out HC5.out (by rw [hlen]; exact hown') hgrow hat
        rw [← HSTP.out] at hpu
        exact ⟨⟨k + 1, by omega, by go_num, Lib.hid hpu⟩, by simp [intOf]; omega⟩
      · obtain rfl : k = lib.length := by omega
        have hnl : (normL lib).length = lib.length := by unfold normL; rw [List.length_map]
        rw [List.take_of_length_le (by omega)] at hrow
        obtain ⟨A5, c5, rfl, h5⟩ := hrow.out.done
        have hcp : lib.length ≤ c5 := by
          obtain ⟨_, cs9, ho9, _⟩ := hrow.out
          obtain ⟨A9, c9, e9, h9, _⟩ := own_formB ho9
          cases e9
          omega
        have HE := Lib.hid (show RetNzC lib w (.returned (.tuple #[.slice A5 lib.length c5, .int .i64 0])) wr from ⟨below_step HB1.out HB1.out.size hrow.out.1, .inr ⟨HVV.out, A5, c5, rfl, hcp, h5⟩⟩)
        rw [hnl]
        clear hrow h5 hcp
        go_wp2_with fail
        go_ret2
        exact HE.out

end Go.Proofs.YtcoeakdpcigogaaDoor

namespace Go.Proofs.YtcoeakdpcigogaaDoor
open Go.ChangeShapes Go.WideShapes Go.ChangeAt Go.RowKit Go.Sort Go.Maps

mutual
def cnT : Nd → Nat
  | .mk _ _ _ l => cnA l 1
def cnA : List Nd → Nat → Nat
  | [], s => s
  | y :: r, s => if s < 400 then cnA r (s + cnT y) else s
end
theorem cnT_eq (x : Nd) : cnT x = cnA x.kids 1 := by cases x; rw [cnT]; rfl
mutual
theorem cnT_le : ∀ x : Nd, cnT x ≤ sizeT x
  | .mk _ _ _ l => by
    rw [cnT, sizeT]
    exact cnA_le l 1
theorem cnA_le : ∀ (l : List Nd) (s : Nat), cnA l s ≤ s + sizeTL l
  | [], s => by rw [cnA]; omega
  | y :: r, s => by
    rw [cnA, sizeTL]
    have h1 := cnT_le y
    split
    · have h2 := cnA_le r (s + cnT y); omega
    · omega
end
mutual
theorem cnT_ge : ∀ x : Nd, cnT x < 400 → sizeT x = cnT x
  | .mk _ _ _ l, h => by
    rw [cnT] at h ⊢
    rw [sizeT, cnA_ge l 1 h]
theorem cnA_ge : ∀ (l : List Nd) (s : Nat), cnA l s < 400 → cnA l s = s + sizeTL l
  | [], s, h => by rw [cnA, sizeTL]; omega
  | y :: r, s, h => by
    rw [cnA] at h ⊢
    rw [sizeTL]
    by_cases hs : s < 400
    · rw [if_pos hs] at h ⊢
      have h2 := cnA_ge r (s + cnT y) h
      have h1 := cnT_ge y (by omega)
      omega
    · rw [if_neg hs] at h; omega
end
theorem cnA_step {l : List Nd} {k s : Nat} (h : k < l.length) : cnA (l.drop k) s = if s < 400 then cnA (l.drop (k + 1)) (s + cnT l[k]) else s := by
  rw [List.drop_eq_getElem_cons h, cnA]
theorem sizeTL_len (l : List Nd) : l.length ≤ sizeTL l := by
  induction l with
  | nil => simp
  | cons y r ih => rw [sizeTL, List.length_cons, sizeT_eq]; omega

set_option maxRecDepth 100000 in
set_option maxHeartbeats 4000000 in
theorem count_any : ∀ (N : Nat) (x : Nd), sizeT x ≤ N → N ≤ 2000000 → ∀ (A : Option Addr) (c : Nat) (w : World), NdsAt w A x.kids →
    Calls Tryd.prog 26 #[.agg #[.int .u8 x.kind, .int .i64 x.num, .string x.name, .slice A x.kids.length c]] w fun e w' => e = .returned (.int .i64 (cnT x)) ∧ Below w.heap.size w w' := by
  intro N
  induction N with
  | zero => intro x h; rw [sizeT_eq] at h; omega
  | succ N ih =>
    intro x hx hN A c w hK
    have HK := Lib.hid hK
    have HIH := Lib.hid ih
    have hz := sizeT_eq x
    have hkl := sizeTL_len x.kids
    have HBX := Lib.hid (below_box w (Obj.cells #[.int .u8 x.kind, .int .i64 x.num, .string x.name, .slice A x.kids.length c] 53))
    have HRX := Lib.hid (bx_new w #[.int .u8 x.kind, .int .i64 x.num, .string x.name, .slice A x.kids.length c] 53)
    have HEQ := Lib.hid (cnT_eq x)
    clear hK ih
    go_enter Tryd.func26, Tryd.ntmps26
    go_wp2_with fail
    generalize w.alloc _ = W at HBX HRX ⊢
    go_loopw [3, 4] (fun s i wr => ∃ (k sk : Nat), k ≤ x.kids.length ∧ i = .int .i64 k ∧ s = .int .i64 sk ∧ sk ≤ 1 + sizeTL (x.kids.take k) ∧ Hid (cnT x = cnA (x.kids.drop k) sk) ∧ Hid (Below W.heap.size W wr)) (fun _ i _ => x.kids.length - (intOf i).toNat)
    case atStart => exact ⟨0, 1, by omega, rfl, rfl, by omega, Lib.hid (by rw [HEQ.out, List.drop_zero]), Lib.hid (Below.refl _ _)⟩
    case round =>
      obtain ⟨k, sk, hk, rfl, rfl, hsk, hE, hb⟩ := hrel
      have HBr := Lib.hid (below_step HBX.out HBX.out.size hb.out)
      have HRr := Lib.hid (HRX.out.below hb.out)
      obtain ⟨a0, a1, a2, a3, _⟩ := HRr.out.four
      have hla := HRr.out.lt
      have hst := sizeTL_le (l := x.kids) k
      by_cases hin : k < x.kids.length
      · have HST := Lib.hid (hE.out.trans (cnA_step hin))
        by_cases h4 : sk < 400
        · have HST2 := Lib.hid (HST.out.trans (if_pos h4))
          have HTK := Lib.hid (sizeTL_step hin)
          have hbt := sizeTL_le (l := x.kids) (k + 1)
          rw [HTK.out] at hbt
          obtain ⟨b, o, rfl, hbo⟩ := (HK.out.mono HBr.out).at_ hin
          obtain ⟨A2, c2, d0, d1, d2, d3, hks⟩ := hbo.open_
          generalize x.kids[k] = y at *
          have hle := cnT_le y
          have hlb := block_lt_of_cell d0
          have HC := Lib.hid (HIH.out y (by omega) (by omega) A2 c2 wr hks)
          have rk1 : (0 : Int) ≤ k := by omega
          clear hbo hks hE HST
          generalize cnT y = n at *
          go_wp2_with fail
          refine HC.out.mono ?_
          clear HC a0 a1 a2 a3 hla d0 d1 d2 d3 hlb
          rintro e w5 ⟨rfl, hb5⟩
          have q := Lib.hid (below_step hb.out hb.out.size hb5)
          have hwr : IntKind.i64.wrap ((sk : Int) + (n : Int)) = ((sk + n : Nat) : Int) := by rw [IntKind.wrap_i64] <;> omega
          clear hb5
          go_wp2_with fail
          exact ⟨⟨k + 1, sk + n, by omega, by go_num, rfl, by rw [HTK.out]; omega, HST2, q⟩, by simp [intOf]; omega⟩
        · have HST2 := Lib.hid (HST.out.trans (if_neg h4))
          clear HST hE
          go_wp2_with fail
          go_ret
          exact ⟨ret_i64 (by rw [HST2.out]), HBr.out⟩
      · obtain rfl : k = x.kids.length := by omega
        rw [List.drop_length, cnA] at hE
        go_wp2_with fail
        go_ret
        exact ⟨ret_i64 (by rw [hE.out]), HBr.out⟩
def smallB (l : List Fn1) : Bool := decide (l.length ≤ 8) && l.all fun f => decide (cnT f.body ≤ 120)
set_option maxRecDepth 100000 in
set_option maxHeartbeats 4000000 in
theorem small38_any (l : List Fn1) (A : Option Addr) (c : Nat) (w : World) (hA : LibAt w A l) (hz : ∀ (k : Nat) (f : Fn1), l[k]? = some f → sizeT f.body ≤ 1900000) (hl : l.length ≤ 9223372036854775807) :
    Calls Tryd.prog 10 #[.slice A l.length c] w fun e w' => e = .returned (.int .i64 (oneB (smallB l))) ∧ Below w.heap.size w w' := by
  have HA := Lib.hid (And.intro hA hz)
  clear hA hz
  by_cases h8 : 8 < l.length
  · have HE := Lib.hid (show oneB (smallB l) = 0 by unfold oneB smallB; rw [decide_eq_false (by omega : ¬ l.length ≤ 8)]; simp)
    go_enter Tryd.func10, Tryd.ntmps10
    go_wp2_with fail
    go_ret
    exact ⟨ret_i64 HE.out.symm, Below.refl _ _⟩
  have HEQ := Lib.hid (show smallB l = (l.drop 0).all (fun f => decide (cnT f.body ≤ 120)) by unfold smallB; rw [decide_eq_true (by omega : l.length ≤ 8), List.drop_zero]; rfl)
  go_enter Tryd.func10, Tryd.ntmps10
  go_wp2_with fail
  go_loopw [3] (fun i wr => ∃ k : Nat, k ≤ l.length ∧ i = .int .i64 k ∧ Hid (smallB l = (l.drop k).all (fun f => decide (cnT f.body ≤ 120))) ∧ Hid (Below w.heap.size w wr)) (fun i _ => l.length - (intOf i).toNat)
  case atStart => exact ⟨0, by omega, rfl, HEQ, Lib.hid (Below.refl _ _)⟩
  case round =>
    obtain ⟨k, hk, rfl, hE, hb⟩ := hrel
    by_cases hin : k < l.length
    · have HST := Lib.hid (hE.out.trans (by rw [List.drop_eq_getElem_cons hin, List.all_cons]) : smallB l = (decide (cnT l[k].body ≤ 120) && (l.drop (k + 1)).all (fun f => decide (cnT f.body ≤ 120))))
      obtain ⟨b, o, rfl, hfo⟩ := (HA.out.1.mono hb.out).at_ hin
      have hzk := HA.out.2 k _ (List.getElem?_eq_getElem hin)
      generalize l[k] = f at *
      have hlt := hfo.lt
      obtain ⟨c0, ⟨A1, cp1, c1, hps⟩, c2, hbody⟩ := hfo
      obtain ⟨A3, cp3, d0, d1, d2, d3, hks⟩ := hbody.open_
      have HC := Lib.hid (count_any 2000000 f.body (by omega) (by omega) A3 cp3 wr hks)
      have hcl := cnT_le f.body
      have rk1 : (0 : Int) ≤ k := by omega
      clear hbody hks hps hE
      generalize cnT f.body = n at *
      go_wp2_with fail
      refine HC.out.mono ?_
      clear HC c0 c1 c2 d0 d1 d2 d3 hlt
      rintro e w5 ⟨rfl, hb5⟩
      have q5 := Lib.hid (below_step hb.out hb.out.size hb5)
      clear hb5
      by_cases h120 : n ≤ 120
      · have HST2 := Lib.hid (show smallB l = (l.drop (k + 1)).all (fun f => decide (cnT f.body ≤ 120)) by rw [HST.out, decide_eq_true h120]; rfl)
        go_wp2_with fail
        exact ⟨⟨k + 1, by omega, by go_num, HST2, q5⟩, by simp [intOf]; omega⟩
      · have HE := Lib.hid (show oneB (smallB l) = 0 by unfold oneB; rw [HST.out, decide_eq_false h120]; simp)
        go_wp2_with fail
        go_ret
        exact ⟨ret_i64 HE.out.symm, q5.out⟩
    · obtain rfl : k = l.length := by omega
      rw [List.drop_length] at hE
      have HE := Lib.hid (show oneB (smallB l) = 1 by unfold oneB; rw [hE.out]; rfl)
      go_wp2_with fail
      go_ret
      exact ⟨ret_i64 HE.out.symm, hb.out⟩
/-- What small gives. -/
theorem small_facts {l : List Fn1} (h : smallB l = true) : l.length ≤ 8 ∧ ∀ f ∈ l, sizeT f.body ≤ 120 := by
  unfold smallB at h
  rw [Bool.and_eq_true] at h
  refine ⟨of_decide_eq_true h.1, fun f hf => ?_⟩
  have h2 := of_decide_eq_true (List.all_eq_true.1 h.2 f hf)
  have := cnT_ge f.body (by omega)
  omega

end Go.Proofs.YtcoeakdpcigogaaDoor

namespace Go.Proofs.YtcoeakdpcigogaaDoor

def envFit (env : ByteArray → Option Pm) : Prop := ∀ s p, env s = some p → p.name.size ≤ 9223372036854775807
def tsFit (ts : List Pm) : Prop := ∀ t ∈ ts, t.name.size ≤ 9223372036854775807
def bsFit (l : List Bd) : Prop := ∀ y ∈ l, BdFit y
theorem tmpN_size {n : Nat} (h : n ≤ 1000000) : (tmpN n).size ≤ 9223372036854775807 := by
  have := Lib.itoa_length_le (n : Int) (by omega) (by omega)
  show (116 :: Lib.itoa (n : Int)).toArray.size ≤ _
  simp; omega
structure Ft (r : Nr) (m : Nat) : Prop where
  bs : bsFit r.bs
  p : r.p.name.size ≤ 9223372036854775807
  ts : tsFit r.ts
  sz : bszL r.bs ≤ m
structure FtA (r : Na) (m k : Nat) : Prop where
  bs : bsFit r.bs
  args : ∀ a ∈ r.args, a.size ≤ 9223372036854775807
  al : r.args.length = k
  ts : tsFit r.ts
  sz : bszL r.bs ≤ m
theorem bsFit.app {a b : List Bd} (h1 : bsFit a) (h2 : bsFit b) : bsFit (a ++ b) := fun y hy => by
  rcases List.mem_append.1 hy with e | e
  · exact h1 y e
  · exact h2 y e
theorem bsFit.one {b : Bd} (h : BdFit b) : bsFit [b] := fun y hy => by simp at hy; rw [hy]; exact h
theorem bsFit.nil : bsFit [] := fun y hy => by cases hy
theorem tsFit.snoc {ts : List Pm} (h : tsFit ts) {n : Nat} (hn : n ≤ 1000000) (l : Bool) : tsFit (ts ++ [⟨tmpN n, l⟩]) := fun y hy => by
  rcases List.mem_append.1 hy with e | e
  · exact h y e
  · simp at e; rw [e]; exact tmpN_size hn
theorem tsFit.setL {ts : List Pm} (h : tsFit ts) {i : Nat} (hi : i ≤ 1000000) (b : Bool) : tsFit (setL ts i b) := fun y hy => by
  unfold Go.Proofs.YtcoeakdpcigogaaDoor.setL at hy
  rcases List.mem_or_eq_of_mem_set hy with e | e
  · exact h y e
  · rw [e]; exact tmpN_size hi
theorem ft_put {bs : List Bd} {ts : List Pm} {m : Nat} (hb : bsFit bs) (ht : tsFit ts) (hz : bszL bs ≤ m) (hl : ts.length ≤ 1000000) (l : Bool) (op : Nat) (num : Int) (nm : ByteArray) (args : List ByteArray) (hn : nm.size ≤ 9223372036854775807) (ha : ∀ a ∈ args, a.size ≤ 9223372036854775807) (hal : args.length ≤ 1000000) : Ft (Nr.put bs l ts op num nm args) (m + 1) := by
  refine ⟨hb.app (bsFit.one (.mk (tmpN_size hl) hn ha (by show args.length ≤ _; omega) (fun y hy => by cases hy) (fun y hy => by cases hy))), tmpN_size hl, ht.snoc hl l, ?_⟩
  show bszL (bs ++ [_]) ≤ _
  rw [bszL_append, bszL, bszL, bszT, bszL]
  omega
theorem envFit.set {env : ByteArray → Option Pm} (h : envFit env) {s : ByteArray} {p : Pm} (hp : p.name.size ≤ 9223372036854775807) : envFit (setP env s (some p)) := fun t q e => by
  unfold setP at e
  by_cases ht : t = s
  · rw [if_pos ht] at e; cases e; exact hp
  · rw [if_neg ht] at e; exact h t q e
theorem ts_len {lib : List Fn1} (x : Nd) (env : ByteArray → Option Pm) (ts : List Pm) : (nE lib x env ts).ts.length ≤ ts.length + (3 * sizeT x - 1) := by
  obtain ⟨ex, e, h⟩ := (nE_ext lib x env ts).pre
  rw [e, List.length_append]; omega
theorem eS_size : eS.size ≤ 9223372036854775807 := by decide
theorem ft0 {ts : List Pm} (h : tsFit ts) (m : Nat) : Ft ⟨[], ⟨eS, false⟩, ts⟩ m := ⟨bsFit.nil, eS_size, h, by show bszL [] ≤ _; rw [bszL]; omega⟩
mutual
theorem nE_fit (lib : List Fn1) : ∀ (x : Nd) (env : ByteArray → Option Pm) (ts : List Pm), NdFit x → envFit env → tsFit ts → ts.length + 3 * sizeT x ≤ 900000 → Ft (nE lib x env ts) (3 * sizeT x - 1)
  | .mk k n s l, env, ts, hx, he, ht, hl => by
    have hz : sizeT (.mk k n s l) = 1 + sizeTL l := by rw [sizeT]
    have hkids : ∀ y ∈ l, NdFit y := fun y hy => by
      obtain ⟨j, hj⟩ := List.getElem?_of_mem hy
      exact hx.kid (k := j) hj
    have hs : s.size ≤ 9223372036854775807 := hx.facts.2.2.1
    have hll : l.length ≤ sizeTL l := by
      clear hkids hx hz hl
      induction l with
      | nil => simp
      | cons y r ih => rw [sizeTL, List.length_cons, sizeT_eq]; omega
    rw [hz] at hl ⊢
    rw [nE]
    split
    · refine ⟨bsFit.nil, ?_, ht, by rw [bszL]; omega⟩
      cases e : env s with
      | none => exact eS_size
      | some p => exact he s p e
    split
    · have h := nLet_fit lib s l env ts hkids he ht (by omega)
      exact ⟨h.bs, h.p, h.ts, by have := h.sz; omega⟩
    split
    · have h := nIf_fit lib l env ts hkids he ht (by omega)
      exact ⟨h.bs, h.p, h.ts, by have := h.sz; omega⟩
    have h := nArgs_fit lib (decide (k = 85)) l env ts hkids he ht (by omega)
    have hx2 := (nArgs_ext lib (decide (k = 85)) l env ts).pre
    obtain ⟨ex, e, hex⟩ := hx2
    have hlen : (nArgs lib (decide (k = 85)) l env ts).ts.length ≤ 1000000 := by rw [e, List.length_append]; omega
    dsimp only
    split
    · have h2 := ft_put h.bs h.ts h.sz hlen (((lib[(findF lib s 0).toNat]?).map Fn1.list).getD false) 85 0 s (nArgs lib (decide (k = 85)) l env ts).args hs h.args (by rw [h.al]; omega)
      exact ⟨h2.bs, h2.p, h2.ts, by have := h2.sz; omega⟩
    · have h2 := ft_put h.bs h.ts h.sz hlen (listK k) k n eS (nArgs lib (decide (k = 85)) l env ts).args eS_size h.args (by rw [h.al]; omega)
      exact ⟨h2.bs, h2.p, h2.ts, by have := h2.sz; omega⟩
theorem nLet_fit (lib : List Fn1) (s : ByteArray) : ∀ (l : List Nd) (env : ByteArray → Option Pm) (ts : List Pm), (∀ y ∈ l, NdFit y) → envFit env → tsFit ts → ts.length + 3 * sizeTL l ≤ 900000 → Ft (nLet lib s l env ts) (3 * sizeTL l)
  | [], env, ts, _, _, ht, _ => by
    simp only [nLet]; exact ft0 ht _
  | [_], env, ts, _, _, ht, _ => by
    simp only [nLet]; exact ft0 ht _
  | [a, b], env, ts, hk, he, ht, hl => by
    have ha := sizeT_eq a
    have hb := sizeT_eq b
    simp only [sizeTL] at hl ⊢
    have h1 := nE_fit lib a env ts (hk a (by simp)) he ht (by omega)
    have hlen := ts_len (lib := lib) a env ts
    have h2 := nE_fit lib b (setP env s (some (nE lib a env ts).p)) (nE lib a env ts).ts (hk b (by simp)) (he.set h1.p) h1.ts (by omega)
    rw [nLet]
    refine ⟨h1.bs.app h2.bs, h2.p, h2.ts, ?_⟩
    show bszL (_ ++ _) ≤ _
    rw [bszL_append]
    have := h1.sz
    have := h2.sz
    omega
  | _ :: _ :: _ :: _, env, ts, _, _, ht, _ => by
    simp only [nLet]; exact ft0 ht _
theorem nIf_fit (lib : List Fn1) : ∀ (l : List Nd) (env : ByteArray → Option Pm) (ts : List Pm), (∀ y ∈ l, NdFit y) → envFit env → tsFit ts → ts.length + 3 * sizeTL l ≤ 900000 → Ft (nIf lib l env ts) (3 * sizeTL l)
  | [], env, ts, _, _, ht, _ => by
    simp only [nIf]; exact ft0 ht _
  | [_], env, ts, _, _, ht, _ => by
    simp only [nIf]; exact ft0 ht _
  | [_, _], env, ts, _, _, ht, _ => by
    simp only [nIf]; exact ft0 ht _
  | [c, a, b], env, ts, hk, he, ht, hl => by
    have hc := sizeT_eq c
    have ha := sizeT_eq a
    have hb := sizeT_eq b
    simp only [sizeTL] at hl ⊢
    have h0 := nE_fit lib c env ts (hk c (by simp)) he ht (by omega)
    have hl0 := ts_len (lib := lib) c env ts
    have h1 := nE_fit lib a env ((nE lib c env ts).ts ++ [⟨tmpN (nE lib c env ts).ts.length, false⟩]) (hk a (by simp)) he (h0.ts.snoc (by omega) _) (by rw [List.length_append]; simp; omega)
    have hl1 := ts_len (lib := lib) a env ((nE lib c env ts).ts ++ [⟨tmpN (nE lib c env ts).ts.length, false⟩])
    rw [List.length_append] at hl1
    simp at hl1
    have h2 := nE_fit lib b env (setL (nE lib a env ((nE lib c env ts).ts ++ [⟨tmpN (nE lib c env ts).ts.length, false⟩])).ts (nE lib c env ts).ts.length (nE lib a env ((nE lib c env ts).ts ++ [⟨tmpN (nE lib c env ts).ts.length, false⟩])).p.list) (hk b (by simp)) he (h1.ts.setL (by omega) _) (by unfold setL; rw [List.length_set]; omega)
    rw [nIf]
    have hti : (tmpN (nE lib c env ts).ts.length).size ≤ 9223372036854775807 := tmpN_size (by omega)
    refine ⟨h0.bs.app (bsFit.one (.mk hti eS_size (fun a ha => by rw [List.mem_singleton.1 ha]; exact h0.p) (by show 1 ≤ 100000000000000; omega) (h1.bs.app (bsFit.one (.mk hti eS_size (fun a ha => by rw [List.mem_singleton.1 ha]; exact h1.p) (by show 1 ≤ 100000000000000; omega) (fun y hy => by cases hy) (fun y hy => by cases hy)))) (h2.bs.app (bsFit.one (.mk hti eS_size (fun a ha => by rw [List.mem_singleton.1 ha]; exact h2.p) (by show 1 ≤ 100000000000000; omega) (fun y hy => by cases hy) (fun y hy => by cases hy)))))), hti, h2.ts.setL (by omega) _, ?_⟩
    show bszL (_ ++ [Bd.mk _ _ _ _ _ _ (_ ++ [_]) (_ ++ [_])]) ≤ _
    simp only [bszL_append, bszL, bszT]
    have := h0.sz
    have := h1.sz
    have := h2.sz
    omega
  | _ :: _ :: _ :: _ :: _, env, ts, _, _, ht, _ => by
    simp only [nIf]; exact ft0 ht _
theorem nArgs_fit (lib : List Fn1) (call : Bool) : ∀ (l : List Nd) (env : ByteArray → Option Pm) (ts : List Pm), (∀ y ∈ l, NdFit y) → envFit env → tsFit ts → ts.length + 3 * sizeTL l ≤ 900000 → FtA (nArgs lib call l env ts) (3 * sizeTL l) l.length
  | [], env, ts, _, _, ht, _ => by
    rw [nArgs]
    exact ⟨bsFit.nil, (fun a ha => by cases ha), rfl, ht, (by show bszL [] ≤ _; rw [bszL]; omega)⟩
  | y :: r, env, ts, hk, he, ht, hl => by
    have hy := sizeT_eq y
    simp only [sizeTL] at hl ⊢
    have h1 := nE_fit lib y env ts (hk y (by simp)) he ht (by omega)
    have hl1 := ts_len (lib := lib) y env ts
    have h1' : Ft (Nr.arg call y (nE lib y env ts)) (3 * sizeT y) ∧ (Nr.arg call y (nE lib y env ts)).ts.length ≤ ts.length + 3 * sizeT y := by
      unfold Nr.arg
      split
      · have h := ft_put h1.bs h1.ts h1.sz (by omega) (nE lib y env ts).p.list 81 0 eS [(nE lib y env ts).p.name] eS_size (fun a ha => by simp at ha; rw [ha]; exact h1.p) (by simp)
        exact ⟨⟨h.bs, h.p, h.ts, by have := h.sz; omega⟩, by simp [Nr.put]; omega⟩
      · exact ⟨⟨h1.bs, h1.p, h1.ts, by have := h1.sz; omega⟩, by omega⟩
    have h2 := nArgs_fit lib call r env (Nr.arg call y (nE lib y env ts)).ts (fun z hz => hk z (List.mem_cons_of_mem _ hz)) he h1'.1.ts (by have := h1'.2; omega)
    rw [nArgs]
    refine ⟨h1'.1.bs.app h2.bs, fun a ha => ?_, by simp [h2.al], h2.ts, ?_⟩
    · rcases List.mem_cons.1 ha with e | e
      · rw [e]; exact h1'.1.p
      · exact h2.args a e
    · show bszL (_ ++ _) ≤ _
      rw [bszL_append]
      have := h1'.1.sz
      have := h2.sz
      omega
end
theorem envP_fit {l : List Pm} (h : ∀ p ∈ l, p.name.size ≤ 9223372036854775807) : envFit (envP l) := by
  unfold envP
  have key : ∀ (l : List Pm) (e : ByteArray → Option Pm), (∀ p ∈ l, p.name.size ≤ 9223372036854775807) → envFit e → envFit (l.foldl (fun env p => setP env p.name (some p)) e) := by
    intro l
    induction l with
    | nil => intro e _ he; exact he
    | cons p r ih =>
      intro e hl he
      rw [List.foldl_cons]
      exact ih _ (fun q hq => hl q (List.mem_cons_of_mem _ hq)) (he.set (hl p (List.mem_cons_self ..)))
  exact key l _ h fun s p e => by cases e
theorem normF_fit {lib : List Fn1} {f : Fn1} (hf : FnFit f) (hp : f.params.length ≤ 1000) (hz : sizeT f.body ≤ 30000) : AfFit (normF lib f) := by
  have hpn : ∀ p ∈ f.params, p.name.size ≤ 9223372036854775807 := fun p hp => by
    obtain ⟨k, hk⟩ := List.getElem?_of_mem hp
    exact hf.2.1.2 k p hk
  have h := nE_fit lib f.body (envP f.params) [] hf.2.2 (envP_fit hpn) (fun t ht => by cases ht) (by simp; omega)
  have hl := ts_len (lib := lib) f.body (envP f.params) []
  exact ⟨hpn, h.ts, hp, by simp at hl; show (nE lib f.body (envP f.params) []).ts.length ≤ _; omega, h.bs, by have := h.sz; show bszL (nE lib f.body (envP f.params) []).bs ≤ _; omega, h.p⟩

end Go.Proofs.YtcoeakdpcigogaaDoor

namespace Go.Proofs.YtcoeakdpcigogaaDoor

/-- The type of the function of that name. -/
def listF (lib : List Fn1) (s : ByteArray) : Bool := ((lib[(findF lib s 0).toNat]?).map Fn1.list).getD false
def LEq (lib lib' : List Fn1) : Prop := ∀ s, 0 ≤ findF lib s 0 → listF lib s = listF lib' s
mutual
theorem nE_congr {lib lib' : List Fn1} (h : LEq lib lib') : ∀ (x : Nd) (env : ByteArray → Option Pm) (ts : List Pm), arT lib x = true → nE lib x env ts = nE lib' x env ts
  | .mk k n s l, env, ts, ha => by
    rw [arT, Bool.and_eq_true] at ha
    obtain ⟨h1, h2⟩ := ha
    rw [nE, nE]
    by_cases h81 : k = 81
    · rw [if_pos h81, if_pos h81]
    rw [if_neg h81, if_neg h81]
    by_cases h84 : k = 84
    · rw [if_pos h84, if_pos h84]; exact nLet_congr h s l env ts h2
    rw [if_neg h84, if_neg h84]
    by_cases h83 : k = 83
    · rw [if_pos h83, if_pos h83]; exact nIf_congr h l env ts h2
    rw [if_neg h83, if_neg h83]
    have e := nArgs_congr h (decide (k = 85)) l env ts h2
    rw [e]
    dsimp only
    by_cases h85 : k = 85
    · rw [if_pos h85, if_pos h85]
      rw [if_pos h85] at h1
      simp only [Bool.and_eq_true, decide_eq_true_eq] at h1
      have h3 := h s h1.1
      unfold listF at h3
      rw [h3]
    · rw [if_neg h85, if_neg h85]
theorem nLet_congr {lib lib' : List Fn1} (h : LEq lib lib') (s : ByteArray) : ∀ (l : List Nd) (env : ByteArray → Option Pm) (ts : List Pm), arTL lib l = true → nLet lib s l env ts = nLet lib' s l env ts
  | [], env, ts, _ => by simp only [nLet]
  | [_], env, ts, _ => by simp only [nLet]
  | [a, b], env, ts, ha => by
    have e1 := nE_congr h a env ts (arTL_kid ha (k := 0) rfl)
    rw [nLet, nLet, e1, nE_congr h b _ _ (arTL_kid ha (k := 1) rfl)]
  | _ :: _ :: _ :: _, env, ts, _ => by simp only [nLet]
theorem nIf_congr {lib lib' : List Fn1} (h : LEq lib lib') : ∀ (l : List Nd) (env : ByteArray → Option Pm) (ts : List Pm), arTL lib l = true → nIf lib l env ts = nIf lib' l env ts
  | [], env, ts, _ => by simp only [nIf]
  | [_], env, ts, _ => by simp only [nIf]
  | [_, _], env, ts, _ => by simp only [nIf]
  | [c, a, b], env, ts, ha => by
    have e0 := fun env ts => nE_congr h c env ts (arTL_kid ha (k := 0) rfl)
    have e1 := fun env ts => nE_congr h a env ts (arTL_kid ha (k := 1) rfl)
    have e2 := fun env ts => nE_congr h b env ts (arTL_kid ha (k := 2) rfl)
    rw [nIf, nIf]
    simp only [e0, e1, e2]
  | _ :: _ :: _ :: _ :: _, env, ts, _ => by simp only [nIf]
theorem nArgs_congr {lib lib' : List Fn1} (h : LEq lib lib') (call : Bool) : ∀ (l : List Nd) (env : ByteArray → Option Pm) (ts : List Pm), arTL lib l = true → nArgs lib call l env ts = nArgs lib' call l env ts
  | [], env, ts, _ => by rw [nArgs, nArgs]
  | y :: r, env, ts, ha => by
    have e1 := nE_congr h y env ts (arTL_kid ha (k := 0) rfl)
    have h2 : arTL lib r = true := by
      rw [arTL] at ha
      simp only [Bool.and_eq_true] at ha
      exact ha.2
    rw [nArgs, nArgs, e1]
    rw [nArgs_congr h call r env _ h2]
end
theorem normF_congr {lib lib' : List Fn1} (h : LEq lib lib') {f : Fn1} (ha : arT lib f.body = true) : normF lib f = normF lib' f := by
  unfold normF
  rw [nE_congr h f.body _ _ ha]

/-! ### A library in reverse (plain) -/
theorem rev_get {lib : List Fn1} {j : Nat} (hj : j < lib.length) : lib.reverse[j]? = lib[lib.length - 1 - j]? := List.getElem?_reverse hj
theorem rev_dist {lib : List Fn1} (hd : Dist lib) : Dist lib.reverse := fun i j f g hi hj e => by
  have li : i < lib.length := by have := (List.getElem?_eq_some_iff.1 hi).1; simpa using this
  have lj : j < lib.length := by have := (List.getElem?_eq_some_iff.1 hj).1; simpa using this
  rw [rev_get li] at hi
  rw [rev_get lj] at hj
  have := hd _ _ _ _ hi hj e
  omega
theorem find_rev {lib : List Fn1} (hd : Dist lib) (s : ByteArray) : (findF lib s 0 = -1 ∧ findF lib.reverse s 0 = -1) ∨ ∃ (j : Nat) (f : Fn1), j < lib.length ∧ lib[j]? = some f ∧ lib.reverse[lib.length - 1 - j]? = some f ∧ findF lib s 0 = j ∧ findF lib.reverse s 0 = ((lib.length - 1 - j : Nat) : Int) := by
  rcases findF_range s lib 0 with e | ⟨j, h1, h2, h3, h4⟩
  · refine .inl ⟨e, find_none (fun i f hi en => ?_)⟩
    have hil : i < lib.length := by have := (List.getElem?_eq_some_iff.1 hi).1; simpa using this
    rw [rev_get hil] at hi
    have := (findF_le (k := 0) hi en).1
    omega
  · have hg : lib[j]? = some lib[j] := List.getElem?_eq_getElem h3
    have hr : lib.reverse[lib.length - 1 - j]? = some lib[j] := by
      rw [rev_get (by omega), show lib.length - 1 - (lib.length - 1 - j) = j by omega]; exact hg
    refine .inr ⟨j, lib[j], h3, hg, hr, by rw [h2]; simp, ?_⟩
    rw [← h4]; exact find_uniq (rev_dist hd) hr
theorem sig_rev {lib : List Fn1} (hd : Dist lib) (s : ByteArray) : sigF lib.reverse s = sigF lib s := by
  unfold sigF
  rcases find_rev hd s with ⟨e1, e2⟩ | ⟨j, f, h1, h2, h3, h4, h5⟩
  · rw [e1, e2]; rfl
  · rw [h4, h5, if_neg (by omega), if_neg (by omega), Int.toNat_natCast, Int.toNat_natCast, h2, h3]
theorem rev_valid {lib : List Fn1} (h : (validR lib).2 = 0) : validR lib.reverse = (-1, 0) := by
  have hd := valid_dist h
  refine valid_of (fun i f hi => ?_)
  have li : i < lib.length := by have := (List.getElem?_eq_some_iff.1 hi).1; simpa using this
  have hi2 := hi
  rw [rev_get li] at hi2
  obtain ⟨_, h2, _, h4, h5, h6, h7, h8⟩ := one_facts (valid_facts h hi2)
  have h30 : i < 30 := (one_facts (valid_facts h (List.getElem?_eq_getElem li))).1
  refine one_of h30 h2 (by rw [find_uniq (rev_dist hd) hi]; omega) h4 h5 h6 h7 ?_
  rw [chk_sig (lib := lib.reverse) (lib' := lib) f.body _ (fun s _ => sig_rev hd s)]
  exact h8
theorem rev_leq {lib : List Fn1} (hd : Dist lib) : LEq lib lib.reverse := fun s hs => by
  unfold listF
  rcases find_rev hd s with ⟨e1, _⟩ | ⟨j, f, h1, h2, h3, h4, h5⟩
  · omega
  · rw [h4, h5, Int.toNat_natCast, Int.toNat_natCast, h2, h3]
theorem valid_rev {lib : List Fn1} : (validR lib).2 = 0 ↔ (validR lib.reverse).2 = 0 := by
  constructor
  · intro h; rw [rev_valid h]
  · intro h
    have := rev_valid h
    rw [List.reverse_reverse] at this
    rw [this]
theorem rev_norm {lib : List Fn1} (h : (validR lib).2 = 0) : normL lib.reverse = (normL lib).reverse := by
  unfold normL
  rw [← List.map_reverse]
  refine List.map_congr_left fun f hf => ?_
  obtain ⟨k, hk⟩ := List.getElem?_of_mem (List.mem_reverse.1 hf)
  exact (normF_congr (rev_leq (valid_dist h)) (nr_need h hk).2.1).symm

end Go.Proofs.YtcoeakdpcigogaaDoor

namespace Go.Proofs.YtcoeakdpcigogaaDoor
open Go.ChangeShapes Go.WideShapes Go.ChangeAt Go.RowKit Go.Sort Go.Maps

/-- A function that lay in memory before is appended. -/
theorem NzR.keep {w1 wr w9 : World} {v v' : Value} {l : List Af} {f : Af} {cs c6 : List Value} {o : Obj} (hb1 : Below w1.heap.size w1 wr) (ho : wr.ownsRow w1.heap.size 39 6 v l.length cs) (hr : RowG (AfC wr fun k => v.ownBlock = some k) cs l) (hc : AfC w1 (fun _ => False) c6 f)
    (hown' : w9.ownsRow w1.heap.size 39 6 v' (l.length + 1) (cs ++ c6)) (hg : (wr.alloc o).grownBy w9 v.ownBlock) (hat : v'.ownBlock = v.ownBlock ∨ v'.ownBlock = some (wr.alloc o).heap.size) : NzR w1 w9 v' (l ++ [f]) := by
  have hge := fun g e => (own_ty ho g e).1
  have hge' := fun g e => (own_ty hown' g e).1
  have hlt := fun g e => (ho.lt g e).2
  have hso : (wr.alloc o).heap.size = wr.heap.size + 1 := by simp
  have f9 : Fr wr w9 (fun k => some k = v.ownBlock) := (Fr.of_below (below_box wr o) _).trans (Fr.of_grown hg) fun _ _ e => e
  have hs9 := f9.size
  have hb9 := f9.toBelow hb1 hb1.size fun k e => hge k e.symm
  refine ⟨hb9, cs ++ c6, by rw [List.length_append]; exact hown', .snoc (hr.map fun c x h => h.le hs9 (fun k hk e => ?_) (Le.of_fr f9 (fun k _ e => e.symm) fun k hk e => ?_)) (hc.le hb9.size (fun k hk e => by have := hge' k e; omega) (Le.belowA hb9 fun k hk e => by have := hge' k e; omega))⟩
  all_goals
    rcases hat with q | q
    · exact q ▸ e
    · rw [q] at e; cases e; omega
theorem rev_take {l : List Af} {m : Nat} (h : m + 1 ≤ l.length) : l.reverse.take (l.length - m) = l.reverse.take (l.length - (m + 1)) ++ [l[m]'(by omega)] := by
  have e : l.length - m = l.length - (m + 1) + 1 := by omega
  have hlt : l.length - (m + 1) < l.reverse.length := by rw [List.length_reverse]; omega
  rw [e, List.take_succ_eq_append_getElem hlt, List.getElem_reverse]
  congr 3
  omega
/-- What an opened library gives. -/
structure LibOp (w : World) (A : Option Addr) (lib : List Fn1) : Prop where
  W : Wld w
  L : LibAt w A lib
  F : LibFit lib
  P : FewParams lib
  N : FewNodes lib
theorem LibOp.below {w w' : World} {A : Option Addr} {lib : List Fn1} (h : LibOp w A lib) (hb : Below w.heap.size w w') : LibOp w' A lib := ⟨h.W.below hb, h.L.mono hb, h.F, h.P, h.N⟩
theorem LibOp.small {w : World} {A : Option Addr} {lib : List Fn1} (h : LibOp w A lib) (c : Nat) : Calls Tryd.prog 10 #[.slice A lib.length c] w fun e w' => e = .returned (.int .i64 (oneB (smallB lib))) ∧ Below w.heap.size w w' :=
  small38_any lib A c w h.L (fun k f hf => by have := h.N k f hf; omega) h.F.1
theorem LibOp.normalize {w : World} {A : Option Addr} {lib : List Fn1} (h : LibOp w A lib) (hs : smallB lib = true) (c : Nat) : Calls Tryd.prog 11 #[.slice A lib.length c] w (RetNz lib w) :=
  Normalize_any h.W h.L h.F h.P h.N (by have := (small_facts hs).1; omega)
theorem norm_fit {lib : List Fn1} (hF : LibFit lib) (hs : smallB lib = true) (hv : (validR lib).2 = 0) : ∀ g ∈ normL lib, AfFit g ∧ g.name.size ≤ 9223372036854775807 := fun g hg => by
  obtain ⟨f, hf, rfl⟩ := List.mem_map.1 hg
  obtain ⟨k, hk⟩ := List.getElem?_of_mem hf
  have h1 := (nr_need hv hk).2.2.2
  have h2 := (pm_facts (one_facts (valid_facts hv hk)).2.2.2.1).1
  have h3 := (small_facts hs).2 f hf
  exact ⟨normF_fit (hF.2 k f hk) (by omega) (by omega), (hF.2 k f hk).1⟩
theorem normL_len (lib : List Fn1) : (normL lib).length = lib.length := by unfold normL; rw [List.length_map]

end Go.Proofs.YtcoeakdpcigogaaDoor
