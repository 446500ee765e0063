/-
  Wrapping an expression (plain).
-/
import Derived.Test.YtafjkmhphakhhaaFunCongr
namespace Go.Proofs.Ytafjkmhphakhhaa

def sZ4 : ByteArray := ⟨#[122, 122, 122, 122]⟩
mutual
/-- Is the name bound by a let? -/
def letT (z : ByteArray) : Nd → Bool
  | .mk kind _ name kids => (decide (kind = 84) && (name.toList == z.toList)) || letTL z kids
def letTL (z : ByteArray) : List Nd → Bool
  | [] => false
  | y :: r => letT z y || letTL z r
end
theorem letT_eq (z : ByteArray) (x : Nd) : letT z x = ((decide (x.kind = 84) && (x.name.toList == z.toList)) || letTL z x.kids) := by cases x; rw [letT]; rfl
theorem letTL_step {z : ByteArray} {l : List Nd} {k : Nat} (h : k < l.length) : letTL z (l.drop k) = (letT z l[k] || letTL z (l.drop (k + 1))) := by
  rw [List.drop_eq_getElem_cons h, letTL]
theorem setE_comm {env : ByteArray → Option Bool} {a b : ByteArray} {u v : Option Bool} (h : a ≠ b) : setE (setE env a u) b v = setE (setE env b v) a u := by
  funext s
  unfold setE
  by_cases h1 : s = b
  · by_cases h2 : s = a
    · exact absurd (h2.symm.trans h1) h
    · rw [if_pos h1, if_neg h2, if_pos h1]
  · rw [if_neg h1]
    by_cases h2 : s = a
    · rw [if_pos h2, if_pos h2]
    · rw [if_neg h2, if_neg h2, if_neg h1]
theorem setE_other {env : ByteArray → Option Bool} {a s : ByteArray} {u : Option Bool} (h : s ≠ a) : setE env a u s = env s := by unfold setE; rw [if_neg h]
theorem setE_same {env : ByteArray → Option Bool} {a : ByteArray} {u : Option Bool} : setE env a u a = u := by unfold setE; rw [if_pos rfl]
theorem reach_ok81 {lib : List Fn1} {env : ByteArray → Option Bool} {x : Nd} (h : reachE lib env x = 0) (e : x.kind = 81) : env x.name ≠ none := by
  unfold reachE at h
  rw [if_pos e] at h
  intro h2
  rw [h2] at h; cases h
theorem reach_ok84 {lib : List Fn1} {env : ByteArray → Option Bool} {x : Nd} (h : reachE lib env x = 0) (e : x.kind = 84) : env x.name = none := by
  unfold reachE at h
  rw [if_neg (by omega), if_pos e] at h
  cases h2 : env x.name with
  | none => rfl
  | some v => rw [h2] at h; cases h
theorem reach_ext {lib : List Fn1} {env : ByteArray → Option Bool} {x : Nd} {z : ByteArray} {v : Option Bool} (h : (x.kind = 81 ∨ x.kind = 84) → x.name ≠ z) : reachE lib (setE env z v) x = reachE lib env x := by
  unfold reachE
  by_cases h1 : x.kind = 81
  · rw [if_pos h1, if_pos h1, setE_other (h (.inl h1))]
  rw [if_neg h1, if_neg h1]
  by_cases h2 : x.kind = 84
  · rw [if_pos h2, if_pos h2, setE_other (h (.inr h2))]
  rw [if_neg h2, if_neg h2]
mutual
theorem chk_ext {lib : List Fn1} {z : ByteArray} {v : Option Bool} : ∀ (x : Nd) (env : ByteArray → Option Bool), letT z x = false → env z = none → (chkT lib x env).2 = 0 → chkT lib x (setE env z v) = chkT lib x env
  | .mk kind num name kids, env, hl, hz, h => by
    rw [letT] at hl
    simp only [Bool.or_eq_false_iff, Bool.and_eq_false_iff, decide_eq_false_iff_not] at hl
    obtain ⟨hl1, hl2⟩ := hl
    rw [chkT] at h
    by_cases h1 : reachE lib env (.mk kind num name kids) = 0
    rotate_left
    · rw [if_pos h1] at h; exact absurd h h1
    rw [if_neg (fun e => e h1)] at h
    by_cases h2 : (chkTL lib kids env kind name 0 []).2 = 0
    rotate_left
    · rw [if_pos h2] at h; exact absurd h h2
    have h84 : kind = 84 → name ≠ z := fun e en => by
      rcases hl1 with h | h
      · exact h e
      · rw [eqS_iff.2 en] at h; cases h
    have h81 : kind = 81 → name ≠ z := fun e en => by
      have : env name ≠ none := reach_ok81 h1 e
      rw [en] at this; exact this hz
    have hr : reachE lib (setE env z v) (.mk kind num name kids) = reachE lib env (.mk kind num name kids) := reach_ext (fun e => by
      rcases e with e | e
      · exact h81 e
      · exact h84 e)
    have hk := chk_extL (v := v) kids env kind name 0 [] hl2 hz h84 h2
    rw [chkT, chkT, hr, hk]
    by_cases e : kind = 81
    · rw [setE_other (h81 e)]
    · rw [if_neg e, if_neg e]
theorem chk_extL {lib : List Fn1} {z : ByteArray} {v : Option Bool} : ∀ (l : List Nd) (env : ByteArray → Option Bool) (kind : Nat) (name : ByteArray) (i : Nat) (ts : List Bool), letTL z l = false → env z = none → (kind = 84 → name ≠ z) → (chkTL lib l env kind name i ts).2 = 0 → chkTL lib l (setE env z v) kind name i ts = chkTL lib l env kind name i ts
  | [], _, _, _, _, _, _, _, _, _ => rfl
  | y :: r, env, kind, name, i, ts, hl, hz, h84, h => by
    rw [letTL, Bool.or_eq_false_iff] at hl
    rw [chkTL] at h
    by_cases h1 : (chkT lib y (envAt kind name env i ts)).2 = 0
    rotate_left
    · rw [if_pos h1] at h; exact absurd h h1
    rw [if_neg (fun e => e h1)] at h
    have he : envAt kind name (setE env z v) i ts = setE (envAt kind name env i ts) z v := by
      unfold envAt
      by_cases e : kind = 84 ∧ i = 1
      · rw [if_pos e, if_pos e]
        exact setE_comm (fun en => h84 e.1 en.symm)
      · rw [if_neg e, if_neg e]
    have hz2 : envAt kind name env i ts z = none := by
      unfold envAt
      by_cases e : kind = 84 ∧ i = 1
      · rw [if_pos e, setE_other (fun en => h84 e.1 en.symm)]; exact hz
      · rw [if_neg e]; exact hz
    rw [chkTL, chkTL, he, chk_ext y _ hl.1 hz2 h1, chk_extL r env kind name (i + 1) _ hl.2 hz h84 h]
end

/-! ### The wrapped expressions -/
def numN : Nd := .mk 80 3 ⟨#[]⟩ []
def nilN : Nd := .mk 86 0 ⟨#[]⟩ []
def zvN : Nd := .mk 81 0 ⟨#[122, 122, 122, 122]⟩ []
structure Wr where
  x : Nd
  list : Bool
  ok : Bool
def wraps (n : Nd) (t : Bool) : List Wr :=
  [⟨.mk 88 0 ⟨#[]⟩ [n], false, t⟩, ⟨.mk 89 0 ⟨#[]⟩ [n], true, t⟩, ⟨.mk 90 0 ⟨#[]⟩ [n], false, t⟩, ⟨.mk 87 0 ⟨#[]⟩ [n, nilN], true, !t⟩, ⟨.mk 87 0 ⟨#[]⟩ [numN, n], true, t⟩, ⟨.mk 82 10 ⟨#[]⟩ [numN, n], false, !t⟩,
   ⟨.mk 83 0 ⟨#[]⟩ [numN, n, n], t, true⟩, ⟨.mk 83 0 ⟨#[]⟩ [n, numN, numN], false, !t⟩, ⟨.mk 83 0 ⟨#[]⟩ [numN, n, numN], false, !t⟩, ⟨.mk 84 0 ⟨#[122, 122, 122, 122]⟩ [numN, n], t, true⟩, ⟨.mk 84 0 ⟨#[122, 122, 122, 122]⟩ [n, zvN], t, true⟩]
theorem chk_lit (lib : List Fn1) (n : Int) (s : ByteArray) (env : ByteArray → Option Bool) : chkT lib (.mk 80 n s []) env = (false, 0) := by
  have h1 : reachE lib env (.mk 80 n s []) = 0 := by unfold reachE; rfl
  have h2 : chkTL lib [] env 80 s 0 [] = ([], 0) := rfl
  rw [chkT, h1, h2]
  rfl
theorem chk_nil (lib : List Fn1) (n : Int) (s : ByteArray) (env : ByteArray → Option Bool) : chkT lib (.mk 86 n s []) env = (true, 0) := by
  have h1 : reachE lib env (.mk 86 n s []) = 0 := by unfold reachE; rfl
  have h2 : chkTL lib [] env 86 s 0 [] = ([], 0) := rfl
  rw [chkT, h1, h2]
  rfl
theorem chkL_cons {lib : List Fn1} {y : Nd} {r : List Nd} {env : ByteArray → Option Bool} {kind : Nat} {name : ByteArray} {i : Nat} {ts : List Bool} {t : Bool} (h : chkT lib y (envAt kind name env i ts) = (t, 0)) : chkTL lib (y :: r) env kind name i ts = chkTL lib r env kind name (i + 1) (ts ++ [t]) := by
  rw [chkTL, h]; rfl
theorem chkL_nil {lib : List Fn1} {env : ByteArray → Option Bool} {kind : Nat} {name : ByteArray} {i : Nat} {ts : List Bool} : chkTL lib [] env kind name i ts = (ts, 0) := rfl
theorem chk_node {lib : List Fn1} {kind : Nat} {num : Int} {name : ByteArray} {kids : List Nd} {env : ByteArray → Option Bool} {ts : List Bool} (h1 : reachE lib env (.mk kind num name kids) = 0) (h2 : chkTL lib kids env kind name 0 [] = (ts, 0)) (h81 : kind ≠ 81) : chkT lib (.mk kind num name kids) env = resR lib (.mk kind num name kids) ts := by
  rw [chkT, h1, h2, if_neg (fun e => e rfl), if_neg (fun e => e rfl), if_neg h81]
theorem wraps_chk {lib : List Fn1} {n : Nd} {t : Bool} {env : ByteArray → Option Bool} (hn : chkT lib n env = (t, 0)) (hz : env ⟨#[122, 122, 122, 122]⟩ = none) (hl : letT ⟨#[122, 122, 122, 122]⟩ n = false) : ∀ it ∈ wraps n t, chkT lib it.x env = if it.ok = true then (it.list, 0) else (false, 7) := by
  have hnum : ∀ e, chkT lib numN e = (false, 0) := fun e => chk_lit _ _ _ _
  have hnil : ∀ e, chkT lib nilN e = (true, 0) := fun e => chk_nil _ _ _ _
  have hn2 : ∀ v, chkT lib n (setE env ⟨#[122, 122, 122, 122]⟩ v) = (t, 0) := fun v => by rw [chk_ext n env hl hz (by rw [hn]), hn]
  have hzv : ∀ v, chkT lib zvN (setE env ⟨#[122, 122, 122, 122]⟩ (some v)) = (v, 0) := fun v => by
    have h1 : reachE lib (setE env ⟨#[122, 122, 122, 122]⟩ (some v)) zvN = 0 := by
      unfold reachE
      rw [if_pos (show zvN.kind = 81 from rfl)]
      show (if (setE env ⟨#[122, 122, 122, 122]⟩ (some v) ⟨#[122, 122, 122, 122]⟩).isSome = true then (0 : Int) else 6) = 0
      rw [setE_same]; rfl
    unfold zvN at h1 ⊢
    rw [chkT, h1, chkL_nil, if_neg (fun e => e rfl), if_neg (fun e => e rfl), if_pos rfl, setE_same]; rfl
  have hr : ∀ (k : Nat) (m : Int) (s : ByteArray) (l : List Nd), k ≠ 81 → k ≠ 84 → k ≠ 85 → reachE lib env (.mk k m s l) = 0 := fun k m s l a b c => by
    unfold reachE
    rw [if_neg (show ¬ (Nd.mk k m s l).kind = 81 from a), if_neg (show ¬ (Nd.mk k m s l).kind = 84 from b), if_neg (show ¬ (Nd.mk k m s l).kind = 85 from c)]
  have hr84 : ∀ (m : Int) (l : List Nd), reachE lib env (.mk 84 m ⟨#[122, 122, 122, 122]⟩ l) = 0 := fun m l => by
    unfold reachE
    rw [if_neg (show ¬ (Nd.mk 84 m ⟨#[122, 122, 122, 122]⟩ l).kind = 81 from (by decide : ¬ 84 = 81)), if_pos (show (Nd.mk 84 m ⟨#[122, 122, 122, 122]⟩ l).kind = 84 from rfl)]
    show (if (env ⟨#[122, 122, 122, 122]⟩).isSome = true then (22 : Int) else 0) = 0
    rw [hz]; rfl
  have e0 : ∀ (k : Nat) (s : ByteArray) (i : Nat) (ts : List Bool), k ≠ 84 → envAt k s env i ts = env := fun k s i ts h => by unfold envAt; rw [if_neg (fun e => h e.1)]
  have e1 : ∀ (s : ByteArray) (ts : List Bool), envAt 84 s env 0 ts = env := fun s ts => by unfold envAt; rw [if_neg (by omega)]
  have e2 : ∀ (s : ByteArray) (u : Bool), envAt 84 s env 1 [u] = setE env s (some u) := fun s u => by unfold envAt; rw [if_pos ⟨rfl, rfl⟩]; rfl
  intro it hit
  simp only [wraps, List.mem_cons, List.not_mem_nil, or_false] at hit
  rcases hit with rfl | rfl | rfl | rfl | rfl | rfl | rfl | rfl | rfl | rfl | rfl
  · simp only
    rw [chk_node (ts := [t]) (hr _ _ _ _ (by decide) (by decide) (by decide)) (by rw [chkL_cons (t := t) (by rw [e0 _ _ _ _ (by decide)]; exact hn)]; rfl) (by decide)]
    cases t <;> rfl
  · simp only
    rw [chk_node (ts := [t]) (hr _ _ _ _ (by decide) (by decide) (by decide)) (by rw [chkL_cons (t := t) (by rw [e0 _ _ _ _ (by decide)]; exact hn)]; rfl) (by decide)]
    cases t <;> rfl
  · simp only
    rw [chk_node (ts := [t]) (hr _ _ _ _ (by decide) (by decide) (by decide)) (by rw [chkL_cons (t := t) (by rw [e0 _ _ _ _ (by decide)]; exact hn)]; rfl) (by decide)]
    cases t <;> rfl
  · simp only
    rw [chk_node (ts := [t, true]) (hr _ _ _ _ (by decide) (by decide) (by decide)) (by rw [chkL_cons (t := t) (by rw [e0 _ _ _ _ (by decide)]; exact hn), chkL_cons (t := true) (hnil _)]; rfl) (by decide)]
    cases t <;> rfl
  · simp only
    rw [chk_node (ts := [false, t]) (hr _ _ _ _ (by decide) (by decide) (by decide)) (by rw [chkL_cons (t := false) (hnum _), chkL_cons (t := t) (by rw [e0 _ _ _ _ (by decide)]; exact hn)]; rfl) (by decide)]
    cases t <;> rfl
  · simp only
    rw [chk_node (ts := [false, t]) (hr _ _ _ _ (by decide) (by decide) (by decide)) (by rw [chkL_cons (t := false) (hnum _), chkL_cons (t := t) (by rw [e0 _ _ _ _ (by decide)]; exact hn)]; rfl) (by decide)]
    cases t <;> rfl
  · simp only
    rw [chk_node (ts := [false, t, t]) (hr _ _ _ _ (by decide) (by decide) (by decide)) (by rw [chkL_cons (t := false) (hnum _), chkL_cons (t := t) (by rw [e0 _ _ _ _ (by decide)]; exact hn), chkL_cons (t := t) (by rw [e0 _ _ _ _ (by decide)]; exact hn)]; rfl) (by decide)]
    cases t <;> rfl
  · simp only
    rw [chk_node (ts := [t, false, false]) (hr _ _ _ _ (by decide) (by decide) (by decide)) (by rw [chkL_cons (t := t) (by rw [e0 _ _ _ _ (by decide)]; exact hn), chkL_cons (t := false) (hnum _), chkL_cons (t := false) (hnum _)]; rfl) (by decide)]
    cases t <;> rfl
  · simp only
    rw [chk_node (ts := [false, t, false]) (hr _ _ _ _ (by decide) (by decide) (by decide)) (by rw [chkL_cons (t := false) (hnum _), chkL_cons (t := t) (by rw [e0 _ _ _ _ (by decide)]; exact hn), chkL_cons (t := false) (hnum _)]; rfl) (by decide)]
    cases t <;> rfl
  · simp only
    rw [chk_node (ts := [false, t]) (hr84 _ _) (by rw [chkL_cons (t := false) (hnum _), chkL_cons (t := t) (by rw [List.nil_append, e2]; exact hn2 _)]; rfl) (by decide)]
    cases t <;> rfl
  · simp only
    rw [chk_node (ts := [t, t]) (hr84 _ _) (by rw [chkL_cons (t := t) (by rw [e1]; exact hn), chkL_cons (t := t) (by rw [List.nil_append, e2]; exact hzv _)]; rfl) (by decide)]
    cases t <;> rfl
theorem wraps_form {n : Nd} {t : Bool} (h : formT n = true) : ∀ it ∈ wraps n t, formT it.x = true := by
  have h1 : formT numN = true := by decide +kernel
  have h2 : formT nilN = true := by decide +kernel
  have h3 : formT zvN = true := by decide +kernel
  have hz : nameB ⟨#[122, 122, 122, 122]⟩ = true := by decide +kernel
  intro it hit
  simp only [wraps, List.mem_cons, List.not_mem_nil, or_false] at hit
  rcases hit with rfl | rfl | rfl | rfl | rfl | rfl | rfl | rfl | rfl | rfl | rfl <;> simp [formT, formTL, formB, h, h1, h2, h3, hz]
theorem wraps_size {n : Nd} {t : Bool} : ∀ it ∈ wraps n t, sizeT it.x ≤ 2 * sizeT n + 4 := by
  intro it hit
  simp only [wraps, List.mem_cons, List.not_mem_nil, or_false] at hit
  rcases hit with rfl | rfl | rfl | rfl | rfl | rfl | rfl | rfl | rfl | rfl | rfl <;> simp [sizeT, sizeTL, numN, nilN, zvN] <;> omega

end Go.Proofs.Ytafjkmhphakhhaa
