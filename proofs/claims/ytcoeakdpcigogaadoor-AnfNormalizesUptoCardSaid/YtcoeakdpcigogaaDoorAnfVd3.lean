/-
  The normalized functions of a valid library are valid (plain).
  Normalized expressions are valid (plain).
  The library of normalized functions is valid (plain).
-/
import Derived.Test.YtcoeakdpcigogaaDoorAnfEx1
import Derived.Test.YtcoeakdpcigogaaDoorFevType
import Derived.Test.YtcoeakdpcigogaaDoorAnfNz
namespace Go.Proofs.YtcoeakdpcigogaaDoor

/-! ### Temporaries' names -/
theorem td_small {u : Nat} (h : u < 10) : Lib.decDigits u = [UInt8.ofNat (48 + u)] := by rw [Lib.decDigits, dif_pos h]
theorem td_big {u : Nat} (h : ¬ u < 10) : Lib.decDigits u = Lib.decDigits (u / 10) ++ [UInt8.ofNat (48 + u % 10)] := by rw [Lib.decDigits, dif_neg h]
theorem td_nat {d : Nat} (h : d < 10) : (UInt8.ofNat (48 + d)).toNat = 48 + d := by
  rw [UInt8.toNat_ofNat']; omega
theorem td_dig (u : Nat) : ∀ b ∈ Lib.decDigits u, b.toNat ≤ 57 := by
  induction u using Nat.strongRecOn with
  | _ u ih =>
    by_cases h : u < 10
    · rw [td_small h]
      intro b hb
      rw [List.mem_singleton.1 hb, td_nat h]; omega
    · rw [td_big h]
      intro b hb
      rcases List.mem_append.1 hb with hb | hb
      · exact ih _ (by omega) b hb
      · rw [List.mem_singleton.1 hb, td_nat (by omega)]; omega
theorem td_ne (u : Nat) : Lib.decDigits u ≠ [] := by
  by_cases h : u < 10
  · rw [td_small h]; simp
  · rw [td_big h]; simp
def valT (l : List UInt8) : Nat := l.foldl (fun a b => a * 10 + (b.toNat - 48)) 0
theorem valT_dec (u : Nat) : valT (Lib.decDigits u) = u := by
  induction u using Nat.strongRecOn with
  | _ u ih =>
    by_cases h : u < 10
    · rw [td_small h]
      show 0 * 10 + ((UInt8.ofNat (48 + u)).toNat - 48) = u
      rw [td_nat h]; omega
    · rw [td_big h]
      unfold valT at ih ⊢
      rw [List.foldl_append, ih _ (by omega)]
      show u / 10 * 10 + ((UInt8.ofNat (48 + u % 10)).toNat - 48) = u
      rw [td_nat (by omega)]; omega
theorem tmpN_inj {n m : Nat} (h : tmpN n = tmpN m) : n = m := by
  unfold tmpN at h
  rw [ByteArray.ext_iff] at h
  have h2 : 116 :: Lib.itoa (n : Int) = 116 :: Lib.itoa (m : Int) := by simpa using h
  injection h2 with _ h3
  unfold Lib.itoa at h3
  rw [if_neg (by omega), if_neg (by omega)] at h3
  have := congrArg valT h3
  rw [valT_dec, valT_dec] at this
  omega
theorem tmpN_name (n : Nat) : nameB (tmpN n) = false := by
  have key : lowB (tmpN n) = false := by
    unfold lowB
    have hl : (tmpN n).toList = 116 :: Lib.itoa (n : Int) := by
      rw [ByteArray.toList_eq]; rfl
    rw [hl, Bool.eq_false_iff]
    intro h
    rw [List.all_eq_true] at h
    have e : Lib.itoa (n : Int) = Lib.decDigits n := by unfold Lib.itoa; rw [if_neg (by omega)]; simp
    rw [e] at h
    obtain ⟨c, r, hc⟩ := List.exists_cons_of_ne_nil (td_ne n)
    have h1 := h c (by rw [hc]; simp)
    have h2 := td_dig n c (by rw [hc]; simp)
    simp at h1
    omega
  unfold nameB
  rw [key]; simp

/-! ### Counting, scopes -/
def IncOn (P : Nat → Prop) (bd bd' : Bn) : Prop := (∀ j, P j → bd' (tmpN j) = bd (tmpN j) + 1) ∧ ∀ s, (∀ j, P j → s ≠ tmpN j) → bd' s = bd s
def Off (P : Nat → Prop) (sc sc' : Sc) : Prop := ∀ s, (∀ j, P j → s ≠ tmpN j) → sc' s = sc s
theorem IncOn.nil (bd : Bn) (P : Nat → Prop) (h : ∀ j, ¬ P j) : IncOn P bd bd := ⟨fun j hj => absurd hj (h j), fun _ _ => rfl⟩
theorem IncOn.seq {P Q R : Nat → Prop} {bd bd1 bd2 : Bn} (h1 : IncOn P bd bd1) (h2 : IncOn Q bd1 bd2) (hd : ∀ j, P j → ¬ Q j) (hr : ∀ j, R j ↔ (P j ∨ Q j)) : IncOn R bd bd2 := by
  refine ⟨fun j hj => ?_, fun s hs => ?_⟩
  · rcases (hr j).1 hj with h | h
    · rw [h2.2 _ (fun k hk e => by have := tmpN_inj e; subst this; exact hd j h hk), h1.1 j h]
    · rw [h2.1 j h, h1.2 _ (fun k hk e => by have := tmpN_inj e; subst this; exact hd j hk h)]
  · rw [h2.2 s (fun j hj => hs j ((hr j).2 (.inr hj))), h1.2 s (fun j hj => hs j ((hr j).2 (.inl hj)))]
theorem IncOn.one (bd : Bn) (n : Nat) : IncOn (fun j => j = n) bd (incB bd (tmpN n)) := by
  refine ⟨fun j hj => ?_, fun s hs => ?_⟩
  · rw [hj]; unfold incB; rw [if_pos rfl]
  · unfold incB; rw [if_neg (hs n rfl)]
theorem Off.seq {P Q R : Nat → Prop} {sc sc1 sc2 : Sc} (h1 : Off P sc sc1) (h2 : Off Q sc1 sc2) (hr : ∀ j, (P j ∨ Q j) → R j) : Off R sc sc2 := fun s hs => by
  rw [h2 s (fun j hj => hs j (hr j (.inr hj))), h1 s (fun j hj => hs j (hr j (.inl hj)))]
theorem Off.one (sc : Sc) (n : Nat) (v : Option Bool) : Off (fun j => j = n) sc (setS sc (tmpN n) v) := fun s hs => by
  unfold setS; rw [if_neg (hs n rfl)]
/-- No temporary from there on is bound. -/
def Frs (sc : Sc) (n : Nat) : Prop := ∀ j, n ≤ j → sc (tmpN j) = none
theorem Off.frs {P : Nat → Prop} {sc sc' : Sc} {n m : Nat} (h : Off P sc sc') (hf : Frs sc n) (hn : n ≤ m) (hP : ∀ j, P j → j < m) : Frs sc' m := fun j hj => by
  rw [h (tmpN j) (fun k hk e => by have := tmpN_inj e; have := hP k hk; omega)]
  exact hf j (by omega)
/-- What was in scope stays. -/
theorem Off.keep {P : Nat → Prop} {sc sc' : Sc} {n : Nat} (h : Off P sc sc') (hf : Frs sc n) (hP : ∀ j, P j → n ≤ j) {s : ByteArray} {t : Bool} (hs : sc s = some t) : sc' s = some t := by
  rw [h s (fun j hj e => by rw [e, hf j (hP j hj)] at hs; cases hs)]; exact hs

theorem bodyB_append (lib : ByteArray → Option Af) (tp : Sc) : ∀ (a b : List Bd) (sc : Sc) (bd : Bn) {sc1 : Sc} {bd1 : Bn}, bodyB lib tp a sc bd = some (sc1, bd1) → bodyB lib tp (a ++ b) sc bd = bodyB lib tp b sc1 bd1
  | [], b, sc, bd, sc1, bd1, h => by
    rw [bodyB] at h; cases h; rfl
  | x :: r, b, sc, bd, sc1, bd1, h => by
    rw [bodyB] at h
    rw [List.cons_append, bodyB]
    cases hb : bndB lib tp x sc bd with
    | none => rw [hb] at h; cases h
    | some bd2 =>
      rw [hb] at h
      exact bodyB_append lib tp r b _ _ h
/-- A branch: binds, and one that stores into the branch's temporary. -/
theorem brB_of (lib : ByteArray → Option Af) (tp : Sc) (tq : ByteArray) (c : Bd) (hc : c.to = tq) : ∀ (a : List Bd) (sc : Sc) (bd : Bn) {sc1 : Sc} {bd1 bd2 : Bn}, bodyB lib tp a sc bd = some (sc1, bd1) → (∀ b ∈ a, b.to ≠ tq) → bndB lib tp c sc1 bd1 = some bd2 → brB lib tp tq (a ++ [c]) sc bd = some bd2
  | [], sc, bd, sc1, bd1, bd2, h, _, h2 => by
    rw [bodyB] at h; cases h
    rw [List.nil_append, brB, if_neg (by simp [hc]), h2]
    simp
  | x :: r, sc, bd, sc1, bd1, bd2, h, hn, h2 => by
    rw [bodyB] at h
    rw [List.cons_append, brB]
    have hne : r ++ [c] ≠ [] := by simp
    rw [if_neg (by have := hn x (List.mem_cons_self ..); simp [this])]
    cases hb : bndB lib tp x sc bd with
    | none => rw [hb] at h; cases h
    | some bd3 =>
      rw [hb] at h
      dsimp only
      rw [if_neg hne]
      exact brB_of lib tp tq c hc r _ _ h (fun b hb => hn b (List.mem_cons_of_mem _ hb)) h2

/-! ### What the parts are -/
def Nmd (ts : List Pm) : Prop := ∀ (j : Nat) (p : Pm), ts[j]? = some p → p.name = tmpN j
/-- The final types agree with these temporaries, from there on. -/
def Tpd (tp : Sc) (n : Nat) (ts : List Pm) : Prop := ∀ (j : Nat) (p : Pm), n ≤ j → ts[j]? = some p → tp (tmpN j) = some p.list
theorem Nmd.snoc {ts : List Pm} (h : Nmd ts) (l : Bool) : Nmd (ts ++ [⟨tmpN ts.length, l⟩]) := fun j p hj => by
  rcases Nat.lt_or_ge j ts.length with e | e
  · rw [List.getElem?_append_left e] at hj; exact h j p hj
  · rw [List.getElem?_append_right e] at hj
    have h0 : j - ts.length = 0 := by have := (List.getElem?_eq_some_iff.1 hj).1; simpa using this
    rw [h0] at hj; simp at hj
    rw [← hj, show j = ts.length by omega]
theorem Nmd.set {ts : List Pm} (h : Nmd ts) (i : Nat) (b : Bool) : Nmd (setL ts i b) := fun j p hj => by
  unfold setL at hj
  rw [List.getElem?_set] at hj
  by_cases e : i = j
  · rw [if_pos e] at hj
    by_cases e2 : i < ts.length
    · rw [if_pos e2] at hj; cases hj; rw [e]
    · rw [if_neg e2] at hj; cases hj
  · rw [if_neg e] at hj; exact h j p hj
/-- The environment: a variable's name and type are those in scope. -/
def EnvOk (env : ByteArray → Option Pm) (sc : Sc) (te : ByteArray → Option Bool) : Prop := ∀ s t, te s = some t → ∃ p, env s = some p ∧ p.list = t ∧ sc p.name = some t
theorem EnvOk.keep {env : ByteArray → Option Pm} {sc sc' : Sc} {te : ByteArray → Option Bool} (h : EnvOk env sc te) (hk : ∀ s t, sc s = some t → sc' s = some t) : EnvOk env sc' te := fun s t ht => by
  obtain ⟨p, h1, h2, h3⟩ := h s t ht
  exact ⟨p, h1, h2, hk _ _ h3⟩
theorem EnvOk.set {env : ByteArray → Option Pm} {sc : Sc} {te : ByteArray → Option Bool} (h : EnvOk env sc te) (s : ByteArray) {p : Pm} (hp : sc p.name = some p.list) : EnvOk (setP env s (some p)) sc (setE te s (some p.list)) := fun q t ht => by
  unfold setE at ht
  unfold setP
  by_cases e : q = s
  · rw [if_pos e] at ht ⊢; cases ht; exact ⟨p, rfl, rfl, hp⟩
  · rw [if_neg e] at ht ⊢; exact h q t ht
abbrev Rng (a b : Nat) : Nat → Prop := fun j => a ≤ j ∧ j < b
/-- What normalizing an expression of that type gives. -/
structure VB (lb : ByteArray → Option Af) (tp sc : Sc) (bd : Bn) (ts : List Pm) (r : Nr) (ty : Bool) (sc' : Sc) (bd' : Bn) : Prop where
  ok : bodyB lb tp r.bs sc bd = some (sc', bd')
  off : Off (Rng ts.length r.ts.length) sc sc'
  inc : IncOn (Rng ts.length r.ts.length) bd bd'
  rs : sc' r.p.name = some ty
structure VS (ts : List Pm) (r : Nr) : Prop where
  tos : ∀ b ∈ r.bs, ∃ j, ts.length ≤ j ∧ j < r.ts.length ∧ b.to = tmpN j
  nm : Nmd ts → Nmd r.ts
  ln : ts.length ≤ r.ts.length
theorem VS.put {ts : List Pm} {bs : List Bd} {ts' : List Pm} (hto : ∀ b ∈ bs, ∃ j, ts.length ≤ j ∧ j < ts'.length ∧ b.to = tmpN j) (hnm : Nmd ts → Nmd ts') (hln : ts.length ≤ ts'.length) (l : Bool) (op : Nat) (num : Int) (nm : ByteArray) (args : List ByteArray) : VS ts (Nr.put bs l ts' op num nm args) := by
  have hlen : (ts' ++ [(⟨tmpN ts'.length, l⟩ : Pm)]).length = ts'.length + 1 := by simp
  refine ⟨fun b hb => ?_, fun h => (hnm h).snoc l, ?_⟩
  · show ∃ j, _ ∧ j < (ts' ++ [(⟨tmpN ts'.length, l⟩ : Pm)]).length ∧ _
    rw [hlen]
    rcases List.mem_append.1 hb with e | e
    · obtain ⟨j, h1, h2, h3⟩ := hto b e
      exact ⟨j, h1, by omega, h3⟩
    · rw [List.mem_singleton.1 e]; exact ⟨ts'.length, hln, by omega, rfl⟩
  · show _ ≤ (ts' ++ [(⟨tmpN ts'.length, l⟩ : Pm)]).length
    omega
theorem VB.put {lb : ByteArray → Option Af} {tp sc : Sc} {bd : Bn} {ts : List Pm} {bs : List Bd} {ts' : List Pm} {sc1 : Sc} {bd1 : Bn} (hok : bodyB lb tp bs sc bd = some (sc1, bd1)) (hoff : Off (Rng ts.length ts'.length) sc sc1) (hinc : IncOn (Rng ts.length ts'.length) bd bd1) (hln : ts.length ≤ ts'.length) {l : Bool} {op : Nat} {num : Int} {nm : ByteArray} {args : List ByteArray} (hb : bndB lb tp (.mk (tmpN ts'.length) l op num nm args [] []) sc1 bd1 = some bd1) :
    VB lb tp sc bd ts (Nr.put bs l ts' op num nm args) l (setS sc1 (tmpN ts'.length) (some l)) (incB bd1 (tmpN ts'.length)) := by
  have hlen : (ts' ++ [(⟨tmpN ts'.length, l⟩ : Pm)]).length = ts'.length + 1 := by simp
  refine ⟨?_, ?_, ?_, ?_⟩
  · show bodyB lb tp (bs ++ [_]) sc bd = _
    rw [bodyB_append lb tp _ _ _ _ hok, bodyB, hb]; rfl
  · show Off (Rng ts.length (ts' ++ [(⟨tmpN ts'.length, l⟩ : Pm)]).length) _ _
    rw [hlen]
    exact hoff.seq (Off.one _ _ _) fun j h => by rcases h with h | h <;> (unfold Rng at *; omega)
  · show IncOn (Rng ts.length (ts' ++ [(⟨tmpN ts'.length, l⟩ : Pm)]).length) _ _
    rw [hlen]
    exact hinc.seq (IncOn.one _ _) (fun j h e => by unfold Rng at h; omega) fun j => by unfold Rng; omega
  · show setS sc1 (tmpN ts'.length) (some l) (tmpN ts'.length) = some l
    unfold setS; rw [if_pos rfl]
/-- A bind without branches is valid. -/
theorem bnd_ok {lb : ByteArray → Option Af} {tp sc : Sc} {bd : Bn} {n : Nat} {l : Bool} {op : Nat} {num : Int} {nm : ByteArray} {args : List ByteArray} {tys : List Bool} (h1 : tp (tmpN n) = some l) (h2 : sc (tmpN n) = none) (h3 : typesA sc args = some tys) (h4 : fieldsB (.mk (tmpN n) l op num nm args [] []) = true)
    (h5 : (op = 81 ∧ tys = [l]) ∨ (op = 85 ∧ callB lb tp (.mk (tmpN n) l op num nm args [] []) tys = true) ∨ (op ≠ 81 ∧ op ≠ 85 ∧ op ≠ 83 ∧ tys = (operT op).1 ∧ (operT op).2 = l)) : bndB lb tp (.mk (tmpN n) l op num nm args [] []) sc bd = some bd := by
  rw [bndB_eq]
  show (if tp (tmpN n) ≠ some l then none else if (sc (tmpN n)).isSome = true then none else match typesA sc args with
    | none => none
    | some ts => _) = _
  rw [if_neg (by rw [h1]; simp), if_neg (by rw [h2]; simp), h3]
  dsimp only
  rw [if_neg (by rw [h4]; simp)]
  show (if op = 81 then (if tys = [l] then some bd else none) else _) = _
  rcases h5 with ⟨e, e2⟩ | ⟨e, e2⟩ | ⟨e1, e2, e3, e4, e5⟩
  · rw [if_pos e, if_pos e2]
  · rw [if_neg (by omega)]
    show (if op = 85 then _ else _) = _
    rw [if_pos e, if_pos e2]
  · rw [if_neg e1]
    show (if op = 85 then _ else (if op = 83 then _ else _)) = _
    rw [if_neg e2, if_neg e3]
    show (if tys = (operT op).1 ∧ (operT op).2 = l then _ else _) = _
    rw [if_pos ⟨e4, e5⟩]
theorem fields_var (n : Nat) (l : Bool) (a : ByteArray) : fieldsB (.mk (tmpN n) l 81 0 eS [a] [] []) = true := by
  unfold fieldsB
  simp [Bd.op, Bd.num, Bd.name, Bd.thn, Bd.els]
theorem typesA_one {sc : Sc} {a : ByteArray} {t : Bool} (h : sc a = some t) : typesA sc [a] = some [t] := by rw [typesA, h, typesA]; rfl
theorem typesA_keep {sc sc' : Sc} (hk : ∀ s t, sc s = some t → sc' s = some t) : ∀ {l : List ByteArray} {ts : List Bool}, typesA sc l = some ts → typesA sc' l = some ts
  | [], ts, h => h
  | a :: r, ts, h => by
    rw [typesA] at h ⊢
    cases ha : sc a with
    | none => rw [ha] at h; cases h
    | some t =>
      rw [ha] at h
      rw [hk a t ha]
      cases hr : typesA sc r with
      | none => rw [hr] at h; cases h
      | some us => rw [hr] at h; rw [typesA_keep hk hr]; exact h

/-- The arguments of a node. -/
structure VA (lb : ByteArray → Option Af) (tp sc : Sc) (bd : Bn) (ts : List Pm) (r : Na) (tys : List Bool) (sc' : Sc) (bd' : Bn) : Prop where
  ok : bodyB lb tp r.bs sc bd = some (sc', bd')
  off : Off (Rng ts.length r.ts.length) sc sc'
  inc : IncOn (Rng ts.length r.ts.length) bd bd'
  rs : typesA sc' r.args = some tys
structure VSA (ts : List Pm) (r : Na) : Prop where
  tos : ∀ b ∈ r.bs, ∃ j, ts.length ≤ j ∧ j < r.ts.length ∧ b.to = tmpN j
  nm : Nmd ts → Nmd r.ts
  ln : ts.length ≤ r.ts.length

/-! ### Lengths and names -/
mutual
theorem nE_vs (lib : List Fn1) : ∀ (x : Nd) (env : ByteArray → Option Pm) (ts : List Pm), VS ts (nE lib x env ts)
  | .mk k n s l, env, ts => by
    rw [nE]
    split
    · exact ⟨(fun b hb => by cases hb), id, Nat.le_refl _⟩
    split
    · exact nLet_vs lib s l env ts
    split
    · exact nIf_vs lib l env ts
    have h := nArgs_vs lib (decide (k = 85)) l env ts
    dsimp only
    split
    · exact VS.put h.tos h.nm h.ln _ _ _ _ _
    · exact VS.put h.tos h.nm h.ln _ _ _ _ _
theorem nLet_vs (lib : List Fn1) (s : ByteArray) : ∀ (l : List Nd) (env : ByteArray → Option Pm) (ts : List Pm), VS ts (nLet lib s l env ts)
  | [], env, ts => by simp only [nLet]; exact ⟨(fun b hb => by cases hb), id, Nat.le_refl _⟩
  | [_], env, ts => by simp only [nLet]; exact ⟨(fun b hb => by cases hb), id, Nat.le_refl _⟩
  | [a, b], env, ts => by
    have h1 := nE_vs lib a env ts
    have h2 := nE_vs lib b (setP env s (some (nE lib a env ts).p)) (nE lib a env ts).ts
    have l1 := h1.ln
    have l2 := h2.ln
    rw [nLet]
    refine ⟨fun c hc => ?_, fun h => h2.nm (h1.nm h), Nat.le_trans l1 l2⟩
    rcases List.mem_append.1 hc with e | e
    · obtain ⟨j, j1, j2, j3⟩ := h1.tos c e
      exact ⟨j, j1, Nat.lt_of_lt_of_le j2 l2, j3⟩
    · obtain ⟨j, j1, j2, j3⟩ := h2.tos c e
      exact ⟨j, Nat.le_trans l1 j1, j2, j3⟩
  | _ :: _ :: _ :: _, env, ts => by simp only [nLet]; exact ⟨(fun b hb => by cases hb), id, Nat.le_refl _⟩
theorem nIf_vs (lib : List Fn1) : ∀ (l : List Nd) (env : ByteArray → Option Pm) (ts : List Pm), VS ts (nIf lib l env ts)
  | [], env, ts => by simp only [nIf]; exact ⟨(fun b hb => by cases hb), id, Nat.le_refl _⟩
  | [_], env, ts => by simp only [nIf]; exact ⟨(fun b hb => by cases hb), id, Nat.le_refl _⟩
  | [_, _], env, ts => by simp only [nIf]; exact ⟨(fun b hb => by cases hb), id, Nat.le_refl _⟩
  | [c, a, b], env, ts => by
    have h0 := nE_vs lib c env ts
    have h1 := nE_vs lib a env ((nE lib c env ts).ts ++ [⟨tmpN (nE lib c env ts).ts.length, false⟩])
    have h2 := nE_vs lib b env (setL (nE lib a env ((nE lib c env ts).ts ++ [⟨tmpN (nE lib c env ts).ts.length, false⟩])).ts (nE lib c env ts).ts.length (nE lib a env ((nE lib c env ts).ts ++ [⟨tmpN (nE lib c env ts).ts.length, false⟩])).p.list)
    rw [nIf]
    generalize nE lib c env ts = r at *
    generalize nE lib a env (r.ts ++ [⟨tmpN r.ts.length, false⟩]) = x at *
    generalize nE lib b env (setL x.ts r.ts.length x.p.list) = y at *
    have l0 := h0.ln
    have l1 := h1.ln
    have l2 := h2.ln
    rw [List.length_append] at l1
    unfold setL at l2
    rw [List.length_set] at l2
    simp at l1
    refine ⟨fun z hz => ?_, fun h => ((h2.nm ((h1.nm ((h0.nm h).snoc _)).set _ _)).set _ _), ?_⟩
    · show ∃ j, _ ∧ j < (setL y.ts r.ts.length y.p.list).length ∧ _
      unfold setL
      rw [List.length_set]
      rcases List.mem_append.1 hz with e | e
      · obtain ⟨j, j1, j2, j3⟩ := h0.tos z e
        exact ⟨j, j1, by omega, j3⟩
      · rw [List.mem_singleton.1 e]; exact ⟨r.ts.length, l0, by omega, rfl⟩
    · show _ ≤ (setL y.ts r.ts.length y.p.list).length
      unfold setL
      rw [List.length_set]; omega
  | _ :: _ :: _ :: _ :: _, env, ts => by simp only [nIf]; exact ⟨(fun b hb => by cases hb), id, Nat.le_refl _⟩
theorem nArgs_vs (lib : List Fn1) (call : Bool) : ∀ (l : List Nd) (env : ByteArray → Option Pm) (ts : List Pm), VSA ts (nArgs lib call l env ts)
  | [], env, ts => by rw [nArgs]; exact ⟨(fun b hb => by cases hb), id, Nat.le_refl _⟩
  | y :: r, env, ts => by
    have h1 := nE_vs lib y env ts
    have h1' : VS ts (Nr.arg call y (nE lib y env ts)) := by
      unfold Nr.arg
      split
      · exact VS.put h1.tos h1.nm h1.ln _ _ _ _ _
      · exact h1
    have h2 := nArgs_vs lib call r env (Nr.arg call y (nE lib y env ts)).ts
    have l1 := h1'.ln
    have l2 := h2.ln
    rw [nArgs]
    refine ⟨fun c hc => ?_, fun h => h2.nm (h1'.nm h), Nat.le_trans l1 l2⟩
    rcases List.mem_append.1 hc with e | e
    · obtain ⟨j, j1, j2, j3⟩ := h1'.tos c e
      exact ⟨j, j1, Nat.lt_of_lt_of_le j2 l2, j3⟩
    · obtain ⟨j, j1, j2, j3⟩ := h2.tos c e
      exact ⟨j, Nat.le_trans l1 j1, j2, j3⟩
end
/-- What does not name a variable has its value in a temporary of its own. -/
theorem names_own (lib : List Fn1) : ∀ (n : Nat) (x : Nd), SizeOf.sizeOf x ≤ n → formT x = true → namesT x = false → ∀ (env : ByteArray → Option Pm) (ts : List Pm), ∃ j, ts.length ≤ j ∧ j < (nE lib x env ts).ts.length ∧ (nE lib x env ts).p.name = tmpN j := by
  intro n
  induction n with
  | zero => intro x h; cases x; simp at h
  | succ n ih =>
    intro x hx hf hn env ts
    rw [formT_eq] at hf
    obtain ⟨hb, hk⟩ := Bool.and_eq_true_iff.1 hf
    have hkid := formT_kid hk
    obtain ⟨_, l83, l84, _⟩ := form_len hb
    rw [namesT_eq] at hn
    by_cases h81 : x.kind = 81
    · rw [if_neg (by omega), decide_eq_true h81] at hn; cases hn
    by_cases h84 : x.kind = 84
    · rw [if_pos h84] at hn
      obtain ⟨a, b, e⟩ := two (l84 h84)
      rw [nE_84 h84, e, nLet]
      rw [e, namesL] at hn
      have hlt := Nd.kid_lt (x := x) (k := 1) (y := b) (by rw [e]; rfl)
      obtain ⟨j, j1, j2, j3⟩ := ih b (by omega) (hkid b (by rw [e]; simp)) hn (setP env x.name (some (nE lib a env ts).p)) (nE lib a env ts).ts
      exact ⟨j, Nat.le_trans (nE_vs lib a env ts).ln j1, j2, j3⟩
    by_cases h83 : x.kind = 83
    · obtain ⟨c, a, b, e⟩ := three (l83 h83)
      have h0 := (nE_vs lib c env ts).ln
      have hv := nIf_vs lib [c, a, b] env ts
      rw [nE_83 h83, e]
      have hto : ∃ bd ∈ (nIf lib [c, a, b] env ts).bs, bd.to = (nIf lib [c, a, b] env ts).p.name := by
        rw [nIf]; exact ⟨_, List.mem_append_right _ (List.mem_singleton.2 rfl), rfl⟩
      obtain ⟨bd, hm, he⟩ := hto
      obtain ⟨j, j1, j2, j3⟩ := hv.tos bd hm
      exact ⟨j, j1, j2, he ▸ j3⟩
    have key : ∀ (bs : List Bd) (l : Bool) (ts' : List Pm) (op : Nat) (num : Int) (nm : ByteArray) (args : List ByteArray), ts.length ≤ ts'.length → ∃ j, ts.length ≤ j ∧ j < (Nr.put bs l ts' op num nm args).ts.length ∧ (Nr.put bs l ts' op num nm args).p.name = tmpN j := fun bs l ts' op num nm args h => ⟨ts'.length, h, by simp [Nr.put], rfl⟩
    by_cases h85 : x.kind = 85
    · rw [nE_85 h85]; exact key _ _ _ _ _ _ _ (nArgs_vs lib true x.kids env ts).ln
    · rw [nE_op h81 h83 h84 h85]; exact key _ _ _ _ _ _ _ (nArgs_vs lib false x.kids env ts).ln

end Go.Proofs.YtcoeakdpcigogaaDoor

namespace Go.Proofs.YtcoeakdpcigogaaDoor

theorem Tpd.pre {tp : Sc} {n : Nat} {a b : List Pm} (h : Tpd tp n (a ++ b)) : Tpd tp n a := fun j p hn hj => h j p hn (by rw [List.getElem?_append_left (List.getElem?_eq_some_iff.1 hj).1]; exact hj)
theorem Tpd.up {tp : Sc} {n m : Nat} {l : List Pm} (h : Tpd tp n l) (hm : n ≤ m) : Tpd tp m l := fun j p hn hj => h j p (by omega) hj
theorem Tpd.ext {tp : Sc} {n m k : Nat} {a b : List Pm} (h : Tpd tp n b) (he : Ext a b m k) : Tpd tp n a := by
  obtain ⟨ex, e, _⟩ := he.pre
  rw [e] at h; exact h.pre
theorem Tpd.last {tp : Sc} {n : Nat} {a : List Pm} {p : Pm} (h : Tpd tp n (a ++ [p])) (hn : n ≤ a.length) : tp (tmpN a.length) = some p.list := h a.length p hn (by simp)
theorem Tpd.some {tp : Sc} {n j : Nat} {l : List Pm} (h : Tpd tp n l) (h1 : n ≤ j) (h2 : j < l.length) : ∃ t, tp (tmpN j) = some t := ⟨_, h j _ h1 (List.getElem?_eq_getElem h2)⟩
theorem argsB_ok {tp : Sc} : ∀ (js : List Nat) (ps : List Pm) (seen : ByteArray → Bool), js.length = ps.length → (∀ j ∈ js, ∃ t, tp (tmpN j) = some t) → js.Nodup → (∀ j ∈ js, seen (tmpN j) = false) → argsB tp (js.map tmpN) (ps.map Pm.list) ps seen = true
  | [], [], _, _, _, _, _ => by rw [List.map_nil, argsB]
  | j :: js, p :: ps, seen, hl, ht, hn, hs => by
    obtain ⟨t, e⟩ := ht j (List.mem_cons_self ..)
    rw [List.nodup_cons] at hn
    rw [List.map_cons, List.map_cons, argsB, if_neg (by rw [e, hs j (List.mem_cons_self ..)]; simp)]
    refine argsB_ok js ps _ (by simpa using hl) (fun k hk => ht k (List.mem_cons_of_mem _ hk)) hn.2 fun k hk => ?_
    rw [if_neg (fun e2 => hn.1 (by rw [← tmpN_inj e2]; exact hk))]
    exact hs k (List.mem_cons_of_mem _ hk)
  | [], _ :: _, _, hl, _, _, _ => by simp at hl
  | _ :: _, [], _, hl, _, _, _ => by simp at hl
/-- The library of normalized functions, as the binds see it. -/
def LbOk (lib : List Fn1) (lb : ByteArray → Option Af) : Prop := ∀ (s : ByteArray) (g : Fn1), 0 ≤ findF lib s 0 → lib[(findF lib s 0).toNat]? = some g → ∃ g', lb s = some g' ∧ g'.params = g.params ∧ g'.list = g.list
/-- What is to be shown of an expression. -/
def Goal1 (lib : List Fn1) (lb : ByteArray → Option Af) (tp : Sc) (x : Nd) (env : ByteArray → Option Pm) (te : ByteArray → Option Bool) (ty : Bool) : Prop := ∀ (sc : Sc) (bd : Bn) (ts : List Pm), EnvOk env sc te → Frs sc ts.length → Tpd tp ts.length (nE lib x env ts).ts → (nE lib x env ts).p.list = ty ∧ ∃ sc' bd', VB lb tp sc bd ts (nE lib x env ts) ty sc' bd'
theorem nArgs_vb {lib : List Fn1} {lb : ByteArray → Option Af} {tp : Sc} {env : ByteArray → Option Pm} {te : ByteArray → Option Bool} (call : Bool) : ∀ (l : List Nd), (∀ y ∈ l, formT y = true) → (∀ y ∈ l, Goal1 lib lb tp y env te (chkT lib y te).1) → ∀ (sc : Sc) (bd : Bn) (ts : List Pm), EnvOk env sc te → Frs sc ts.length → Tpd tp ts.length (nArgs lib call l env ts).ts → ∃ sc' bd', VA lb tp sc bd ts (nArgs lib call l env ts) (l.map fun y => (chkT lib y te).1) sc' bd' ∧ (call = true → ∃ js : List Nat, (nArgs lib call l env ts).args = js.map tmpN ∧ js.Nodup ∧ ∀ j ∈ js, ts.length ≤ j ∧ j < (nArgs lib call l env ts).ts.length)
  | [], _, _, sc, bd, ts, _, _, _ => by
    rw [nArgs]
    exact ⟨sc, bd, ⟨rfl, fun s _ => rfl, IncOn.nil _ _ (fun j h => by have h' : ts.length ≤ j ∧ j < ts.length := h; omega), rfl⟩, fun _ => ⟨[], rfl, by simp, by simp⟩⟩
  | y :: r, hf, hg, sc, bd, ts, he, hs, ht => by
    have e2 := nArgs_ext lib call r env (Nr.arg call y (nE lib y env ts)).ts
    rw [nArgs] at ht
    have ht' : Tpd tp ts.length (nArgs lib call r env (Nr.arg call y (nE lib y env ts)).ts).ts := ht
    have hx := ht'.ext e2
    have v0 := nE_vs lib y env ts
    have h1 : ∃ sc1 bd1, VB lb tp sc bd ts (Nr.arg call y (nE lib y env ts)) (chkT lib y te).1 sc1 bd1 ∧ VS ts (Nr.arg call y (nE lib y env ts)) ∧ (call = true → ∃ j, ts.length ≤ j ∧ j < (Nr.arg call y (nE lib y env ts)).ts.length ∧ (Nr.arg call y (nE lib y env ts)).p.name = tmpN j) := by
      unfold Nr.arg at hx ⊢
      by_cases hc : call = true ∧ namesT y = true
      · rw [if_pos hc] at hx ⊢
        have hx' : Tpd tp ts.length ((nE lib y env ts).ts ++ [(⟨tmpN (nE lib y env ts).ts.length, (nE lib y env ts).p.list⟩ : Pm)]) := hx
        obtain ⟨hl, sc1, bd1, hv⟩ := hg y (List.mem_cons_self ..) sc bd ts he hs hx'.pre
        have hfr := hv.off.frs hs v0.ln fun j h => h.2
        have hb := bnd_ok (lb := lb) (bd := bd1) (op := 81) (num := 0) (nm := eS) (hx'.last v0.ln) (hfr _ (Nat.le_refl _)) (typesA_one hv.rs) (fields_var _ _ _) (.inl ⟨rfl, by rw [hl]⟩)
        have hp := VB.put hv.ok hv.off hv.inc v0.ln hb
        rw [hl] at hp ⊢
        exact ⟨_, _, hp, VS.put v0.tos v0.nm v0.ln _ _ _ _ _, fun _ => ⟨(nE lib y env ts).ts.length, v0.ln, by simp [Nr.put], rfl⟩⟩
      · rw [if_neg hc] at hx ⊢
        obtain ⟨hl, sc1, bd1, hv⟩ := hg y (List.mem_cons_self ..) sc bd ts he hs hx
        refine ⟨sc1, bd1, hv, v0, fun h => ?_⟩
        exact names_own lib _ y (Nat.le_refl _) (hf y (List.mem_cons_self ..)) (by cases e : namesT y with | false => rfl | true => exact absurd ⟨h, e⟩ hc) env ts
    obtain ⟨sc1, bd1, hv, hvs, hj⟩ := h1
    rw [nArgs]
    generalize Nr.arg call y (nE lib y env ts) = x at *
    have hk1 : ∀ s t, sc s = some t → sc1 s = some t := fun s t h => hv.off.keep hs (fun j h => h.1) h
    have hfr := hv.off.frs hs hvs.ln fun j h => h.2
    obtain ⟨sc2, bd2, hv2, hj2⟩ := nArgs_vb call r (fun z hz => hf z (List.mem_cons_of_mem _ hz)) (fun z hz => hg z (List.mem_cons_of_mem _ hz)) sc1 bd1 x.ts (he.keep hk1) hfr (ht'.up hvs.ln)
    have hk2 : ∀ s t, sc1 s = some t → sc2 s = some t := fun s t h => hv2.off.keep hfr (fun j h => h.1) h
    have l1 := hvs.ln
    have l2 := (nArgs_vs lib call r env x.ts).ln
    generalize nArgs lib call r env x.ts = z at *
    refine ⟨sc2, bd2, ⟨?_, ?_, ?_, ?_⟩, fun h => ?_⟩
    · show bodyB lb tp (x.bs ++ z.bs) sc bd = _
      rw [bodyB_append lb tp _ _ _ _ hv.ok]; exact hv2.ok
    · exact hv.off.seq hv2.off fun j h => by
        show ts.length ≤ j ∧ j < z.ts.length
        rcases h with h | h <;> (have := h.1; have := h.2; omega)
    · exact hv.inc.seq hv2.inc (fun j h h' => by have := h.2; have := h'.1; omega) fun j => by
        show (ts.length ≤ j ∧ j < z.ts.length) ↔ ((ts.length ≤ j ∧ j < x.ts.length) ∨ (x.ts.length ≤ j ∧ j < z.ts.length))
        omega
    · show typesA sc2 (x.p.name :: z.args) = _
      rw [typesA, hk2 _ _ hv.rs]
      dsimp only
      rw [hv2.rs, List.map_cons]; rfl
    · obtain ⟨j, j1, j2, j3⟩ := hj h
      obtain ⟨js, e, hn, hr⟩ := hj2 h
      refine ⟨j :: js, ?_, ?_, fun k hk => ?_⟩
      · show x.p.name :: z.args = _
        rw [e, j3]; rfl
      · rw [List.nodup_cons]
        exact ⟨fun hm => by have := (hr j hm).1; omega, hn⟩
      · show ts.length ≤ k ∧ k < z.ts.length
        rcases List.mem_cons.1 hk with e | e
        · subst e; omega
        · have := hr k e; omega
theorem fieldsB_flat (d : ByteArray) (l : Bool) (op : Nat) (num : Int) (nm : ByteArray) (args : List ByteArray) : fieldsB (.mk d l op num nm args [] []) = if op ≠ 80 ∧ op ≠ 82 ∧ num ≠ 0 then false else if op ≠ 85 ∧ nm ≠ eS then false else if op = 80 then decide (0 ≤ num) else if op = 82 then decide (8 ≤ num ∧ num ≤ 23) else decide (op = 81 ∨ op = 83 ∨ op = 85 ∨ op = 86 ∨ op = 87 ∨ op = 88 ∨ op = 89 ∨ op = 90) := by
  unfold fieldsB
  simp only [Bd.op, Bd.num, Bd.name, Bd.thn, Bd.els, List.length_nil, Nat.add_zero, Nat.lt_irrefl, and_false, if_false]
  rfl
/-- An operation's fields are those of its kind. -/
theorem fields_op {x : Nd} (hf : formB x.kind x.num x.name x.kids.length = true) (h81 : x.kind ≠ 81) (h84 : x.kind ≠ 84) (h85 : x.kind ≠ 85) (n : Nat) (l : Bool) (args : List ByteArray) : fieldsB (.mk (tmpN n) l x.kind x.num eS args [] []) = true := by
  obtain ⟨_, _, _, hk⟩ := form_len hf
  rw [fieldsB_flat]
  unfold formB at hf
  have hnum : ¬ (x.kind ≠ 80 ∧ x.kind ≠ 82 ∧ x.num ≠ 0) := by
    rintro ⟨a, b, c⟩
    rw [if_neg a, if_neg h81, if_neg b, if_neg h84, if_neg h85] at hf
    simp [c] at hf
  rw [if_neg hnum, if_neg (by simp)]
  by_cases h80 : x.kind = 80
  · rw [if_pos h80] at hf ⊢
    simp at hf ⊢
    exact hf.1.1
  rw [if_neg h80]
  rw [if_neg h80, if_neg h81] at hf
  by_cases h82 : x.kind = 82
  · rw [if_pos h82] at hf ⊢
    simp at hf ⊢
    exact ⟨hf.1.1.1, hf.1.1.2⟩
  rw [if_neg h82]
  simp; omega
theorem want_op {lib : List Fn1} {x : Nd} {ts : List Bool} (hk : 80 ≤ x.kind ∧ x.kind ≤ 90) (h81 : x.kind ≠ 81) (h83 : x.kind ≠ 83) (h84 : x.kind ≠ 84) (h85 : x.kind ≠ 85) : wantR lib x ts = operT x.kind ∧ (operT x.kind).2 = listK x.kind := by
  unfold wantR operT listK
  rw [if_neg h83, if_neg h84, if_neg h85]
  refine ⟨rfl, ?_⟩
  have : x.kind = 80 ∨ x.kind = 82 ∨ x.kind = 86 ∨ x.kind = 87 ∨ x.kind = 88 ∨ x.kind = 89 ∨ x.kind = 90 := by omega
  rcases this with e | e | e | e | e | e | e <;> rw [e] <;> rfl
theorem callB_at {lb : ByteArray → Option Af} {tp : Sc} {d : ByteArray} {l : Bool} {op : Nat} {num : Int} {nm : ByteArray} {args : List ByteArray} {thn els : List Bd} {f : Af} (h : lb nm = some f) (ts : List Bool) : callB lb tp (.mk d l op num nm args thn els) ts = if f.list ≠ l ∨ ts.length ≠ f.params.length then false else argsB tp args ts f.params fun _ => false := by
  unfold callB
  show (match lb nm with
    | none => false
    | some f => _) = _
  rw [h]; rfl
theorem bnd_if {lb : ByteArray → Option Af} {tp sc : Sc} {bd bd1 bd2 : Bn} {n : Nat} {l : Bool} {a : ByteArray} {thn els : List Bd} (h1 : tp (tmpN n) = some l) (h2 : sc (tmpN n) = none) (h3 : sc a = some false) (h4 : brB lb tp (tmpN n) thn sc bd = some bd1) (h5 : brB lb tp (tmpN n) els sc bd1 = some bd2) : bndB lb tp (.mk (tmpN n) l 83 0 eS [a] thn els) sc bd = some bd2 := by
  rw [bndB, if_neg (by rw [h1]; simp), if_neg (by rw [h2]; simp), typesA_one h3]
  dsimp only
  rw [if_neg (by unfold fieldsB; simp [Bd.op, Bd.num, Bd.name, Bd.thn, Bd.els]), if_neg (by omega), if_neg (by omega), if_pos rfl, if_pos rfl, h4]
  exact h5
theorem nE_vb {lib : List Fn1} {lb : ByteArray → Option Af} (HL : LbOk lib lb) {tp : Sc} : ∀ (n : Nat) (x : Nd), SizeOf.sizeOf x ≤ n → formT x = true → ∀ (te : ByteArray → Option Bool) (ty : Bool), chkT lib x te = (ty, 0) → ∀ (env : ByteArray → Option Pm), Goal1 lib lb tp x env te ty := by
  intro n
  induction n with
  | zero => intro x h; cases x; simp at h
  | succ n ih =>
    intro x hx hf te ty hc env sc bd ts he hs ht
    rw [formT_eq] at hf
    obtain ⟨hb, hkids⟩ := Bool.and_eq_true_iff.1 hf
    have hkid := formT_kid hkids
    have hsz : ∀ y ∈ x.kids, SizeOf.sizeOf y ≤ n := fun y hy => by
      obtain ⟨k, hk⟩ := List.getElem?_of_mem hy
      have := Nd.kid_lt hk
      omega
    obtain ⟨l82, l83, l84, hk⟩ := form_len hb
    obtain ⟨c1, c2, c3, c4⟩ := chkT_ok hc
    by_cases h81 : x.kind = 81
    · rw [nE_81 h81] at ht ⊢
      unfold reachE at c1
      rw [if_pos h81] at c1
      have c3 := c3 h81
      cases h : te x.name with
      | none => rw [h] at c1; cases c1
      | some t =>
        rw [h] at c3
        obtain ⟨p, e1, e2, e3⟩ := he x.name t h
        have c3' : ty = t := c3
        subst c3'
        rw [e1]
        exact ⟨e2, sc, bd, rfl, fun s _ => rfl, IncOn.nil _ _ (fun j h => by have h' : ts.length ≤ j ∧ j < ts.length := h; omega), e3⟩
    obtain ⟨c5, c6⟩ := c4 h81
    by_cases h83 : x.kind = 83
    · obtain ⟨k1, k2⟩ := chkTL_ok (show x.kind ≠ 84 by omega) _ _ _ c2
      obtain ⟨c, a, b, e⟩ := three (l83 h83)
      rw [k1] at c5 c6
      unfold wantR at c5 c6
      rw [if_neg (by omega), if_pos h83] at c5 c6
      rw [e] at c5 c6 k2 hkid hsz
      simp only [List.nil_append, List.map_cons, List.map_nil, List.getD_cons_succ, List.getD_cons_zero] at c5 c6
      have q0 : (chkT lib c te).1 = false := by injection c5
      have q2 : (chkT lib b te).1 = (chkT lib a te).1 := by injection c5 with _ q; injection q with _ q; injection q
      rw [nE_83 h83, e, nIf] at ht ⊢
      have ic := ih c (hsz c (by simp)) (hkid c (by simp)) te false (Prod.ext q0 (k2 c (by simp))) env
      have ia := ih a (hsz a (by simp)) (hkid a (by simp)) te ty (Prod.ext c6.symm (k2 a (by simp))) env
      have ib := ih b (hsz b (by simp)) (hkid b (by simp)) te ty (Prod.ext (q2.trans c6.symm) (k2 b (by simp))) env
      have v0 := nE_vs lib c env ts
      have x0 := nE_ext lib c env ts
      have ic := ic sc bd ts he hs
      generalize nE lib c env ts = r at *
      have ia := fun sc1 bd1 => ia sc1 bd1 (r.ts ++ [⟨tmpN r.ts.length, false⟩])
      have v1 := nE_vs lib a env (r.ts ++ [⟨tmpN r.ts.length, false⟩])
      have x1 := nE_ext lib a env (r.ts ++ [⟨tmpN r.ts.length, false⟩])
      generalize nE lib a env (r.ts ++ [⟨tmpN r.ts.length, false⟩]) = y at *
      have ib := fun sc1 bd1 => ib sc1 bd1 (setL y.ts r.ts.length y.p.list)
      have v2 := nE_vs lib b env (setL y.ts r.ts.length y.p.list)
      have x2 := nE_ext lib b env (setL y.ts r.ts.length y.p.list)
      generalize nE lib b env (setL y.ts r.ts.length y.p.list) = z at *
      have ly := v1.ln
      have lz := v2.ln
      have lr := v0.ln
      have lyl : (setL y.ts r.ts.length y.p.list).length = y.ts.length := by unfold setL; rw [List.length_set]
      have lzl : ∀ b, (setL z.ts r.ts.length b).length = z.ts.length := fun b => by unfold setL; rw [List.length_set]
      rw [List.length_append] at ly
      simp at ly
      rw [lyl] at lz
      have g2 : ∀ j, j ≠ r.ts.length → (setL z.ts r.ts.length z.p.list)[j]? = z.ts[j]? := fun j hj => by unfold setL; rw [List.getElem?_set, if_neg (fun e => hj e.symm)]
      have gz : ∀ j, j < y.ts.length → z.ts[j]? = (setL y.ts r.ts.length y.p.list)[j]? := fun j hj => by
        obtain ⟨ex, e, _⟩ := x2.pre
        rw [e, List.getElem?_append_left (by rw [lyl]; exact hj)]
      have g1 : ∀ j, j ≠ r.ts.length → (setL y.ts r.ts.length y.p.list)[j]? = y.ts[j]? := fun j hj => by unfold setL; rw [List.getElem?_set, if_neg (fun e => hj e.symm)]
      have g0 : ∀ j, j < r.ts.length → y.ts[j]? = r.ts[j]? := fun j hj => by
        obtain ⟨ex, e, _⟩ := x1.pre
        rw [e, List.getElem?_append_left (by simp; omega), List.getElem?_append_left hj]
      have t0 : Tpd tp ts.length r.ts := fun j p h1 h2 => by
        have hlt := (List.getElem?_eq_some_iff.1 h2).1
        exact ht j p h1 (by show (setL z.ts r.ts.length z.p.list)[j]? = _; rw [g2 j (by omega), gz j (by omega), g1 j (by omega), g0 j hlt]; exact h2)
      have t1 : Tpd tp (r.ts ++ [(⟨tmpN r.ts.length, false⟩ : Pm)]).length y.ts := fun j p h1 h2 => by
        have hlt := (List.getElem?_eq_some_iff.1 h2).1
        simp at h1
        exact ht j p (by omega) (by show (setL z.ts r.ts.length z.p.list)[j]? = _; rw [g2 j (by omega), gz j (by omega), g1 j (by omega)]; exact h2)
      have t2 : Tpd tp (setL y.ts r.ts.length y.p.list).length z.ts := fun j p h1 h2 => by
        rw [lyl] at h1
        exact ht j p (by omega) (by show (setL z.ts r.ts.length z.p.list)[j]? = _; rw [g2 j (by omega)]; exact h2)
      have ti : tp (tmpN r.ts.length) = some z.p.list := ht r.ts.length ⟨tmpN r.ts.length, z.p.list⟩ lr (by
        show (setL z.ts r.ts.length z.p.list)[r.ts.length]? = _
        unfold setL; rw [List.getElem?_set, if_pos rfl, if_pos (by omega)])
      obtain ⟨_, sc1, bd1, hv0⟩ := ic t0
      have hfr1 := hv0.off.frs hs lr fun j h => h.2
      have hk1 : ∀ s t, sc s = some t → sc1 s = some t := fun s t h => hv0.off.keep hs (fun j h => h.1) h
      have hfr1' : Frs sc1 (r.ts ++ [(⟨tmpN r.ts.length, false⟩ : Pm)]).length := fun j hj => hfr1 j (by simp at hj; omega)
      obtain ⟨hl1, sc2, bd2, hv1⟩ := ia sc1 bd1 (he.keep hk1) hfr1' t1
      obtain ⟨hl2, sc3, bd3, hv2⟩ := ib sc1 bd2 (he.keep hk1) (fun j hj => hfr1 j (by rw [lyl] at hj; omega)) t2
      have hni : ∀ j, (r.ts ++ [(⟨tmpN r.ts.length, false⟩ : Pm)]).length ≤ j → tmpN r.ts.length ≠ tmpN j := fun j hj e => by have := tmpN_inj e; simp at hj; omega
      have n2 : sc2 (tmpN r.ts.length) = none := by
        rw [hv1.off _ (fun j h => hni j h.1)]; exact hfr1 _ (Nat.le_refl _)
      have n3 : sc3 (tmpN r.ts.length) = none := by
        rw [hv2.off _ (fun j h => hni j (by have := h.1; rw [lyl] at this; simp; omega))]; exact hfr1 _ (Nat.le_refl _)
      rw [hl2] at ti
      have b1 := bnd_ok (lb := lb) (bd := bd2) (op := 81) (num := 0) (nm := eS) ti n2 (typesA_one hv1.rs) (fields_var _ _ _) (.inl ⟨rfl, rfl⟩)
      have b2 := bnd_ok (lb := lb) (bd := bd3) (op := 81) (num := 0) (nm := eS) ti n3 (typesA_one hv2.rs) (fields_var _ _ _) (.inl ⟨rfl, rfl⟩)
      have br1 := brB_of lb tp (tmpN r.ts.length) _ rfl y.bs sc1 bd1 hv1.ok (fun q hq e => by
        obtain ⟨j, j1, _, j3⟩ := v1.tos q hq
        exact hni j j1 (by rw [← e, j3])) b1
      have br2 := brB_of lb tp (tmpN r.ts.length) _ rfl z.bs sc1 bd2 hv2.ok (fun q hq e => by
        obtain ⟨j, j1, _, j3⟩ := v2.tos q hq
        exact hni j (by rw [lyl] at j1; simp; omega) (by rw [← e, j3])) b2
      rw [hl1, hl2]
      refine ⟨rfl, setS sc1 (tmpN r.ts.length) (some ty), incB bd3 (tmpN r.ts.length), ?_, ?_, ?_, ?_⟩
      · show bodyB lb tp (r.bs ++ [_]) sc bd = _
        rw [bodyB_append lb tp _ _ _ _ hv0.ok, bodyB, bnd_if ti (hfr1 _ (Nat.le_refl _)) hv0.rs br1 br2]
        rfl
      · show Off (Rng ts.length (setL z.ts r.ts.length ty).length) _ _
        rw [lzl]
        exact hv0.off.seq (Off.one _ _ _) fun j h => by
          show ts.length ≤ j ∧ j < z.ts.length
          rcases h with h | h
          · have := h.1; have := h.2; omega
          · omega
      · show IncOn (Rng ts.length (setL z.ts r.ts.length ty).length) _ _
        rw [lzl]
        have i1 := hv0.inc.seq (R := fun j => (ts.length ≤ j ∧ j < r.ts.length) ∨ (r.ts.length + 1 ≤ j ∧ j < y.ts.length)) hv1.inc (fun j h h' => by have := h.2; have := h'.1; simp at this; omega) fun j => by
          show _ ↔ ((ts.length ≤ j ∧ j < r.ts.length) ∨ ((r.ts ++ [(⟨tmpN r.ts.length, false⟩ : Pm)]).length ≤ j ∧ j < y.ts.length))
          simp
        have i2 := i1.seq (R := fun j => (ts.length ≤ j ∧ j < r.ts.length) ∨ (r.ts.length + 1 ≤ j ∧ j < z.ts.length)) hv2.inc (fun j h h' => by have := h'.1; rw [lyl] at this; omega) fun j => by
          show _ ↔ (_ ∨ ((setL y.ts r.ts.length y.p.list).length ≤ j ∧ j < z.ts.length))
          rw [lyl]; omega
        exact i2.seq (IncOn.one _ _) (fun j h e => by omega) fun j => by
          show (ts.length ≤ j ∧ j < z.ts.length) ↔ _
          omega
      · show setS sc1 (tmpN r.ts.length) (some ty) (tmpN r.ts.length) = some ty
        unfold setS; rw [if_pos rfl]
    by_cases h84 : x.kind = 84
    · obtain ⟨a, b, e⟩ := two (l84 h84)
      unfold wantR at c6
      rw [if_neg (by omega), if_neg (by omega), if_pos h84] at c6
      rw [e, h84] at c2 c6
      rw [e] at hkid hsz
      rw [chkTL] at c2 c6
      have e0 : envAt 84 x.name te 0 [] = te := by unfold envAt; rw [if_neg (by omega)]
      rw [e0] at c2 c6
      by_cases g0 : (chkT lib a te).2 = 0
      rotate_left
      · rw [if_pos g0] at c2; exact absurd c2 g0
      rw [if_neg (fun e => e g0)] at c2 c6
      rw [chkTL] at c2 c6
      have e1 : envAt 84 x.name te (0 + 1) ([] ++ [(chkT lib a te).1]) = setE te x.name (some (chkT lib a te).1) := by unfold envAt; rw [if_pos ⟨rfl, rfl⟩]; rfl
      rw [e1] at c2 c6
      by_cases g1 : (chkT lib b (setE te x.name (some (chkT lib a te).1))).2 = 0
      rotate_left
      · rw [if_pos g1] at c2; exact absurd c2 g1
      rw [if_neg (fun e => e g1), chkTL] at c6
      have c6 : ty = (chkT lib b (setE te x.name (some (chkT lib a te).1))).1 := c6
      rw [nE_84 h84, e, nLet] at ht ⊢
      have ia := ih a (hsz a (by simp)) (hkid a (by simp)) te _ (Prod.ext rfl g0) env sc bd ts he hs
      have v1 := nE_vs lib a env ts
      have ib := ih b (hsz b (by simp)) (hkid b (by simp)) _ ty (Prod.ext c6.symm g1) (setP env x.name (some (nE lib a env ts).p))
      generalize nE lib a env ts = p at *
      have v2 := nE_vs lib b (setP env x.name (some p.p)) p.ts
      have x2 := nE_ext lib b (setP env x.name (some p.p)) p.ts
      have ib := fun sc1 bd1 => ib sc1 bd1 p.ts
      generalize nE lib b (setP env x.name (some p.p)) p.ts = q at *
      have ht' : Tpd tp ts.length q.ts := ht
      obtain ⟨hl1, sc1, bd1, hv1⟩ := ia (ht'.ext x2)
      have hk1 : ∀ s t, sc s = some t → sc1 s = some t := fun s t h => hv1.off.keep hs (fun j h => h.1) h
      have hfr1 := hv1.off.frs hs v1.ln fun j h => h.2
      have he2 := (he.keep hk1).set x.name (p := p.p) (by rw [hl1]; exact hv1.rs)
      rw [hl1] at he2
      obtain ⟨hl2, sc2, bd2, hv2⟩ := ib sc1 bd1 he2 hfr1 (ht'.up v1.ln)
      have l1 := v1.ln
      have l2 := v2.ln
      refine ⟨hl2, sc2, bd2, ?_, ?_, ?_, hv2.rs⟩
      · show bodyB lb tp (p.bs ++ q.bs) sc bd = _
        rw [bodyB_append lb tp _ _ _ _ hv1.ok]; exact hv2.ok
      · exact hv1.off.seq hv2.off fun j h => by
          show ts.length ≤ j ∧ j < q.ts.length
          rcases h with h | h <;> (have := h.1; have := h.2; omega)
      · exact hv1.inc.seq hv2.inc (fun j h h' => by have := h.2; have := h'.1; omega) fun j => by
          show (ts.length ≤ j ∧ j < q.ts.length) ↔ ((ts.length ≤ j ∧ j < p.ts.length) ∨ (p.ts.length ≤ j ∧ j < q.ts.length))
          omega
    obtain ⟨k1, k2⟩ := chkTL_ok h84 _ _ _ c2
    rw [List.nil_append] at k1
    rw [k1] at c5 c6
    have hg : ∀ y ∈ x.kids, Goal1 lib lb tp y env te (chkT lib y te).1 := fun y hy => ih y (hsz y hy) (hkid y hy) te _ (Prod.ext rfl (k2 y hy)) env
    by_cases h85 : x.kind = 85
    · rw [nE_85 h85] at ht ⊢
      obtain ⟨p1, p2⟩ := reach85 c1 h85
      have hi : ∃ g, lib[(findF lib x.name 0).toNat]? = some g := by
        rcases findF_range x.name lib 0 with e | ⟨i, i1, i2, _⟩
        · rw [e] at p1; omega
        · exact ⟨lib[i], by rw [show (findF lib x.name 0).toNat = i by rw [i2]; omega]; exact List.getElem?_eq_getElem i1⟩
      obtain ⟨g, hgi⟩ := hi
      unfold wantR at c5 c6
      rw [if_neg (by omega), if_neg (by omega), if_neg (by omega), if_pos h85, hgi] at c5 c6
      rw [hgi] at ht p2 ⊢
      have v := nArgs_vs lib true x.kids env ts
      have hva := nArgs_vb (lib := lib) (lb := lb) (tp := tp) (env := env) (te := te) true x.kids hkid hg sc bd ts he hs
      generalize nArgs lib true x.kids env ts = r at *
      have ht' : Tpd tp ts.length (r.ts ++ [(⟨tmpN r.ts.length, g.list⟩ : Pm)]) := ht
      obtain ⟨sc1, bd1, hv, hj⟩ := hva ht'.pre
      obtain ⟨js, ej, hn, hr⟩ := hj rfl
      have hfr := hv.off.frs hs v.ln fun j h => h.2
      obtain ⟨g', e1, e2, e3⟩ := HL x.name g p1 hgi
      have c5' : x.kids.map (fun y => (chkT lib y te).1) = g.params.map Pm.list := c5
      have c6' : ty = g.list := c6
      subst c6'
      have hjl : js.length = g.params.length := by
        have h1 := typesA_len hv.rs
        rw [ej, c5'] at h1
        simpa using h1.symm
      have hcall : callB lb tp (.mk (tmpN r.ts.length) g.list 85 0 x.name r.args [] []) (x.kids.map fun y => (chkT lib y te).1) = true := by
        rw [callB_at e1]
        rw [if_neg (by rw [e3, e2, c5']; simp), e2, c5', ej]
        exact argsB_ok js g.params _ hjl (fun j h => ht'.pre.some (hr j h).1 (hr j h).2) hn fun j _ => rfl
      have hb := bnd_ok (lb := lb) (bd := bd1) (op := 85) (num := 0) (nm := x.name) (ht'.last v.ln) (hfr _ (Nat.le_refl _)) hv.rs (by unfold fieldsB; simp [Bd.op, Bd.num, Bd.name, Bd.thn, Bd.els]) (.inr (.inl ⟨rfl, hcall⟩))
      exact ⟨rfl, _, _, VB.put hv.ok hv.off hv.inc v.ln hb⟩
    · rw [nE_op h81 h83 h84 h85] at ht ⊢
      obtain ⟨w1, w2⟩ := want_op (lib := lib) (ts := x.kids.map fun y => (chkT lib y te).1) hk h81 h83 h84 h85
      rw [w1] at c5 c6
      have v := nArgs_vs lib false x.kids env ts
      have hva := nArgs_vb (lib := lib) (lb := lb) (tp := tp) (env := env) (te := te) false x.kids hkid hg sc bd ts he hs
      generalize nArgs lib false x.kids env ts = r at *
      have ht' : Tpd tp ts.length (r.ts ++ [(⟨tmpN r.ts.length, listK x.kind⟩ : Pm)]) := ht
      obtain ⟨sc1, bd1, hv, _⟩ := hva ht'.pre
      have hfr := hv.off.frs hs v.ln fun j h => h.2
      have hb := bnd_ok (lb := lb) (bd := bd1) (op := x.kind) (num := x.num) (nm := eS) (ht'.last v.ln) (hfr _ (Nat.le_refl _)) hv.rs (fields_op hb h81 h84 h85 _ _ _) (.inr (.inr ⟨h81, h85, h83, c5, w2⟩))
      have hp := VB.put hv.ok hv.off hv.inc v.ln hb
      rw [w2] at c6
      rw [c6]
      exact ⟨rfl, _, _, hp⟩

end Go.Proofs.YtcoeakdpcigogaaDoor

namespace Go.Proofs.YtcoeakdpcigogaaDoor

theorem pm_facts {l : List Pm} (h : paramE l = 0) : l.length ≤ 8 ∧ (∀ p ∈ l, nameB p.name = true) ∧ (l.map Pm.name).Nodup := by
  unfold paramE at h
  by_cases h1 : 8 < l.length
  · rw [if_pos h1] at h; cases h
  rw [if_neg h1] at h
  by_cases h2 : ∃ p ∈ l, nameB p.name = false
  · rw [if_pos h2] at h; cases h
  rw [if_neg h2] at h
  by_cases h3 : (l.map Pm.name).Nodup
  · exact ⟨by omega, fun p hp => by cases e : nameB p.name with | true => rfl | false => exact absurd ⟨p, hp, e⟩ h2, h3⟩
  · rw [if_neg h3] at h; cases h
theorem envs_P (l : List Pm) (s : ByteArray) : envF l s = scP l s ∧ (envP l s).map Pm.list = envF l s ∧ ∀ p, envP l s = some p → p.name = s := by
  have key : ∀ (l : List Pm) (e : ByteArray → Option Pm) (f : ByteArray → Option Bool) (sc : Sc), (∀ s, f s = sc s ∧ (e s).map Pm.list = f s ∧ ∀ p, e s = some p → p.name = s) → ∀ s, l.foldl (fun env p => setE env p.name (some p.list)) f s = l.foldl (fun sc p => setS sc p.name (some p.list)) sc s ∧ (l.foldl (fun env p => setP env p.name (some p)) e s).map Pm.list = l.foldl (fun env p => setE env p.name (some p.list)) f s ∧ ∀ p, l.foldl (fun env p => setP env p.name (some p)) e s = some p → p.name = s := by
    intro l
    induction l with
    | nil => intro e f sc h s; exact h s
    | cons p r ih =>
      intro e f sc h s
      refine ih _ _ _ (fun q => ?_) s
      unfold setE setS setP
      by_cases e0 : q = p.name
      · simp only [if_pos e0]; exact ⟨trivial, rfl, fun p' e => by cases e; exact e0.symm⟩
      · simp only [if_neg e0]; exact h q
  exact key l (fun _ => none) (fun _ => none) (fun _ => none) (fun s => ⟨rfl, rfl, fun p e => by cases e⟩) s
theorem scP_out {l : List Pm} {s : ByteArray} (h : s ∉ l.map Pm.name) : scP l s = none := by
  have key : ∀ (l : List Pm) (sc : Sc), s ∉ l.map Pm.name → l.foldl (fun sc p => setS sc p.name (some p.list)) sc s = sc s := by
    intro l
    induction l with
    | nil => intro sc _; rfl
    | cons p r ih =>
      intro sc h
      rw [List.map_cons, List.mem_cons] at h
      rw [List.foldl_cons, ih _ (fun e => h (.inr e))]
      unfold setS; rw [if_neg (fun e => h (.inl e))]
  exact key l _ h
theorem scP_get {l : List Pm} (hn : (l.map Pm.name).Nodup) {p : Pm} (hp : p ∈ l) : scP l p.name = some p.list := by
  have key0 : ∀ (s : ByteArray) (l : List Pm) (sc : Sc), s ∉ l.map Pm.name → l.foldl (fun sc p => setS sc p.name (some p.list)) sc s = sc s := by
    intro s l
    induction l with
    | nil => intro sc _; rfl
    | cons p r ih =>
      intro sc h
      rw [List.map_cons, List.mem_cons] at h
      rw [List.foldl_cons, ih _ (fun e => h (.inr e))]
      unfold setS; rw [if_neg (fun e => h (.inl e))]
  have key : ∀ (l : List Pm) (sc : Sc), (l.map Pm.name).Nodup → p ∈ l → l.foldl (fun sc p => setS sc p.name (some p.list)) sc p.name = some p.list := by
    intro l
    induction l with
    | nil => intro sc _ h; cases h
    | cons q r ih =>
      intro sc hn hp
      rw [List.map_cons, List.nodup_cons] at hn
      rw [List.foldl_cons]
      rcases List.mem_cons.1 hp with e | e
      · subst e
        rw [key0 _ _ _ hn.1]; unfold setS; rw [if_pos rfl]
      · exact ih _ hn.2 e
  exact key l _ hn hp
theorem byN_get {l : List Af} (hn : (l.map Af.name).Nodup) {f : Af} (hf : f ∈ l) : byN l f.name = some f := by
  have key0 : ∀ (s : ByteArray) (l : List Af) (e : ByteArray → Option Af), s ∉ l.map Af.name → l.foldl (fun e f => fun t => if t = f.name then some f else e t) e s = e s := by
    intro s l
    induction l with
    | nil => intro e _; rfl
    | cons p r ih =>
      intro e h
      rw [List.map_cons, List.mem_cons] at h
      rw [List.foldl_cons, ih _ (fun e => h (.inr e)), if_neg (fun e => h (.inl e))]
  have key : ∀ (l : List Af) (e : ByteArray → Option Af), (l.map Af.name).Nodup → f ∈ l → l.foldl (fun e f => fun t => if t = f.name then some f else e t) e f.name = some f := by
    intro l
    induction l with
    | nil => intro e _ h; cases h
    | cons q r ih =>
      intro e hn hp
      rw [List.map_cons, List.nodup_cons] at hn
      rw [List.foldl_cons]
      rcases List.mem_cons.1 hp with e2 | e2
      · subst e2
        rw [key0 _ _ _ hn.1, if_pos rfl]
      · exact ih _ hn.2 e2
  exact key l _ hn hf
theorem normL_names (lib : List Fn1) : (normL lib).map Af.name = lib.map Fn1.name := by
  unfold normL; rw [List.map_map]; rfl
theorem names_nodup {lib : List Fn1} (h : (validR lib).2 = 0) : (lib.map Fn1.name).Nodup := by
  rw [List.Nodup, List.pairwise_iff_getElem]
  intro i j hi hj hij e
  simp only [List.length_map] at hi hj
  simp only [List.getElem_map] at e
  have h1 := valid_find h (List.getElem?_eq_getElem hi)
  have h2 := valid_find h (List.getElem?_eq_getElem hj)
  rw [e] at h1
  omega
theorem lbOk_norm {lib : List Fn1} (h : (validR lib).2 = 0) : LbOk lib (byN (normL lib)) := fun s g h0 hg => by
  have hn : ((normL lib).map Af.name).Nodup := by rw [normL_names]; exact names_nodup h
  have hm : normF lib g ∈ normL lib := List.mem_map.2 ⟨g, List.mem_of_getElem? hg, rfl⟩
  have hs : g.name = s := by
    rcases findF_range s lib 0 with e | ⟨i, i1, i2, _, i3⟩
    · omega
    · rw [show (findF lib s 0).toNat = i by omega, List.getElem?_eq_getElem i1] at hg
      cases hg; exact i3
  have h2 := byN_get hn hm
  have h3 : (normF lib g).name = s := hs
  rw [h3] at h2
  exact ⟨_, h2, rfl, rfl⟩
theorem fnB_norm {lib : List Fn1} (h : (validR lib).2 = 0) {i : Nat} {f : Fn1} (hf : lib[i]? = some f) : fnB (byN (normL lib)) (normF lib f) = true := by
  obtain ⟨_, _, _, h4, h5, _, _, h8⟩ := one_facts (valid_facts h hf)
  obtain ⟨p1, p2, p3⟩ := pm_facts h4
  have hv := nE_vs lib f.body (envP f.params) []
  have hnm : Nmd (nE lib f.body (envP f.params) []).ts := hv.nm fun j p hj => by simp at hj
  have hnd : ((nE lib f.body (envP f.params) []).ts.map Pm.name).Nodup := by
    rw [List.Nodup, List.pairwise_iff_getElem]
    intro i j hi hj hij e
    simp only [List.length_map] at hi hj
    simp only [List.getElem_map] at e
    rw [hnm i _ (List.getElem?_eq_getElem hi), hnm j _ (List.getElem?_eq_getElem hj)] at e
    have := tmpN_inj e
    omega
  have hout : ∀ n, scP f.params (tmpN n) = none := fun n => scP_out fun hm => by
    obtain ⟨p, hp, e⟩ := List.mem_map.1 hm
    have := p2 p hp
    rw [e, tmpN_name] at this; cases this
  have he : EnvOk (envP f.params) (scP f.params) (envF f.params) := fun s t ht => by
    obtain ⟨e1, e2, e3⟩ := envs_P f.params s
    cases hp : envP f.params s with
    | none => rw [hp, ht] at e2; cases e2
    | some p =>
      rw [hp, ht] at e2
      have e4 : p.list = t := by simpa using e2
      exact ⟨p, rfl, e4, by rw [e3 p hp, ← e1]; exact ht⟩
  have ht : Tpd (scP (nE lib f.body (envP f.params) []).ts) 0 (nE lib f.body (envP f.params) []).ts := fun j p _ hj => by
    rw [← hnm j p hj]; exact scP_get hnd (List.mem_of_getElem? hj)
  obtain ⟨_, sc', bd', hb⟩ := nE_vb (lbOk_norm h) _ f.body (Nat.le_refl _) h5 _ _ h8 _ (scP f.params) (fun _ => 0) [] he (fun j _ => hout j) ht
  unfold fnB
  show (if 8 < f.params.length then false else if (nE lib f.body (envP f.params) []).ts.any (fun p => (scP f.params p.name).isSome) = true then false else if ¬ (f.params.map Pm.name).Nodup ∨ ¬ ((nE lib f.body (envP f.params) []).ts.map Pm.name).Nodup then false else match bodyB (byN (normL lib)) (scP (nE lib f.body (envP f.params) []).ts) (nE lib f.body (envP f.params) []).bs (scP f.params) (fun _ => 0) with
    | none => false
    | some r => if (nE lib f.body (envP f.params) []).ts.all (fun p => decide (r.2 p.name = 1)) = true then decide (r.1 (nE lib f.body (envP f.params) []).p.name = some f.list) else false) = true
  rw [if_neg (by omega), if_neg (fun e => by
    obtain ⟨p, hp, e2⟩ := List.any_eq_true.1 e
    obtain ⟨j, hj⟩ := List.getElem?_of_mem hp
    rw [hnm j p hj, hout j] at e2; cases e2), if_neg (by rintro (e | e); exact e p3; exact e hnd), hb.ok]
  dsimp only
  rw [if_pos (List.all_eq_true.2 fun p hp => by
    obtain ⟨j, hj⟩ := List.getElem?_of_mem hp
    have := hb.inc.1 j ⟨Nat.zero_le _, (List.getElem?_eq_some_iff.1 hj).1⟩
    exact decide_eq_true (by rw [hnm j p hj]; exact this))]
  exact decide_eq_true hb.rs
theorem libB_norm {lib : List Fn1} (h : (validR lib).2 = 0) : libB (normL lib) = true := by
  have hn : ((normL lib).map Af.name).Nodup := by rw [normL_names]; exact names_nodup h
  have h30 : (normL lib).length ≤ 30 := by
    unfold normL
    rw [List.length_map]
    rcases Nat.lt_or_ge 30 lib.length with e | e
    · have := (one_facts (valid_facts h (List.getElem?_eq_getElem (show 30 < lib.length from e)))).1
      omega
    · exact e
  unfold libB
  rw [if_neg (by omega), if_neg (fun e => e hn)]
  refine List.all_eq_true.2 fun g hg => ?_
  obtain ⟨f, hf, rfl⟩ := List.mem_map.1 hg
  obtain ⟨k, hk⟩ := List.getElem?_of_mem hf
  exact fnB_norm h hk

end Go.Proofs.YtcoeakdpcigogaaDoor
