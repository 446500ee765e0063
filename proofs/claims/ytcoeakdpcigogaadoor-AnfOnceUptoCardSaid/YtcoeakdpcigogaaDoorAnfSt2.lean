/-
  What normalized functions bind, and what they call (plain).
  The reference's Stores and inside.
  The reference's Stores.
-/
import Derived.Test.YtcoeakdpcigogaaDoorAnfVd3
import Derived.Test.YtcoeakdpcigogaaDoorFevType
import Derived.Test.YtcoeakdpcigogaaDoorAnfLib
import Derived.Test.YtcoeakdpcigogaaDoorAnfPl
import Derived.Test.YtcoeakdpcigogaaDoorAnfVl4
import Derived.Test.YtcoeakdpcigogaaDoorAnfEx9
namespace Go.Proofs.YtcoeakdpcigogaaDoor

mutual
/-- The temporaries inside of a bind. -/
def inB : Bd → List ByteArray
  | .mk _ _ _ _ _ _ t e => brS t ++ brS e
/-- .. of a branch: all but that of the last bind. -/
def brS : List Bd → List ByteArray
  | [] => []
  | b :: r => if r = [] then inB b else b.to :: (inB b ++ brS r)
end
def stB (b : Bd) : List ByteArray := b.to :: inB b
def stL (l : List Bd) : List ByteArray := l.flatMap stB
theorem inB_eq (b : Bd) : inB b = brS b.thn ++ brS b.els := by cases b; rw [inB]; rfl
theorem stL_append (a b : List Bd) : stL (a ++ b) = stL a ++ stL b := by unfold stL; rw [List.flatMap_append]
theorem stL_one (b : Bd) : stL [b] = stB b := by unfold stL; simp
theorem brS_snoc : ∀ (l : List Bd) (b : Bd), brS (l ++ [b]) = stL l ++ inB b
  | [], b => by rw [List.nil_append, brS, if_pos rfl]; rfl
  | x :: r, b => by
    rw [List.cons_append, brS, if_neg (by simp), brS_snoc r b]
    show _ = (stB x ++ stL r) ++ inB b
    unfold stB
    rw [List.append_assoc, List.cons_append]
theorem brS_take {l : List Bd} (h : 0 < l.length) : brS l = stL (l.take (l.length - 1)) ++ inB (l[l.length - 1]'(by omega)) := by
  have e : l = l.take (l.length - 1) ++ [l[l.length - 1]'(by omega)] := by
    rw [← List.take_succ_eq_append_getElem (by omega), Nat.sub_add_cancel h, List.take_length]
  exact (congrArg brS e).trans (brS_snoc _ _)
theorem stL_step {l : List Bd} {k : Nat} (h : k < l.length) : stL (l.take (k + 1)) = stL (l.take k) ++ (l[k].to :: inB l[k]) := by
  rw [List.take_succ_eq_append_getElem h, stL_append, stL_one]; rfl

/-! ### Each temporary once -/
def PG (l : List ByteArray) (a b : Nat) : Prop := l.Perm ((List.range' a (b - a)).map tmpN)
theorem PG.nil (a : Nat) : PG [] a a := by unfold PG; rw [Nat.sub_self]; exact List.Perm.refl _
theorem PG.one (a : Nat) : PG [tmpN a] a (a + 1) := by unfold PG; rw [show a + 1 - a = 1 by omega]; exact List.Perm.refl _
theorem PG.app {x y : List ByteArray} {a b c : Nat} (h1 : PG x a b) (h2 : PG y b c) (hab : a ≤ b) (hbc : b ≤ c) : PG (x ++ y) a c := by
  unfold PG at *
  have e : List.range' a (c - a) = List.range' a (b - a) ++ List.range' b (c - b) := by
    rw [show c - a = (b - a) + (c - b) by omega, ← List.range'_append, show a + 1 * (b - a) = b by omega]
  rw [e, List.map_append]
  exact h1.append h2
theorem PG.length {x : List ByteArray} {a b : Nat} (h : PG x a b) : x.length = b - a := by
  have := List.Perm.length_eq h
  rw [this, List.length_map, List.length_range']
theorem PG.nodup {x : List ByteArray} {a b : Nat} (h : PG x a b) : x.Nodup := by
  refine (List.Perm.nodup_iff h).2 ?_
  rw [List.Nodup, List.pairwise_map]
  exact (List.nodup_range' (step := 1) (by omega)).imp fun hne e => hne (tmpN_inj e)
theorem PG.put {bs : List Bd} {ts ts' : List Pm} (h : PG (stL bs) ts.length ts'.length) (hl : ts.length ≤ ts'.length) (l : Bool) (op : Nat) (num : Int) (nm : ByteArray) (args : List ByteArray) : PG (stL (Nr.put bs l ts' op num nm args).bs) ts.length (Nr.put bs l ts' op num nm args).ts.length := by
  have e1 : stL (Nr.put bs l ts' op num nm args).bs = stL bs ++ [tmpN ts'.length] := by
    show stL (bs ++ [_]) = _
    rw [stL_append, stL_one]
    unfold stB
    rw [inB_eq]
    show stL bs ++ (tmpN ts'.length :: (brS [] ++ brS [])) = _
    rw [brS]; rfl
  have e2 : (Nr.put bs l ts' op num nm args).ts.length = ts'.length + 1 := by simp [Nr.put]
  rw [e1, e2]
  exact h.app (PG.one _) hl (by omega)
mutual
theorem nE_pg (lib : List Fn1) : ∀ (x : Nd) (env : ByteArray → Option Pm) (ts : List Pm), PG (stL (nE lib x env ts).bs) ts.length (nE lib x env ts).ts.length
  | .mk k n s l, env, ts => by
    rw [nE]
    split
    · exact PG.nil _
    split
    · exact nLet_pg lib s l env ts
    split
    · exact nIf_pg lib l env ts
    have h := nArgs_pg lib (decide (k = 85)) l env ts
    have h2 := (nArgs_vs lib (decide (k = 85)) l env ts).ln
    dsimp only
    split
    · exact PG.put h h2 _ _ _ _ _
    · exact PG.put h h2 _ _ _ _ _
theorem nLet_pg (lib : List Fn1) (s : ByteArray) : ∀ (l : List Nd) (env : ByteArray → Option Pm) (ts : List Pm), PG (stL (nLet lib s l env ts).bs) ts.length (nLet lib s l env ts).ts.length
  | [], env, ts => by simp only [nLet]; exact PG.nil _
  | [_], env, ts => by simp only [nLet]; exact PG.nil _
  | [a, b], env, ts => by
    have h1 := nE_pg lib a env ts
    have h2 := nE_pg lib b (setP env s (some (nE lib a env ts).p)) (nE lib a env ts).ts
    have l1 := (nE_vs lib a env ts).ln
    have l2 := (nE_vs lib b (setP env s (some (nE lib a env ts).p)) (nE lib a env ts).ts).ln
    rw [nLet]
    dsimp only
    rw [stL_append]
    exact h1.app h2 l1 l2
  | _ :: _ :: _ :: _, env, ts => by simp only [nLet]; exact PG.nil _
theorem nIf_pg (lib : List Fn1) : ∀ (l : List Nd) (env : ByteArray → Option Pm) (ts : List Pm), PG (stL (nIf lib l env ts).bs) ts.length (nIf lib l env ts).ts.length
  | [], env, ts => by simp only [nIf]; exact PG.nil _
  | [_], env, ts => by simp only [nIf]; exact PG.nil _
  | [_, _], env, ts => by simp only [nIf]; exact PG.nil _
  | [c, a, b], env, ts => by
    have h0 := nE_pg lib c env ts
    have l0 := (nE_vs lib c env ts).ln
    rw [nIf]
    dsimp only
    generalize nE lib c env ts = r at *
    have h1 := nE_pg lib a env (r.ts ++ [⟨tmpN r.ts.length, false⟩])
    have l1 := (nE_vs lib a env (r.ts ++ [⟨tmpN r.ts.length, false⟩])).ln
    rw [List.length_append, List.length_singleton] at h1 l1
    generalize nE lib a env (r.ts ++ [⟨tmpN r.ts.length, false⟩]) = x at *
    have h2 := nE_pg lib b env (setL x.ts r.ts.length x.p.list)
    have l2 := (nE_vs lib b env (setL x.ts r.ts.length x.p.list)).ln
    have gL : (setL x.ts r.ts.length x.p.list).length = x.ts.length := by unfold setL; simp
    rw [gL] at h2 l2
    generalize nE lib b env (setL x.ts r.ts.length x.p.list) = y at *
    have gM : (setL y.ts r.ts.length y.p.list).length = y.ts.length := by unfold setL; simp
    rw [stL_append, stL_one, gM]
    unfold stB
    rw [inB_eq]
    show PG (stL r.bs ++ (tmpN r.ts.length :: (brS (x.bs ++ [_]) ++ brS (y.bs ++ [_])))) _ _
    rw [brS_snoc, brS_snoc, inB_eq, inB_eq]
    show PG (stL r.bs ++ (tmpN r.ts.length :: ((stL x.bs ++ (brS [] ++ brS [])) ++ (stL y.bs ++ (brS [] ++ brS []))))) _ _
    rw [brS, List.append_nil, List.append_nil, List.append_nil]
    exact h0.app ((PG.one _).app (h1.app h2 l1 l2) (by omega) (by omega)) l0 (by omega)
  | _ :: _ :: _ :: _ :: _, env, ts => by simp only [nIf]; exact PG.nil _
theorem nArgs_pg (lib : List Fn1) (call : Bool) : ∀ (l : List Nd) (env : ByteArray → Option Pm) (ts : List Pm), PG (stL (nArgs lib call l env ts).bs) ts.length (nArgs lib call l env ts).ts.length
  | [], env, ts => by rw [nArgs]; exact PG.nil _
  | y :: r, env, ts => by
    have h1 := nE_pg lib y env ts
    have l1 := (nE_vs lib y env ts).ln
    have h1' : PG (stL (Nr.arg call y (nE lib y env ts)).bs) ts.length (Nr.arg call y (nE lib y env ts)).ts.length ∧ ts.length ≤ (Nr.arg call y (nE lib y env ts)).ts.length := by
      unfold Nr.arg
      split
      · exact ⟨PG.put h1 l1 _ _ _ _ _, by simp [Nr.put]; omega⟩
      · exact ⟨h1, l1⟩
    have h2 := nArgs_pg lib call r env (Nr.arg call y (nE lib y env ts)).ts
    have l2 := (nArgs_vs lib call r env (Nr.arg call y (nE lib y env ts)).ts).ln
    rw [nArgs]
    dsimp only
    rw [stL_append]
    exact h1'.1.app h2 h1'.2 l2
end

/-! ### As many calls -/
mutual
def cnB (lib : List Fn1) (k : Nat) : Bd → Nat
  | .mk _ _ op _ name _ t e => (if op = 85 ∧ findF lib name 0 = k then 1 else 0) + cnL lib k t + cnL lib k e
def cnL (lib : List Fn1) (k : Nat) : List Bd → Nat
  | [] => 0
  | b :: r => cnB lib k b + cnL lib k r
end
theorem cnB_eq (lib : List Fn1) (k : Nat) (b : Bd) : cnB lib k b = (if b.op = 85 ∧ findF lib b.name 0 = k then 1 else 0) + cnL lib k b.thn + cnL lib k b.els := by cases b; rw [cnB]; rfl
theorem cnL_append (lib : List Fn1) (k : Nat) : ∀ a b : List Bd, cnL lib k (a ++ b) = cnL lib k a + cnL lib k b
  | [], b => by rw [List.nil_append, cnL]; omega
  | x :: r, b => by rw [List.cons_append, cnL, cnL, cnL_append lib k r b]; omega
theorem cnL_one (lib : List Fn1) (k : Nat) (b : Bd) : cnL lib k [b] = cnB lib k b := by rw [cnL, cnL]; omega
theorem cnL_step {lib : List Fn1} {k : Nat} {l : List Bd} {i : Nat} (h : i < l.length) : cnL lib k (l.take (i + 1)) = cnL lib k (l.take i) + cnB lib k l[i] := by
  rw [List.take_succ_eq_append_getElem h, cnL_append, cnL_one]
theorem cn_flat (lib : List Fn1) (k : Nat) (d : ByteArray) (l : Bool) (op : Nat) (num : Int) (nm : ByteArray) (args : List ByteArray) : cnB lib k (.mk d l op num nm args [] []) = if op = 85 ∧ findF lib nm 0 = k then 1 else 0 := by
  rw [cnB_eq]
  show (if op = 85 ∧ findF lib nm 0 = k then 1 else 0) + cnL lib k [] + cnL lib k [] = _
  rw [cnL]
  split <;> rfl
theorem cn_if (lib : List Fn1) (k : Nat) (d : ByteArray) (l : Bool) (num : Int) (nm : ByteArray) (args : List ByteArray) (t e : List Bd) : cnB lib k (.mk d l 83 num nm args t e) = cnL lib k t + cnL lib k e := by
  rw [cnB, if_neg (fun h => by have := h.1; omega), Nat.zero_add]
theorem cn_put (lib : List Fn1) (k : Nat) (bs : List Bd) (l : Bool) (ts' : List Pm) (op : Nat) (num : Int) (nm : ByteArray) (args : List ByteArray) : cnL lib k (Nr.put bs l ts' op num nm args).bs = cnL lib k bs + if op = 85 ∧ findF lib nm 0 = k then 1 else 0 := by
  show cnL lib k (bs ++ [_]) = _
  rw [cnL_append, cnL_one, cn_flat]
mutual
theorem nE_cn (lib : List Fn1) (k : Nat) : ∀ (x : Nd), formT x = true → ∀ (env : ByteArray → Option Pm) (ts : List Pm), cnL lib k (nE lib x env ts).bs = (callsT lib x).count (k : Int)
  | .mk kd n s l, hf, env, ts => by
    rw [formT_eq] at hf
    obtain ⟨hb, hkids⟩ := Bool.and_eq_true_iff.1 hf
    obtain ⟨l82, l83, l84, hk⟩ := form_len hb
    have l83 : kd = 83 → l.length = 3 := l83
    have l84 : kd = 84 → l.length = 2 := l84
    have hkids : formTL l = true := hkids
    have hb : formB kd n s l.length = true := hb
    rw [nE, callsT]
    by_cases h81 : kd = 81
    · rw [if_pos h81, if_neg (by omega)]
      have h0 : l = [] := by
        unfold formB at hb
        rw [h81] at hb
        simp at hb
        exact hb.2
      rw [h0, callsTL]
      show cnL lib k [] = _
      rw [cnL]; rfl
    rw [if_neg h81]
    by_cases h84 : kd = 84
    · rw [if_pos h84, if_neg (by omega), List.nil_append]
      exact nLet_cn lib k s l (l84 h84) hkids env ts
    rw [if_neg h84]
    by_cases h83 : kd = 83
    · rw [if_pos h83, if_neg (by omega), List.nil_append]
      exact nIf_cn lib k l (l83 h83) hkids env ts
    rw [if_neg h83]
    have h := nArgs_cn lib k (decide (kd = 85)) l hkids env ts
    dsimp only
    by_cases h85 : kd = 85
    · rw [if_pos h85, cn_put, h, List.count_append]
      by_cases hk : findF lib s 0 = k
      · rw [if_pos ⟨rfl, hk⟩, if_pos ⟨h85, by omega⟩, hk, List.count_cons_self, List.count_nil]; omega
      · rw [if_neg (fun e => hk e.2)]
        by_cases h0 : 0 ≤ findF lib s 0
        · rw [if_pos ⟨h85, h0⟩, List.count_cons_of_ne hk, List.count_nil]; omega
        · rw [if_neg (fun e => h0 e.2), List.count_nil]; omega
    · rw [if_neg h85, cn_put, h, if_neg (fun e => h85 e.1), if_neg (fun e => h85 e.1)]; rfl
theorem nLet_cn (lib : List Fn1) (k : Nat) (s : ByteArray) : ∀ (l : List Nd), l.length = 2 → formTL l = true → ∀ (env : ByteArray → Option Pm) (ts : List Pm), cnL lib k (nLet lib s l env ts).bs = (callsTL lib l).count (k : Int)
  | [], h, _, env, ts => by simp at h
  | [_], h, _, env, ts => by simp at h
  | [a, b], _, hf, env, ts => by
    have ha := formT_kid hf a (by simp)
    have hb := formT_kid hf b (by simp)
    rw [nLet, callsTL, callsTL, callsTL]
    dsimp only
    rw [cnL_append, nE_cn lib k a ha, nE_cn lib k b hb, List.append_nil, List.count_append]
  | _ :: _ :: _ :: _, h, _, env, ts => by simp at h
theorem nIf_cn (lib : List Fn1) (k : Nat) : ∀ (l : List Nd), l.length = 3 → formTL l = true → ∀ (env : ByteArray → Option Pm) (ts : List Pm), cnL lib k (nIf lib l env ts).bs = (callsTL lib l).count (k : Int)
  | [], h, _, env, ts => by simp at h
  | [_], h, _, env, ts => by simp at h
  | [_, _], h, _, env, ts => by simp at h
  | [c, a, b], _, hf, env, ts => by
    have hc := formT_kid hf c (by simp)
    have ha := formT_kid hf a (by simp)
    have hb := formT_kid hf b (by simp)
    rw [nIf, callsTL, callsTL, callsTL, callsTL]
    dsimp only
    rw [cnL_append, cnL_one, cn_if]
    simp only [cnL_append, cnL_one, cn_flat, List.count_append, List.append_nil]
    rw [nE_cn lib k c hc, nE_cn lib k a ha, nE_cn lib k b hb]
    try rw [if_neg (by omega)]
    omega
  | _ :: _ :: _ :: _ :: _, h, _, env, ts => by simp at h
theorem nArgs_cn (lib : List Fn1) (k : Nat) (call : Bool) : ∀ (l : List Nd), formTL l = true → ∀ (env : ByteArray → Option Pm) (ts : List Pm), cnL lib k (nArgs lib call l env ts).bs = (callsTL lib l).count (k : Int)
  | [], _, env, ts => by rw [nArgs, callsTL]; show cnL lib k [] = _; rw [cnL]; rfl
  | y :: r, hf, env, ts => by
    have hy := formT_kid hf y (by simp)
    have hr : formTL r = true := by rw [formTL, Bool.and_eq_true_iff] at hf; exact hf.2
    have h1 : cnL lib k (Nr.arg call y (nE lib y env ts)).bs = (callsT lib y).count (k : Int) := by
      unfold Nr.arg
      split
      · rw [cn_put, if_neg (by omega), nE_cn lib k y hy]; rfl
      · exact nE_cn lib k y hy env ts
    rw [nArgs, callsTL]
    dsimp only
    rw [cnL_append, h1, nArgs_cn lib k call r hr, List.count_append]
end

/-! ### A call's arguments are different temporaries -/
inductive OkC (lib : List Fn1) : Bd → Prop
  | mk {t : Bd} (h : t.op = 85 → 0 ≤ findF lib t.name 0 ∧ t.args.Nodup) (ht : ∀ y ∈ t.thn, OkC lib y) (he : ∀ y ∈ t.els, OkC lib y) : OkC lib t
theorem OkC.facts {lib : List Fn1} {t : Bd} (h : OkC lib t) : (t.op = 85 → 0 ≤ findF lib t.name 0 ∧ t.args.Nodup) ∧ (∀ y ∈ t.thn, OkC lib y) ∧ ∀ y ∈ t.els, OkC lib y := by
  cases h with
  | mk h ht he => exact ⟨h, ht, he⟩
theorem OkC.flat {lib : List Fn1} {d : ByteArray} {l : Bool} {op : Nat} {num : Int} {nm : ByteArray} {args : List ByteArray} (h : op = 85 → 0 ≤ findF lib nm 0 ∧ args.Nodup) : OkC lib (.mk d l op num nm args [] []) :=
  .mk h (fun y hy => by cases hy) (fun y hy => by cases hy)
theorem okc_snoc {lib : List Fn1} {bs : List Bd} {b : Bd} (h : ∀ y ∈ bs, OkC lib y) (hb : OkC lib b) : ∀ y ∈ bs ++ [b], OkC lib y := fun y hy => by
  rcases List.mem_append.1 hy with e | e
  · exact h y e
  · rw [List.mem_singleton.1 e]; exact hb
theorem arg_okc {lib : List Fn1} {call : Bool} {y : Nd} {r : Nr} (h : ∀ b ∈ r.bs, OkC lib b) : ∀ b ∈ (Nr.arg call y r).bs, OkC lib b := by
  unfold Nr.arg
  split
  · exact okc_snoc h (OkC.flat fun e => by omega)
  · exact h
/-- The arguments of a call. -/
theorem nArgs_js (lib : List Fn1) : ∀ (l : List Nd), formTL l = true → ∀ (env : ByteArray → Option Pm) (ts : List Pm), ∃ js : List Nat, (nArgs lib true l env ts).args = js.map tmpN ∧ js.Nodup ∧ ∀ j ∈ js, ts.length ≤ j ∧ j < (nArgs lib true l env ts).ts.length
  | [], _, env, ts => by rw [nArgs]; exact ⟨[], rfl, by simp, by simp⟩
  | y :: r, hf, env, ts => by
    have hy := formT_kid hf y (by simp)
    have hr : formTL r = true := by rw [formTL, Bool.and_eq_true_iff] at hf; exact hf.2
    have l0 := (nE_vs lib y env ts).ln
    have h1 : ∃ j, ts.length ≤ j ∧ j < (Nr.arg true y (nE lib y env ts)).ts.length ∧ (Nr.arg true y (nE lib y env ts)).p.name = tmpN j := by
      unfold Nr.arg
      by_cases hc : true = true ∧ namesT y = true
      · rw [if_pos hc]
        exact ⟨(nE lib y env ts).ts.length, l0, by simp [Nr.put], rfl⟩
      · rw [if_neg hc]
        exact names_own lib _ y (Nat.le_refl _) hy (by cases e : namesT y with | false => rfl | true => exact absurd ⟨rfl, e⟩ hc) env ts
    rw [nArgs]
    generalize Nr.arg true y (nE lib y env ts) = x at *
    obtain ⟨js, e, hn, hj⟩ := nArgs_js lib r hr env x.ts
    have l2 := (nArgs_vs lib true r env x.ts).ln
    generalize nArgs lib true r env x.ts = z at *
    obtain ⟨j, j1, j2, j3⟩ := h1
    refine ⟨j :: js, ?_, ?_, fun k hk => ?_⟩
    · show x.p.name :: z.args = _
      rw [e, j3]; rfl
    · rw [List.nodup_cons]
      exact ⟨fun hm => by have := (hj j hm).1; omega, hn⟩
    · show ts.length ≤ k ∧ k < z.ts.length
      rcases List.mem_cons.1 hk with e | e
      · subst e; omega
      · have := hj k e; omega
mutual
theorem nE_okc (lib : List Fn1) : ∀ (x : Nd), formT x = true → arT lib x = true → ∀ (env : ByteArray → Option Pm) (ts : List Pm), ∀ b ∈ (nE lib x env ts).bs, OkC lib b
  | .mk kd n s l, hf, ha, env, ts => by
    rw [formT_eq] at hf
    obtain ⟨hb, hkids⟩ := Bool.and_eq_true_iff.1 hf
    have hkids : formTL l = true := hkids
    rw [arT, Bool.and_eq_true] at ha
    obtain ⟨ha1, ha2⟩ := ha
    rw [nE]
    split
    · intro b hb; cases hb
    split
    · exact nLet_okc lib s l hkids ha2 env ts
    split
    · exact nIf_okc lib l hkids ha2 env ts
    have h := nArgs_okc lib (decide (kd = 85)) l hkids ha2 env ts
    dsimp only
    split
    · rename_i h85
      rw [if_pos h85] at ha1
      simp only [Bool.and_eq_true, decide_eq_true_eq] at ha1
      refine okc_snoc h (OkC.flat fun _ => ⟨ha1.1, ?_⟩)
      rw [decide_eq_true h85]
      obtain ⟨js, e, hn, _⟩ := nArgs_js lib l hkids env ts
      rw [e, List.Nodup, List.pairwise_map]
      exact hn.imp fun hne e => hne (tmpN_inj e)
    · rename_i h85
      exact okc_snoc h (OkC.flat fun e => absurd e h85)
theorem nLet_okc (lib : List Fn1) (s : ByteArray) : ∀ (l : List Nd), formTL l = true → arTL lib l = true → ∀ (env : ByteArray → Option Pm) (ts : List Pm), ∀ b ∈ (nLet lib s l env ts).bs, OkC lib b
  | [], _, _, env, ts => by simp only [nLet]; intro b hb; cases hb
  | [_], _, _, env, ts => by simp only [nLet]; intro b hb; cases hb
  | [a, b], hf, ha, env, ts => by
    have h1 := nE_okc lib a (formT_kid hf a (by simp)) (arTL_kid ha (k := 0) rfl) env ts
    have h2 := nE_okc lib b (formT_kid hf b (by simp)) (arTL_kid ha (k := 1) rfl) (setP env s (some (nE lib a env ts).p)) (nE lib a env ts).ts
    rw [nLet]
    intro c hc
    rcases List.mem_append.1 hc with e | e
    · exact h1 c e
    · exact h2 c e
  | _ :: _ :: _ :: _, _, _, env, ts => by simp only [nLet]; intro b hb; cases hb
theorem nIf_okc (lib : List Fn1) : ∀ (l : List Nd), formTL l = true → arTL lib l = true → ∀ (env : ByteArray → Option Pm) (ts : List Pm), ∀ b ∈ (nIf lib l env ts).bs, OkC lib b
  | [], _, _, env, ts => by simp only [nIf]; intro b hb; cases hb
  | [_], _, _, env, ts => by simp only [nIf]; intro b hb; cases hb
  | [_, _], _, _, env, ts => by simp only [nIf]; intro b hb; cases hb
  | [c, a, b], hf, ha, env, ts => by
    have h0 := nE_okc lib c (formT_kid hf c (by simp)) (arTL_kid ha (k := 0) rfl) env ts
    have h1 := nE_okc lib a (formT_kid hf a (by simp)) (arTL_kid ha (k := 1) rfl) env
    have h2 := nE_okc lib b (formT_kid hf b (by simp)) (arTL_kid ha (k := 2) rfl) env
    rw [nIf]
    exact okc_snoc h0 (.mk (fun e => by have e' : 83 = 85 := e; omega) (okc_snoc (h1 _) (OkC.flat fun e => by omega)) (okc_snoc (h2 _) (OkC.flat fun e => by omega)))
  | _ :: _ :: _ :: _ :: _, _, _, env, ts => by simp only [nIf]; intro b hb; cases hb
theorem nArgs_okc (lib : List Fn1) (call : Bool) : ∀ (l : List Nd), formTL l = true → arTL lib l = true → ∀ (env : ByteArray → Option Pm) (ts : List Pm), ∀ b ∈ (nArgs lib call l env ts).bs, OkC lib b
  | [], _, _, env, ts => by rw [nArgs]; intro b hb; cases hb
  | y :: r, hf, ha, env, ts => by
    have hr : formTL r = true := by rw [formTL, Bool.and_eq_true_iff] at hf; exact hf.2
    have har : arTL lib r = true := by
      rw [arTL] at ha
      simp only [Bool.and_eq_true] at ha
      exact ha.2
    have h1 := arg_okc (call := call) (y := y) (nE_okc lib y (formT_kid hf y (by simp)) (arTL_kid ha (k := 0) rfl) env ts)
    have h2 := nArgs_okc lib call r hr har env (Nr.arg call y (nE lib y env ts)).ts
    rw [nArgs]
    intro c hc
    rcases List.mem_append.1 hc with e | e
    · exact h1 c e
    · exact h2 c e
end

end Go.Proofs.YtcoeakdpcigogaaDoor

namespace Go.Proofs.YtcoeakdpcigogaaDoor
open Go.ChangeShapes Go.WideShapes Go.ChangeAt Go.RowKit Go.Sort Go.Maps

mutual
theorem inB_len : ∀ b : Bd, (inB b).length + 1 ≤ bszT b
  | .mk _ _ _ _ _ _ t e => by
    rw [inB, bszT, List.length_append]
    have := brS_len t
    have := brS_len e
    omega
theorem brS_len : ∀ l : List Bd, (brS l).length ≤ bszL l
  | [] => by rw [brS]; simp
  | b :: r => by
    rw [brS, bszL]
    have := inB_len b
    have := brS_len r
    split
    · omega
    · rw [List.length_cons, List.length_append]; omega
end
theorem stL_len : ∀ l : List Bd, (stL l).length ≤ bszL l
  | [] => by unfold stL; simp
  | b :: r => by
    have h1 := inB_len b
    have h2 := stL_len r
    show (stB b ++ stL r).length ≤ _
    rw [bszL, List.length_append]
    unfold stB
    rw [List.length_cons]
    omega
theorem bszL_one (b : Bd) : bszL [b] = bszT b := by rw [bszL, bszL]; rfl
theorem BcsX.take {w : World} {X : Nat → Prop} {A : Option Addr} {l : List Bd} (h : BcsX w X A l) (n : Nat) : BcsX w X A (l.take n) := fun k t hk => by
  rw [List.getElem?_take] at hk
  split at hk
  · exact h k t hk
  · cases hk
theorem BcsX.below {w w' : World} {A : Option Addr} {l : List Bd} (h : BcsX w (fun _ => False) A l) (hb : Below w.heap.size w w') : BcsX w' (fun _ => False) A l := h.le (Le.of_fr (Fr.of_below hb fun _ => False) (fun _ _ e => e) fun _ _ e => e)
def RetSt (l : List ByteArray) (w : World) (e : Ending) (w' : World) : Prop := Below w.heap.size w w' ∧ ∃ A c, e = .returned (.slice A l.length c) ∧ l.length ≤ c ∧ CellsAt w' A (l.map Value.string)
/-- The names so far. -/
def StR (w wr : World) (v : Value) (acc : List ByteArray) : Prop := Below w.heap.size w wr ∧ wr.ownsRow w.heap.size 9 1 v acc.length (acc.map Value.string)
theorem StR.start (w : World) : StR w w (.slice none 0 0) [] := ⟨Below.refl _ _, ⟨rfl, .inl ⟨rfl, rfl⟩⟩⟩
theorem StR.push {w wr w5 w9 : World} {v v' : Value} {acc new : List ByteArray} (h : StR w wr v acc) (hb5 : Below wr.heap.size wr w5) (hown' : w9.ownsRow w.heap.size 9 1 v' (acc.length + new.length) (acc.map Value.string ++ new.map Value.string)) (hg : w5.grownBy w9 v.ownBlock) : StR w w9 v' (acc ++ new) := by
  obtain ⟨hb, ho⟩ := h
  have hge := fun g e => (own_ty ho g e).1
  have f9 : Fr wr w9 (fun k => some k = v.ownBlock) := (Fr.of_below hb5 _).trans (Fr.of_grown hg) fun _ _ e => e
  exact ⟨f9.toBelow hb hb.size fun k e => hge k e.symm, by rw [List.length_append, List.map_append]; exact hown'⟩
theorem StR.done {w wr : World} {v : Value} {acc : List ByteArray} (h : StR w wr v acc) : ∃ A c, v = .slice A acc.length c ∧ acc.length ≤ c ∧ CellsAt wr A (acc.map Value.string) := by
  obtain ⟨_, ho⟩ := h
  obtain ⟨A, c, rfl, hc, _⟩ := own_formB ho
  refine ⟨A, c, rfl, hc, fun j u hu => ?_⟩
  rcases id ho.2 with ⟨e, h0⟩ | ⟨g, cap, cur, e, hg, hh, hc1, hc2, hc3, hc4⟩
  · have : acc = [] := List.length_eq_zero_iff.1 h0
    subst this; simp at hu
  · cases e
    have := ho.cells (g := g) rfl j u hu
    rw [add0] at this
    exact ⟨g, 0, rfl, by rw [Nat.zero_add]; exact this⟩
theorem info_str2 : (Tryd.prog.info? 9).map (fun i => (i.zero, i.size, i.bytes)) = some (some (.string ⟨#[]⟩), 1, 16) := by kernel_rfl
theorem strs_one (l : List ByteArray) : ∀ u ∈ l.map Value.string, u.oneCell' = true := by
  intro u hu
  obtain ⟨x, _, rfl⟩ := List.mem_map.1 hu
  rfl
theorem bcsX_lit {w : World} {cs : List Value} {b : Bd} (T : TypeId) (h : BcC w (fun _ => False) cs b) : BcsX (w.alloc (Obj.cells cs.toArray T)) (fun _ => False) (some ⟨w.heap.size, 0, none⟩) [b] := fun k t hk => by
  match k, hk with
  | 0, hk =>
    cases hk
    refine ⟨_, 0, rfl, ?_⟩
    have hl := BcC.len _ _ h
    refine bcO_of_cells (BcC.le (Le.of_fr (Fr.of_below (below_box w _) fun _ => False) (fun _ _ e => e) fun _ _ e => e) _ _ h) id fun j hj => ?_
    have hlt : j < cs.length := by omega
    rw [List.getElem?_eq_getElem hlt, Nat.zero_mul, Nat.zero_add]
    exact (bx_new w cs.toArray T).cell (by rw [List.getElem?_toArray, List.getElem?_eq_getElem hlt])
  | k + 1, hk => simp at hk

set_option maxRecDepth 100000 in
set_option maxHeartbeats 4000000 in
theorem inside_of {b : Bd} (hS : ∀ (A : Option Addr) (c : Nat) (w : World), BcsX w (fun _ => False) A [b] → Calls Tryd.prog 22 #[.slice A 1 c] w (RetSt (stB b) w)) (hz : bszT b ≤ 2000000) {cs : List Value} {w : World} (hc : BcC w (fun _ => False) cs b) :
    Calls Tryd.prog 37 #[.agg cs.toArray] w (RetSt (inB b) w) := by
  have hlen := inB_len b
  have HBX := Lib.hid (below_box w (Obj.cells cs.toArray 92))
  have HX := Lib.hid (bx_new w cs.toArray 92)
  have HC1 := Lib.hid (BcC.le (Le.of_fr (X' := fun _ => False) (Fr.of_below HBX.out fun _ => False) (fun _ _ e => e) fun _ _ e => e) _ _ hc)
  have HS := Lib.hid hS
  have HST := Lib.hid (show stB b = b.to :: inB b from rfl)
  obtain ⟨Aa, ca, At, ct, Ae, ce, rfl, _⟩ := hc
  clear hS
  go_enter Tryd.func37, Tryd.ntmps37
  go_upto_region 1 with fail
  generalize w.alloc _ = W at HBX HX HC1 ⊢
  obtain ⟨⟨y0, y1, y2, y3, y4, y5, y6, y7⟩, _⟩ := HX.out.eight
  have hly := HX.out.lt
  have HB2 := Lib.hid (below_step HBX.out HBX.out.size (below_box W (Obj.cells #[.string b.to, .bool b.list, .int .u8 b.op, .int .i64 b.num, .string b.name, .slice Aa b.args.length ca, .slice At b.thn.length ct, .slice Ae b.els.length ce] 92)))
  have HC := Lib.hid (HS.out _ 1 _ (bcsX_lit 92 HC1.out))
  clear HS
  go_wp2_with fail
  refine HC.out.mono ?_
  clear HC y0 y1 y2 y3 y4 y5 y6 y7 hly
  rintro e w5 ⟨hb5, A5, c5, rfl, hc5, hcl⟩
  have HB5 := Lib.hid (below_step HB2.out HB2.out.size hb5)
  have HCL := Lib.hid (show ∀ j u, ((inB b).map Value.string)[j]? = some u → ∃ b' o, A5 = some ⟨b', o, none⟩ ∧ w5.cell? ⟨b', o + 1 + j, none⟩ = some u from fun j u hu => by
    obtain ⟨b', o, e, h⟩ := hcl (j + 1) u (by rw [HST.out, List.map_cons, List.getElem?_cons_succ]; exact hu)
    exact ⟨b', o, e, by rw [show o + 1 + j = o + (j + 1) by omega]; exact h⟩)
  rw [show (stB b).length = (inB b).length + 1 from rfl] at hc5 ⊢
  obtain ⟨b0, o0, rfl, hb0⟩ := hcl 0 (.string b.to) (by rw [HST.out]; rfl)
  clear hcl hb5 hb0
  generalize inB b = l at *
  have r1 : (1 : Int) ≤ (l.length : Int) + 1 := by omega
  by_cases hc1 : c5 = 1
  · have hl0 : l = [] := List.length_eq_zero_iff.1 (by omega)
    have HE := Lib.hid (show RetSt [] w (.returned (.slice (some ⟨b0, o0, none⟩) 0 0)) w5 from ⟨HB5.out, _, 0, rfl, by simp, fun j u hu => by simp at hu⟩)
    subst hl0
    subst hc1
    go_wp2_with fail
    go_ret
    exact HE.out
  · have HE := Lib.hid (show RetSt l w (.returned (.slice (some ⟨b0, o0 + 1, none⟩) l.length (c5 - 1))) w5 from ⟨HB5.out, _, _, rfl, by omega, fun j u hu => by
      obtain ⟨b', o', e, h⟩ := HCL.out j u hu
      cases e
      exact ⟨_, _, rfl, h⟩⟩)
    have r2 : ((l.length : Int) + 1) ≤ c5 := by omega
    have r3 : (1 : Int) ≤ c5 := by omega
    go_wp2_with fail
    go_ret
    exact HE.out

end Go.Proofs.YtcoeakdpcigogaaDoor

namespace Go.Proofs.YtcoeakdpcigogaaDoor
open Go.ChangeShapes Go.WideShapes Go.ChangeAt Go.RowKit Go.Sort Go.Maps

theorem brS_at {l : List Bd} {m : Nat} (h : l.length = m + 1) : brS l = stL (l.take m) ++ inB (l[m]'(by omega)) := by
  have e : l = l.take m ++ [l[m]'(by omega)] := by
    rw [← List.take_succ_eq_append_getElem (by omega), ← h, List.take_length]
  exact (congrArg brS e).trans (brS_snoc _ _)
theorem brS_nil {l : List Bd} (h : ¬ 0 < l.length) : brS l = [] := by
  have : l = [] := List.length_eq_zero_iff.1 (by omega)
  subst this
  rw [brS]
set_option maxRecDepth 100000 in
set_option maxHeartbeats 8000000 in
theorem stores_any : ∀ (N : Nat) (l : List Bd), bszL l < N → N ≤ 2000000 → ∀ (A : Option Addr) (n c : Nat) (w : World), n = l.length → BcsX w (fun _ => False) A l →
    Calls Tryd.prog 22 #[.slice A n c] w (RetSt (stL l) w) := by
  intro N
  induction N with
  | zero =>
    intro l hl; omega
  | succ N ih =>
    intro l hl hN A n c w hn hA
    subst hn
    have HA := Lib.hid hA
    have HIS := Lib.hid ih
    have HII := Lib.hid (fun (b : Bd) (hb : bszT b < N) (cs : List Value) (w' : World) (hc : BcC w' (fun _ => False) cs b) => inside_of (b := b) (fun A c w'' h => by have := ih [b] (by rw [bszL_one]; exact hb) (by omega) A 1 c w'' rfl h; rw [stL_one] at this; exact this) (by omega) hc)
    have hll := bszL_len l
    have hsl := stL_len l
    obtain ⟨i0, hi0, hz0, hz1, hz2⟩ := info_parts info_str2
    have HI := Lib.hid (And.intro hi0 (And.intro hz0 (And.intro hz1 hz2)))
    clear ih hA hi0 hz0 hz1 hz2
    go_enter Tryd.func22, Tryd.ntmps22
    go_wp2_with fail
    go_loopw [3, 4] (fun v i wr => ∃ k : Nat, k ≤ l.length ∧ i = .int .i64 k ∧ Hid (StR w wr v (stL (l.take k)))) (fun _ i _ => l.length - (intOf i).toNat)
    case atStart => exact ⟨0, by omega, rfl, Lib.hid (StR.start w)⟩
    case round =>
      obtain ⟨k, hk, rfl, hrow⟩ := hrel
      by_cases hin : k < l.length
      · have HTK := Lib.hid (bszL_step hin)
        have HSTP := Lib.hid (stL_step hin)
        have hbt := bszL_take l (k + 1)
        rw [HTK.out] at hbt
        have hac := stL_len (l.take k)
        obtain ⟨Av, cv, rfl, hcv, hqq⟩ := own_formB hrow.out.2
        clear hqq
        have HR := Lib.hid hrow.out
        obtain ⟨b, o, rfl, hbo⟩ := HA.out k _ (List.getElem?_eq_getElem hin)
        generalize l[k] = t at *
        obtain ⟨cs0, ⟨Aa, ca, At, ct, Ae, ce, rfl, hS, hT, hE, hct, hce⟩, _, hcell⟩ := hbo.open_
        have HCE := Lib.hid hcell
        have c0 := below_cell hrow.out.1 (hcell 0 _ rfl)
        have c6 := below_cell hrow.out.1 (hcell 6 _ rfl)
        have c7 := below_cell hrow.out.1 (hcell 7 _ rfl)
        rw [Nat.add_zero] at c0
        have hlb := block_lt_of_cell c0
        have hlb' := block_lt_of_cell (hcell 0 _ rfl)
        have hz := bszT_eq t
        have q1 := brS_len t.thn
        have q2 := brS_len t.els
        have HTE := Lib.hid (And.intro hT hE)
        have HIN := Lib.hid (inB_eq t)
        have rk1 : (0 : Int) ≤ k := by omega
        generalize stL (l.take k) = acc at *
        have HCW := Lib.hid hcell
        clear hrow hbo hcell hS hT hE
        go_upto_if 25 with (at_builtin; go_loud (refine wpList_app _ rfl _ _ 58 rfl w.heap.size 9 i0 (.string ⟨#[]⟩) 1 16 Tryd.underlying58 HI.out.1 HI.out.2.1 HI.out.2.2.1 HI.out.2.2.2 rfl (by decide) (.slice Av acc.length cv) acc.length (acc.map Value.string) rfl (own_below HR.out.2 (below_box wr _)) (some ⟨wr.heap.size, 0, none⟩) 1 1 [.string t.to] rfl rfl (cells_newC wr rfl _ _) (fun u hu => by simp at hu; subst hu; rfl) (by unfold maxLen; omega) (by omega) (by have := HR.out.1.size; simp; omega) ?_; intro v1 w1 hown1 hgrow1 hat1; have HR1 := Lib.hid (StR.push (new := [t.to]) HR.out (below_box wr _) hown1 hgrow1); obtain ⟨A1, c1, rfl, hc1, hqq⟩ := own_formB hown1; clear hqq hown1 hgrow1 hat1; have d6 := below_cell HR1.out.1 (HCE.out 6 _ rfl); have hl1 := block_lt_of_cell d6))
        obtain ⟨ac1, hac1⟩ : ∃ a, a = (acc ++ [t.to]) ++ brS t.thn := ⟨_, rfl⟩
        have hal1 : ac1.length = acc.length + 1 + (brS t.thn).length := by rw [hac1, List.length_append, List.length_append]; rfl
        have HA1 := Lib.hid (And.intro hac1 hal1)
        have hb1 : ac1.length ≤ 4000000 := by omega
        clear hac1 hal1
        go_cut [3] (fun v wc => ∃ A2 c2, v = .slice A2 ac1.length c2 ∧ Hid (StR w wc v ac1))
        case first =>
          by_cases h0 : 0 < t.thn.length
          · have HRx := HR1
            obtain ⟨wx, rfl⟩ : ∃ y, y = w1 := ⟨_, rfl⟩
            have hlen1 : (acc ++ [t.to]).length = acc.length + 1 := by rw [List.length_append]; rfl
            have hbac : (acc ++ [t.to]).length ≤ 4000000 := by omega
            rw [← hlen1] at HRx ⊢
            generalize acc ++ [t.to] = ac at *
            obtain ⟨Ax, rfl⟩ : ∃ y, y = A1 := ⟨_, rfl⟩
            obtain ⟨cx, rfl⟩ : ∃ y, y = c1 := ⟨_, rfl⟩
            clear HR1 d6 hlen1
            have d6 := HCW.out 6 _ rfl
            obtain ⟨m, hm⟩ : ∃ m, t.thn.length = m + 1 := ⟨t.thn.length - 1, by omega⟩
            have hlast : m < t.thn.length := by omega
            have hllq := bszL_len t.thn
            obtain ⟨bq, oq, rfl, hbq⟩ := HTE.out.1 m _ (List.getElem?_eq_getElem hlast)
            obtain ⟨cq, hcq, _, hcellq⟩ := hbq.open_
            have HTL := Lib.hid (brS_at hm)
            have hzq : bszT (t.thn[m]) ≤ bszL t.thn := bszL_mem (List.getElem_mem hlast)
            have q1q := stL_len (t.thn.take m)
            have q2q := bszL_take t.thn m
            have q3q := inB_len (t.thn[m])
            have HBd := Lib.hid (below_step HRx.out.1 HRx.out.1.size (belowDrawnP (Below.refl _ wx)))
            have HWDx := Lib.hid (show wx.heap.size ≤ wx.drew.heap.size from (belowDrawnP (Below.refl wx.heap.size wx)).size)
            have HC1 := Lib.hid (HIS.out (t.thn.take m) (by omega) (by omega) _ m ct wx.drew (by rw [List.length_take]; omega) ((HTE.out.1.take m).below HBd.out))
            have HCQ := Lib.hid hcq
            have HC2 := Lib.hid (fun (w' : World) (hb' : Below w.heap.size w w') => HII.out (t.thn[m]) (by omega) cq w' (BcC.le (Le.of_fr (X' := fun _ => False) (Fr.of_below hb' fun _ => False) (fun _ _ e => e) fun _ _ e => e) _ _ HCQ.out))
            have hb1q : (stL (t.thn.take m)).length ≤ 2000000 := by omega
            have hb2q : (inB (t.thn[m])).length ≤ 2000000 := by omega
            clear HCQ hbq hzq q1q q2q q3q
            obtain ⟨Aaq, caq, Atq, ctq, Aeq, ceq, rfl, _⟩ := hcq
            have HCE2 := Lib.hid hcellq
            generalize t.thn[m] = tq at *
            generalize stL (t.thn.take m) = st1 at *
            generalize inB tq = st2 at *
            rw [hm] at d6
            have HDW := Lib.hid d6
            clear hcellq
            have d6x := below_cell HRx.out.1 HDW.out
            have hlbx := block_lt_of_cell d6x
            have S0 := Lib.hid (below_cell (belowDrawnP (Below.refl _ wx)) d6x)
            have rm1 : (1 : Int) ≤ (m : Int) + 1 := by omega
            have hmct : m ≤ ct := by omega
            have hmctI : (m : Int) ≤ ct := by omega
            have rmn : (0 : Int) ≤ m := by omega
            have rmlt : (m : Int) < (m : Int) + 1 := by omega
            have hmb : m ≤ 4000000 := by omega
            have hwr1 : IntKind.i64.wrap (m : Int) = m := by rw [IntKind.wrap_i64] <;> omega
            go_upto_region 7 with fail
            go_region_held3 (fun w' => w'.cell? ⟨b, o + k * 8 + 6, none⟩ = some (.slice (some ⟨bq, oq, none⟩) (m + 1) ct)) (first | exact S0.out | exact S5.out | exact S9.out) (first
              | (refine step_app _ (by rfl) (.tmp 26) (.tmp 40) 58 (by rfl) w.heap.size 9 i0 (.string ⟨#[]⟩) 1 16 Tryd.underlying58 HI.out.1 HI.out.2.1 HI.out.2.2.1 HI.out.2.2.2 rfl (by decide) (.slice Ax ac.length cx) ac.length (ac.map Value.string) (by first | (simp [Act.eval]; done) | (simp [Act.eval, Act.put]; done)) HO5.out A5 st1.length c5 (st1.map Value.string) (by first | (simp [Act.eval]; done) | (simp [Act.eval, Act.put]; done)) (by simp) HCL5.out (strs_one _) (by unfold maxLen; omega) (by omega) HSZ5.out ?_; intro v9 w9 hown9 hgrow9 hat9; have HR9 := Lib.hid (StR.push (acc := ac) (new := st1) HRx.out HBx5.out hown9 hgrow9); obtain ⟨A9, c9, rfl, hc9, hqq⟩ := own_formB hown9; clear hqq hat9; have HOW9 := Lib.hid hown9; have S9 := Lib.hid (below_cell HR9.out.1 HDW.out); clear hown9 hgrow9)
              | (go_simp; go_at_call 22; (with_reducible refine Calls.mono HC1.out ?_); rintro e w5 ⟨hb5, A5, c5, rfl, hc5, hcl5⟩; have HBx5 := Lib.hid (below_step (belowDrawnP (Below.refl _ wx)) HWDx.out hb5); have HCL5 := Lib.hid hcl5; have HO5 := Lib.hid (own_below HRx.out.2 HBx5.out); have HSZ5 := Lib.hid (Nat.le_trans HRx.out.1.size HBx5.out.size); have S5 := Lib.hid (below_cell HBx5.out d6x); clear hcl5 hb5; dsimp only)
              | fail)
            have HBd9 := Lib.hid (below_step HR9.out.1 HR9.out.1.size (belowDrawnP (Below.refl _ w9)))
            have HWD9 := Lib.hid (show w9.heap.size ≤ w9.drew.heap.size from (belowDrawnP (Below.refl w9.heap.size w9)).size)
            have d69 := below_cell HR9.out.1 HDW.out
            have g0 := below_cell HR9.out.1 (HCE2.out 0 _ rfl)
            have g1 := below_cell HR9.out.1 (HCE2.out 1 _ rfl)
            have g2 := below_cell HR9.out.1 (HCE2.out 2 _ rfl)
            have g3 := below_cell HR9.out.1 (HCE2.out 3 _ rfl)
            have g4 := below_cell HR9.out.1 (HCE2.out 4 _ rfl)
            have g5 := below_cell HR9.out.1 (HCE2.out 5 _ rfl)
            have g6 := below_cell HR9.out.1 (HCE2.out 6 _ rfl)
            have g7 := below_cell HR9.out.1 (HCE2.out 7 _ rfl)
            rw [Nat.add_zero] at g0
            have SS := Lib.hid (fun (w' : World) (hb' : Below w9.heap.size w9 w') => And.intro (below_cell hb' d69) (And.intro (below_cell hb' g0) (And.intro (below_cell hb' g1) (And.intro (below_cell hb' g2) (And.intro (below_cell hb' g3) (And.intro (below_cell hb' g4) (And.intro (below_cell hb' g5) (And.intro (below_cell hb' g6) (below_cell hb' g7)))))))))
            have SW := Lib.hid (fun (w' : World) (hb' : Below w.heap.size w w') => And.intro (below_cell hb' HDW.out) (And.intro (below_cell hb' (show w.cell? ⟨bq, oq + m * 8, none⟩ = _ from HCE2.out 0 _ rfl)) (And.intro (below_cell hb' (HCE2.out 1 _ rfl)) (And.intro (below_cell hb' (HCE2.out 2 _ rfl)) (And.intro (below_cell hb' (HCE2.out 3 _ rfl)) (And.intro (below_cell hb' (HCE2.out 4 _ rfl)) (And.intro (below_cell hb' (HCE2.out 5 _ rfl)) (And.intro (below_cell hb' (HCE2.out 6 _ rfl)) (below_cell hb' (HCE2.out 7 _ rfl))))))))))
            have T0 := Lib.hid (SS.out w9.drew (belowDrawnP (Below.refl _ w9)))
            have hl9 := block_lt_of_cell d69
            have hl9q := block_lt_of_cell g0
            have HC3 := Lib.hid (HC2.out w9.drew HBd9.out)
            go_upto_region 8 with fail
            go_region_held3 (fun w' => w'.cell? ⟨b, o + k * 8 + 6, none⟩ = some (.slice (some ⟨bq, oq, none⟩) (m + 1) ct) ∧ w'.cell? ⟨bq, oq + m * 8, none⟩ = some (.string tq.to) ∧ w'.cell? ⟨bq, oq + m * 8 + 1, none⟩ = some (.bool tq.list) ∧ w'.cell? ⟨bq, oq + m * 8 + 2, none⟩ = some (.int .u8 tq.op) ∧ w'.cell? ⟨bq, oq + m * 8 + 3, none⟩ = some (.int .i64 tq.num) ∧ w'.cell? ⟨bq, oq + m * 8 + 4, none⟩ = some (.string tq.name) ∧ w'.cell? ⟨bq, oq + m * 8 + 5, none⟩ = some (.slice Aaq tq.args.length caq) ∧ w'.cell? ⟨bq, oq + m * 8 + 6, none⟩ = some (.slice Atq tq.thn.length ctq) ∧ w'.cell? ⟨bq, oq + m * 8 + 7, none⟩ = some (.slice Aeq tq.els.length ceq)) (first | exact T0.out | exact T5.out | exact T9.out) (first
              | (refine step_app _ (by rfl) (.tmp 42) (.tmp 57) 58 (by rfl) w.heap.size 9 i0 (.string ⟨#[]⟩) 1 16 Tryd.underlying58 HI.out.1 HI.out.2.1 HI.out.2.2.1 HI.out.2.2.2 rfl (by decide) (.slice A9 (ac.length + st1.length) c9) (ac.length + st1.length) (ac.map Value.string ++ st1.map Value.string) (by first | (simp [Act.eval]; done) | (simp [Act.eval, Act.put]; done)) HO6.out A6 st2.length c6 (st2.map Value.string) (by first | (simp [Act.eval]; done) | (simp [Act.eval, Act.put]; done)) (by simp) HCL6.out (strs_one _) (by unfold maxLen; omega) (by omega) HSZ6.out ?_; intro v11 w11 hown11 hgrow11 hat11; have HR11 := Lib.hid (StR.push (acc := ac ++ st1) (new := st2) HR9.out HBx6.out (by rw [List.length_append, List.map_append]; exact hown11) hgrow11); obtain ⟨A11, c11, rfl, hc11, hqq⟩ := own_formB hown11; clear hqq hat11; have T9 := Lib.hid (SW.out w11 HR11.out.1); clear hown11 hgrow11)
              | (go_simp; go_at_call 37; (with_reducible refine Calls.mono HC3.out ?_); rintro e w6 ⟨hb6, A6, c6, rfl, hc6, hcl6⟩; have HBx6 := Lib.hid (below_step (belowDrawnP (Below.refl _ w9)) HWD9.out hb6); have HCL6 := Lib.hid hcl6; have HO6 := Lib.hid (own_below HOW9.out HBx6.out); have HSZ6 := Lib.hid (Nat.le_trans HR9.out.1.size HBx6.out.size); have T5 := Lib.hid (SS.out w6 HBx6.out); clear hcl6 hb6; dsimp only)
              | fail)
            all_goals
              go_wp2_with fail
              go_meet
              exact ⟨A11, c11, by rw [HA1.out.1, HTL.out, List.length_append, List.length_append, Nat.add_assoc], Lib.hid (by rw [HA1.out.1, HTL.out, ← List.append_assoc]; exact HR11.out)⟩
          · have HR2 := Lib.hid (show StR w w1 (.slice A1 (acc.length + 1) c1) ac1 by rw [HA1.out.1, brS_nil h0, List.append_nil]; exact HR1.out)
            have hn1 : ac1.length = acc.length + 1 := by rw [HA1.out.2, brS_nil h0]; rfl
            go_wp2_with fail
            go_meet
            exact ⟨A1, c1, by rw [hn1], HR2⟩
        case rest =>
          obtain ⟨Ax, cx, rfl, hst⟩ := hcut
          obtain ⟨wx, rfl⟩ : ∃ y, y = wc := ⟨_, rfl⟩
          have HRx := Lib.hid hst.out
          have HFIN := Lib.hid (show stL (l.take (k + 1)) = ac1 ++ brS t.els by rw [HSTP.out, HIN.out, HA1.out.1]; simp)
          obtain ⟨ac, rfl⟩ : ∃ y, y = ac1 := ⟨_, rfl⟩
          clear hst HR1 d6 hl1
          have d6 := HCW.out 7 _ rfl
          by_cases h0 : 0 < t.els.length
          · have hbac : ac.length ≤ 4000000 := hb1
            obtain ⟨m, hm⟩ : ∃ m, t.els.length = m + 1 := ⟨t.els.length - 1, by omega⟩
            have hlast : m < t.els.length := by omega
            have hllq := bszL_len t.els
            obtain ⟨bq, oq, rfl, hbq⟩ := HTE.out.2 m _ (List.getElem?_eq_getElem hlast)
            obtain ⟨cq, hcq, _, hcellq⟩ := hbq.open_
            have HTL := Lib.hid (brS_at hm)
            have hzq : bszT (t.els[m]) ≤ bszL t.els := bszL_mem (List.getElem_mem hlast)
            have q1q := stL_len (t.els.take m)
            have q2q := bszL_take t.els m
            have q3q := inB_len (t.els[m])
            have HBd := Lib.hid (below_step HRx.out.1 HRx.out.1.size (belowDrawnP (Below.refl _ wx)))
            have HWDx := Lib.hid (show wx.heap.size ≤ wx.drew.heap.size from (belowDrawnP (Below.refl wx.heap.size wx)).size)
            have HC1 := Lib.hid (HIS.out (t.els.take m) (by omega) (by omega) _ m ce wx.drew (by rw [List.length_take]; omega) ((HTE.out.2.take m).below HBd.out))
            have HCQ := Lib.hid hcq
            have HC2 := Lib.hid (fun (w' : World) (hb' : Below w.heap.size w w') => HII.out (t.els[m]) (by omega) cq w' (BcC.le (Le.of_fr (X' := fun _ => False) (Fr.of_below hb' fun _ => False) (fun _ _ e => e) fun _ _ e => e) _ _ HCQ.out))
            have hb1q : (stL (t.els.take m)).length ≤ 2000000 := by omega
            have hb2q : (inB (t.els[m])).length ≤ 2000000 := by omega
            clear HCQ hbq hzq q1q q2q q3q
            obtain ⟨Aaq, caq, Atq, ctq, Aeq, ceq, rfl, _⟩ := hcq
            have HCE2 := Lib.hid hcellq
            generalize t.els[m] = tq at *
            generalize stL (t.els.take m) = st1 at *
            generalize inB tq = st2 at *
            rw [hm] at d6
            have HDW := Lib.hid d6
            clear hcellq
            have d6x := below_cell HRx.out.1 HDW.out
            have hlbx := block_lt_of_cell d6x
            have S0 := Lib.hid (below_cell (belowDrawnP (Below.refl _ wx)) d6x)
            have rm1 : (1 : Int) ≤ (m : Int) + 1 := by omega
            have hmct : m ≤ ce := by omega
            have hmctI : (m : Int) ≤ ce := by omega
            have rmn : (0 : Int) ≤ m := by omega
            have rmlt : (m : Int) < (m : Int) + 1 := by omega
            have hmb : m ≤ 4000000 := by omega
            have hwr1 : IntKind.i64.wrap (m : Int) = m := by rw [IntKind.wrap_i64] <;> omega
            go_upto_region 10 with fail
            go_region_held3 (fun w' => w'.cell? ⟨b, o + k * 8 + 7, none⟩ = some (.slice (some ⟨bq, oq, none⟩) (m + 1) ce)) (first | exact S0.out | exact S5.out | exact S9.out) (first
              | (refine step_app _ (by rfl) (.tmp 66) (.tmp 80) 58 (by rfl) w.heap.size 9 i0 (.string ⟨#[]⟩) 1 16 Tryd.underlying58 HI.out.1 HI.out.2.1 HI.out.2.2.1 HI.out.2.2.2 rfl (by decide) (.slice Ax ac.length cx) ac.length (ac.map Value.string) (by first | (simp [Act.eval]; done) | (simp [Act.eval, Act.put]; done)) HO5.out A5 st1.length c5 (st1.map Value.string) (by first | (simp [Act.eval]; done) | (simp [Act.eval, Act.put]; done)) (by simp) HCL5.out (strs_one _) (by unfold maxLen; omega) (by omega) HSZ5.out ?_; intro v9 w9 hown9 hgrow9 hat9; have HR9 := Lib.hid (StR.push (acc := ac) (new := st1) HRx.out HBx5.out hown9 hgrow9); obtain ⟨A9, c9, rfl, hc9, hqq⟩ := own_formB hown9; clear hqq hat9; have HOW9 := Lib.hid hown9; have S9 := Lib.hid (below_cell HR9.out.1 HDW.out); clear hown9 hgrow9)
              | (go_simp; go_at_call 22; (with_reducible refine Calls.mono HC1.out ?_); rintro e w5 ⟨hb5, A5, c5, rfl, hc5, hcl5⟩; have HBx5 := Lib.hid (below_step (belowDrawnP (Below.refl _ wx)) HWDx.out hb5); have HCL5 := Lib.hid hcl5; have HO5 := Lib.hid (own_below HRx.out.2 HBx5.out); have HSZ5 := Lib.hid (Nat.le_trans HRx.out.1.size HBx5.out.size); have S5 := Lib.hid (below_cell HBx5.out d6x); clear hcl5 hb5; dsimp only)
              | fail)
            have HBd9 := Lib.hid (below_step HR9.out.1 HR9.out.1.size (belowDrawnP (Below.refl _ w9)))
            have HWD9 := Lib.hid (show w9.heap.size ≤ w9.drew.heap.size from (belowDrawnP (Below.refl w9.heap.size w9)).size)
            have d69 := below_cell HR9.out.1 HDW.out
            have g0 := below_cell HR9.out.1 (HCE2.out 0 _ rfl)
            have g1 := below_cell HR9.out.1 (HCE2.out 1 _ rfl)
            have g2 := below_cell HR9.out.1 (HCE2.out 2 _ rfl)
            have g3 := below_cell HR9.out.1 (HCE2.out 3 _ rfl)
            have g4 := below_cell HR9.out.1 (HCE2.out 4 _ rfl)
            have g5 := below_cell HR9.out.1 (HCE2.out 5 _ rfl)
            have g6 := below_cell HR9.out.1 (HCE2.out 6 _ rfl)
            have g7 := below_cell HR9.out.1 (HCE2.out 7 _ rfl)
            rw [Nat.add_zero] at g0
            have SS := Lib.hid (fun (w' : World) (hb' : Below w9.heap.size w9 w') => And.intro (below_cell hb' d69) (And.intro (below_cell hb' g0) (And.intro (below_cell hb' g1) (And.intro (below_cell hb' g2) (And.intro (below_cell hb' g3) (And.intro (below_cell hb' g4) (And.intro (below_cell hb' g5) (And.intro (below_cell hb' g6) (below_cell hb' g7)))))))))
            have SW := Lib.hid (fun (w' : World) (hb' : Below w.heap.size w w') => And.intro (below_cell hb' HDW.out) (And.intro (below_cell hb' (show w.cell? ⟨bq, oq + m * 8, none⟩ = _ from HCE2.out 0 _ rfl)) (And.intro (below_cell hb' (HCE2.out 1 _ rfl)) (And.intro (below_cell hb' (HCE2.out 2 _ rfl)) (And.intro (below_cell hb' (HCE2.out 3 _ rfl)) (And.intro (below_cell hb' (HCE2.out 4 _ rfl)) (And.intro (below_cell hb' (HCE2.out 5 _ rfl)) (And.intro (below_cell hb' (HCE2.out 6 _ rfl)) (below_cell hb' (HCE2.out 7 _ rfl))))))))))
            have T0 := Lib.hid (SS.out w9.drew (belowDrawnP (Below.refl _ w9)))
            have hl9 := block_lt_of_cell d69
            have hl9q := block_lt_of_cell g0
            have HC3 := Lib.hid (HC2.out w9.drew HBd9.out)
            go_upto_region 11 with fail
            go_region_held3 (fun w' => w'.cell? ⟨b, o + k * 8 + 7, none⟩ = some (.slice (some ⟨bq, oq, none⟩) (m + 1) ce) ∧ w'.cell? ⟨bq, oq + m * 8, none⟩ = some (.string tq.to) ∧ w'.cell? ⟨bq, oq + m * 8 + 1, none⟩ = some (.bool tq.list) ∧ w'.cell? ⟨bq, oq + m * 8 + 2, none⟩ = some (.int .u8 tq.op) ∧ w'.cell? ⟨bq, oq + m * 8 + 3, none⟩ = some (.int .i64 tq.num) ∧ w'.cell? ⟨bq, oq + m * 8 + 4, none⟩ = some (.string tq.name) ∧ w'.cell? ⟨bq, oq + m * 8 + 5, none⟩ = some (.slice Aaq tq.args.length caq) ∧ w'.cell? ⟨bq, oq + m * 8 + 6, none⟩ = some (.slice Atq tq.thn.length ctq) ∧ w'.cell? ⟨bq, oq + m * 8 + 7, none⟩ = some (.slice Aeq tq.els.length ceq)) (first | exact T0.out | exact T5.out | exact T9.out) (first
              | (refine step_app _ (by rfl) (.tmp 82) (.tmp 97) 58 (by rfl) w.heap.size 9 i0 (.string ⟨#[]⟩) 1 16 Tryd.underlying58 HI.out.1 HI.out.2.1 HI.out.2.2.1 HI.out.2.2.2 rfl (by decide) (.slice A9 (ac.length + st1.length) c9) (ac.length + st1.length) (ac.map Value.string ++ st1.map Value.string) (by first | (simp [Act.eval]; done) | (simp [Act.eval, Act.put]; done)) HO6.out A6 st2.length c6 (st2.map Value.string) (by first | (simp [Act.eval]; done) | (simp [Act.eval, Act.put]; done)) (by simp) HCL6.out (strs_one _) (by unfold maxLen; omega) (by omega) HSZ6.out ?_; intro v11 w11 hown11 hgrow11 hat11; have HR11 := Lib.hid (StR.push (acc := ac ++ st1) (new := st2) HR9.out HBx6.out (by rw [List.length_append, List.map_append]; exact hown11) hgrow11); obtain ⟨A11, c11, rfl, hc11, hqq⟩ := own_formB hown11; clear hqq hat11; have T9 := Lib.hid (SW.out w11 HR11.out.1); clear hown11 hgrow11)
              | (go_simp; go_at_call 37; (with_reducible refine Calls.mono HC3.out ?_); rintro e w6 ⟨hb6, A6, c6, rfl, hc6, hcl6⟩; have HBx6 := Lib.hid (below_step (belowDrawnP (Below.refl _ w9)) HWD9.out hb6); have HCL6 := Lib.hid hcl6; have HO6 := Lib.hid (own_below HOW9.out HBx6.out); have HSZ6 := Lib.hid (Nat.le_trans HR9.out.1.size HBx6.out.size); have T5 := Lib.hid (SS.out w6 HBx6.out); clear hcl6 hb6; dsimp only)
              | fail)
            all_goals
              have HE := Lib.hid (show StR w w11 (.slice A11 (ac.length + st1.length + st2.length) c11) (stL (l.take (k + 1))) by rw [HFIN.out, HTL.out, ← List.append_assoc]; exact HR11.out)
              go_wp2_with fail
              exact ⟨⟨k + 1, by omega, by go_num, HE⟩, by simp [intOf]; omega⟩
          · have HE := Lib.hid (show StR w wx (.slice Ax ac.length cx) (stL (l.take (k + 1))) by rw [HFIN.out, brS_nil h0, List.append_nil]; exact HRx.out)
            have d7 := below_cell HRx.out.1 d6
            have hl7 := block_lt_of_cell d7
            go_wp2_with fail
            exact ⟨⟨k + 1, by omega, by go_num, HE⟩, by simp [intOf]; omega⟩
      · obtain rfl : k = l.length := by omega
        rw [List.take_length] at hrow
        obtain ⟨A5, c5, rfl, h6, h5⟩ := hrow.out.done
        have HE := Lib.hid (show RetSt (stL l) w (.returned (.slice A5 (stL l).length c5)) wr from ⟨hrow.out.1, A5, c5, rfl, h6, h5⟩)
        clear hrow h5 h6
        go_wp2_with fail
        go_ret
        exact HE.out

end Go.Proofs.YtcoeakdpcigogaaDoor
