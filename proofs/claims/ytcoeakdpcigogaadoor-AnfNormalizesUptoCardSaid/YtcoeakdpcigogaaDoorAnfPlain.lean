/-
  Layer 38, plainly: binds, normalization.
  anf.Valid, plainly.
-/
import Derived.Test.YtcoeakdpcigogaaDoorFunVld
import Derived.Test.YtcoeakdpcigogaaDoorAnfShelf
namespace Go.Proofs.YtcoeakdpcigogaaDoor

inductive Bd where
  | mk (to : ByteArray) (list : Bool) (op : Nat) (num : Int) (name : ByteArray) (args : List ByteArray) (thn els : List Bd)
def Bd.to : Bd → ByteArray | .mk t _ _ _ _ _ _ _ => t
def Bd.list : Bd → Bool | .mk _ l _ _ _ _ _ _ => l
def Bd.op : Bd → Nat | .mk _ _ o _ _ _ _ _ => o
def Bd.num : Bd → Int | .mk _ _ _ n _ _ _ _ => n
def Bd.name : Bd → ByteArray | .mk _ _ _ _ s _ _ _ => s
def Bd.args : Bd → List ByteArray | .mk _ _ _ _ _ a _ _ => a
def Bd.thn : Bd → List Bd | .mk _ _ _ _ _ _ t _ => t
def Bd.els : Bd → List Bd | .mk _ _ _ _ _ _ _ e => e
/-- A normalized function. -/
structure Af where
  name : ByteArray
  params : List Pm
  list : Bool
  temps : List Pm
  body : List Bd
  result : ByteArray

/-- A temporary's name. -/
def tmpN (n : Nat) : ByteArray := ⟨(116 :: Lib.itoa (n : Int)).toArray⟩
def eS : ByteArray := ⟨#[]⟩
def setP (env : ByteArray → Option Pm) (s : ByteArray) (p : Option Pm) : ByteArray → Option Pm := fun t => if t = s then p else env t
/-- The type of a temporary, given late. -/
def setL (ts : List Pm) (i : Nat) (b : Bool) : List Pm := ts.set i ⟨tmpN i, b⟩

mutual
/-- Whether an expression names a variable. -/
def namesT : Nd → Bool
  | .mk k _ _ l => if k = 84 then namesL l else decide (k = 81)
def namesL : List Nd → Bool
  | [_, b] => namesT b
  | _ => false
end

/-- What normalizing gives: binds, the variable with the value, the temporaries. -/
structure Nr where
  bs : List Bd
  p : Pm
  ts : List Pm
/-- A bind's temporary is made last. -/
def Nr.put (bs : List Bd) (list : Bool) (ts : List Pm) (op : Nat) (num : Int) (name : ByteArray) (args : List ByteArray) : Nr :=
  ⟨bs ++ [.mk (tmpN ts.length) list op num name args [] []], ⟨tmpN ts.length, list⟩, ts ++ [⟨tmpN ts.length, list⟩]⟩
/-- The arguments of a call are temporaries. -/
def Nr.arg (call : Bool) (y : Nd) (r : Nr) : Nr :=
  if call = true ∧ namesT y = true then .put r.bs r.p.list r.ts 81 0 eS [r.p.name] else r
def listK (k : Nat) : Bool := decide (k = 86 ∨ k = 87 ∨ k = 89)
structure Na where
  bs : List Bd
  args : List ByteArray
  ts : List Pm

mutual
def nE (lib : List Fn1) : Nd → (ByteArray → Option Pm) → List Pm → Nr
  | .mk k n s l, env, ts =>
    if k = 81 then ⟨[], (env s).getD ⟨eS, false⟩, ts⟩
    else if k = 84 then nLet lib s l env ts
    else if k = 83 then nIf lib l env ts
    else
      let r := nArgs lib (decide (k = 85)) l env ts
      if k = 85 then .put r.bs (((lib[(findF lib s 0).toNat]?).map Fn1.list).getD false) r.ts 85 0 s r.args
      else .put r.bs (listK k) r.ts k n eS r.args
def nLet (lib : List Fn1) (s : ByteArray) : List Nd → (ByteArray → Option Pm) → List Pm → Nr
  | [a, b], env, ts =>
    let x := nE lib a env ts
    let y := nE lib b (setP env s (some x.p)) x.ts
    ⟨x.bs ++ y.bs, y.p, y.ts⟩
  | _, _, ts => ⟨[], ⟨eS, false⟩, ts⟩
def nIf (lib : List Fn1) : List Nd → (ByteArray → Option Pm) → List Pm → Nr
  | [c, a, b], env, ts =>
    let r := nE lib c env ts
    let i := r.ts.length
    let x := nE lib a env (r.ts ++ [⟨tmpN i, false⟩])
    let tx := setL x.ts i x.p.list
    let y := nE lib b env tx
    let ty := setL y.ts i y.p.list
    ⟨r.bs ++ [.mk (tmpN i) y.p.list 83 0 eS [r.p.name] (x.bs ++ [.mk (tmpN i) x.p.list 81 0 eS [x.p.name] [] []]) (y.bs ++ [.mk (tmpN i) y.p.list 81 0 eS [y.p.name] [] []])], ⟨tmpN i, y.p.list⟩, ty⟩
  | _, _, ts => ⟨[], ⟨eS, false⟩, ts⟩
def nArgs (lib : List Fn1) (call : Bool) : List Nd → (ByteArray → Option Pm) → List Pm → Na
  | [], _, ts => ⟨[], [], ts⟩
  | y :: r, env, ts =>
    let x := Nr.arg call y (nE lib y env ts)
    let z := nArgs lib call r env x.ts
    ⟨x.bs ++ z.bs, x.p.name :: z.args, z.ts⟩
end
def envP : List Pm → ByteArray → Option Pm := fun l => l.foldl (fun env p => setP env p.name (some p)) (fun _ => none)
def normF (lib : List Fn1) (f : Fn1) : Af :=
  let r := nE lib f.body (envP f.params) []
  ⟨f.name, f.params, f.list, r.ts, r.bs, r.p.name⟩

/-! ### By kinds -/
theorem nE_81 {lib : List Fn1} {x : Nd} (h : x.kind = 81) (env : ByteArray → Option Pm) (ts : List Pm) : nE lib x env ts = ⟨[], (env x.name).getD ⟨eS, false⟩, ts⟩ := by
  cases x; rw [nE]; exact if_pos h
theorem nE_84 {lib : List Fn1} {x : Nd} (h : x.kind = 84) (env : ByteArray → Option Pm) (ts : List Pm) : nE lib x env ts = nLet lib x.name x.kids env ts := by
  cases x with
  | mk k n s l =>
    rw [nE]
    have h' : k = 84 := h
    rw [if_neg (by omega), if_pos h']; rfl
theorem nE_83 {lib : List Fn1} {x : Nd} (h : x.kind = 83) (env : ByteArray → Option Pm) (ts : List Pm) : nE lib x env ts = nIf lib x.kids env ts := by
  cases x with
  | mk k n s l =>
    rw [nE]
    have h' : k = 83 := h
    rw [if_neg (by omega), if_neg (by omega), if_pos h']; rfl
theorem nE_85 {lib : List Fn1} {x : Nd} (h : x.kind = 85) (env : ByteArray → Option Pm) (ts : List Pm) : nE lib x env ts = .put (nArgs lib true x.kids env ts).bs (((lib[(findF lib x.name 0).toNat]?).map Fn1.list).getD false) (nArgs lib true x.kids env ts).ts 85 0 x.name (nArgs lib true x.kids env ts).args := by
  cases x with
  | mk k n s l =>
    rw [nE]
    have h' : k = 85 := h
    subst h'
    rfl
theorem nE_op {lib : List Fn1} {x : Nd} (h1 : x.kind ≠ 81) (h2 : x.kind ≠ 83) (h3 : x.kind ≠ 84) (h4 : x.kind ≠ 85) (env : ByteArray → Option Pm) (ts : List Pm) : nE lib x env ts = .put (nArgs lib false x.kids env ts).bs (listK x.kind) (nArgs lib false x.kids env ts).ts x.kind x.num eS (nArgs lib false x.kids env ts).args := by
  cases x with
  | mk k n s l =>
    rw [nE]
    have h1' : k ≠ 81 := h1
    have h2' : k ≠ 83 := h2
    have h3' : k ≠ 84 := h3
    have h4' : k ≠ 85 := h4
    rw [if_neg h1', if_neg h3', if_neg h2']
    simp only [h4', decide_false, if_false]
    rfl
theorem namesT_eq (x : Nd) : namesT x = if x.kind = 84 then namesL x.kids else decide (x.kind = 81) := by cases x; rw [namesT]; rfl

end Go.Proofs.YtcoeakdpcigogaaDoor

namespace Go.Proofs.YtcoeakdpcigogaaDoor

abbrev Sc := ByteArray → Option Bool
abbrev Bn := ByteArray → Int
def incB (bd : Bn) (s : ByteArray) : Bn := fun t => if t = s then bd s + 1 else bd t
/-- The types of arguments that are in scope. -/
def typesA (sc : Sc) : List ByteArray → Option (List Bool)
  | [] => some []
  | a :: r => match sc a with
    | none => none
    | some t => (typesA sc r).map (t :: ·)
def fieldsB (b : Bd) : Bool :=
  if b.op ≠ 80 ∧ b.op ≠ 82 ∧ b.num ≠ 0 then false
  else if b.op ≠ 85 ∧ b.name ≠ eS then false
  else if b.op ≠ 83 ∧ 0 < b.thn.length + b.els.length then false
  else if b.op = 80 then decide (0 ≤ b.num)
  else if b.op = 82 then decide (8 ≤ b.num ∧ b.num ≤ 23)
  else decide (b.op = 81 ∨ b.op = 83 ∨ b.op = 85 ∨ b.op = 86 ∨ b.op = 87 ∨ b.op = 88 ∨ b.op = 89 ∨ b.op = 90)
def operT (op : Nat) : List Bool × Bool :=
  if op = 82 then ([false, false], false)
  else if op = 86 then ([], true)
  else if op = 87 then ([false, true], true)
  else if op = 88 ∨ op = 90 then ([true], false)
  else if op = 89 then ([true], true)
  else ([], false)
/-- The arguments of a call: temporaries, each once, of the parameters' types. -/
def argsB (tp : Sc) : List ByteArray → List Bool → List Pm → (ByteArray → Bool) → Bool
  | [], _, _, _ => true
  | a :: r, t :: ts, p :: ps, seen => if (tp a).isSome = false ∨ seen a = true ∨ t ≠ p.list then false else argsB tp r ts ps (fun q => if q = a then true else seen q)
  | _, _, _, _ => false
def callB (lib : ByteArray → Option Af) (tp : Sc) (b : Bd) (ts : List Bool) : Bool :=
  match lib b.name with
  | none => false
  | some f => if f.list ≠ b.list ∨ ts.length ≠ f.params.length then false else argsB tp b.args ts f.params fun _ => false
def setS (sc : Sc) (s : ByteArray) (v : Option Bool) : Sc := fun t => if t = s then v else sc t

mutual
def bndB (lib : ByteArray → Option Af) (tp : Sc) : Bd → Sc → Bn → Option Bn
  | .mk to list op num name args thn els, sc, bd =>
    if tp to ≠ some list then none
    else if (sc to).isSome = true then none
    else match typesA sc args with
      | none => none
      | some ts =>
        if fieldsB (.mk to list op num name args thn els) = false then none
        else if op = 81 then (if ts = [list] then some bd else none)
        else if op = 85 then (if callB lib tp (.mk to list op num name args thn els) ts = true then some bd else none)
        else if op = 83 then (if ts = [false] then (match brB lib tp to thn sc bd with
          | none => none
          | some bd1 => brB lib tp to els sc bd1) else none)
        else (if ts = (operT op).1 ∧ (operT op).2 = list then some bd else none)
def brB (lib : ByteArray → Option Af) (tp : Sc) (to : ByteArray) : List Bd → Sc → Bn → Option Bn
  | [], _, _ => none
  | b :: r, sc, bd =>
    if (b.to = to) ≠ (r = []) then none
    else match bndB lib tp b sc bd with
      | none => none
      | some bd1 => if r = [] then some bd1 else brB lib tp to r (setS sc b.to (some b.list)) (incB bd1 b.to)
end
/-- A function's binds. -/
def bodyB (lib : ByteArray → Option Af) (tp : Sc) : List Bd → Sc → Bn → Option (Sc × Bn)
  | [], sc, bd => some (sc, bd)
  | b :: r, sc, bd => match bndB lib tp b sc bd with
    | none => none
    | some bd1 => bodyB lib tp r (setS sc b.to (some b.list)) (incB bd1 b.to)
def scP : List Pm → Sc := fun l => l.foldl (fun sc p => setS sc p.name (some p.list)) fun _ => none
def fnB (lib : ByteArray → Option Af) (f : Af) : Bool :=
  if 8 < f.params.length then false
  else if f.temps.any (fun p => (scP f.params p.name).isSome) = true then false
  else if ¬ (f.params.map Pm.name).Nodup ∨ ¬ (f.temps.map Pm.name).Nodup then false
  else match bodyB lib (scP f.temps) f.body (scP f.params) (fun _ => 0) with
    | none => false
    | some r => if f.temps.all (fun p => decide (r.2 p.name = 1)) = true then decide (r.1 f.result = some f.list) else false
def byN : List Af → ByteArray → Option Af := fun l => l.foldl (fun e f => fun t => if t = f.name then some f else e t) fun _ => none
def libB (l : List Af) : Bool :=
  if 30 < l.length then false
  else if ¬ (l.map Af.name).Nodup then false
  else l.all (fnB (byN l))

theorem bndB_eq (lib : ByteArray → Option Af) (tp : Sc) (b : Bd) (sc : Sc) (bd : Bn) : bndB lib tp b sc bd =
    if tp b.to ≠ some b.list then none
    else if (sc b.to).isSome = true then none
    else match typesA sc b.args with
      | none => none
      | some ts =>
        if fieldsB b = false then none
        else if b.op = 81 then (if ts = [b.list] then some bd else none)
        else if b.op = 85 then (if callB lib tp b ts = true then some bd else none)
        else if b.op = 83 then (if ts = [false] then (match brB lib tp b.to b.thn sc bd with
          | none => none
          | some bd1 => brB lib tp b.to b.els sc bd1) else none)
        else (if ts = (operT b.op).1 ∧ (operT b.op).2 = b.list then some bd else none) := by cases b; rw [bndB]; rfl

/-! ### Arguments' types, in steps -/
theorem typesA_none {sc : Sc} {l : List ByteArray} {k : Nat} {a : ByteArray} (hk : l[k]? = some a) (h : sc a = none) : typesA sc l = none := by
  induction l generalizing k with
  | nil => simp at hk
  | cons x r ih =>
    rw [typesA]
    cases k with
    | zero => simp at hk; subst hk; rw [h]
    | succ k =>
      simp at hk
      cases sc x with
      | none => rfl
      | some t => rw [ih hk]; rfl
theorem typesA_snoc {sc : Sc} {l : List ByteArray} {a : ByteArray} {ts : List Bool} {t : Bool} (h : typesA sc l = some ts) (ha : sc a = some t) : typesA sc (l ++ [a]) = some (ts ++ [t]) := by
  induction l generalizing ts with
  | nil => rw [typesA] at h; cases h; rw [List.nil_append, typesA, ha, typesA]; rfl
  | cons x r ih =>
    rw [typesA] at h
    rw [List.cons_append, typesA]
    cases hx : sc x with
    | none => rw [hx] at h; cases h
    | some u =>
      rw [hx] at h
      cases hr : typesA sc r with
      | none => rw [hr] at h; cases h
      | some us => rw [hr] at h; cases h; rw [ih hr]; rfl
theorem typesA_len {sc : Sc} {l : List ByteArray} {ts : List Bool} (h : typesA sc l = some ts) : ts.length = l.length := by
  induction l generalizing ts with
  | nil => rw [typesA] at h; cases h; rfl
  | cons x r ih =>
    rw [typesA] at h
    cases hx : sc x with
    | none => rw [hx] at h; cases h
    | some u =>
      rw [hx] at h
      cases hr : typesA sc r with
      | none => rw [hr] at h; cases h
      | some us => rw [hr] at h; cases h; simp [ih hr]

/-! ### A branch's scope is taken back -/
def scL : List Bd → Sc → Sc := fun l sc => l.foldl (fun sc b => setS sc b.to (some b.list)) sc
theorem bndB_fresh {lib : ByteArray → Option Af} {tp : Sc} {b : Bd} {sc : Sc} {bd bd' : Bn} (h : bndB lib tp b sc bd = some bd') : sc b.to = none := by
  rw [bndB_eq] at h
  by_cases h1 : tp b.to ≠ some b.list
  · rw [if_pos h1] at h; cases h
  · rw [if_neg h1] at h
    by_cases h2 : (sc b.to).isSome = true
    · rw [if_pos h2] at h; cases h
    · cases e : sc b.to with
      | none => rfl
      | some v => rw [e] at h2; exact absurd rfl h2
theorem setS_none {sc : Sc} {s t : ByteArray} {v : Option Bool} (h : setS sc s v t = none) (hv : v ≠ none) : sc t = none := by
  unfold setS at h
  by_cases e : t = s
  · rw [if_pos e] at h; exact absurd h hv
  · rw [if_neg e] at h; exact h
theorem brB_fresh {lib : ByteArray → Option Af} {tp : Sc} {to : ByteArray} : ∀ {l : List Bd} {sc : Sc} {bd bd' : Bn}, brB lib tp to l sc bd = some bd' → ∀ b ∈ l, sc b.to = none
  | [], _, _, _, h, _, _ => by rw [brB] at h; cases h
  | b :: r, sc, bd, bd', h, c, hc => by
    rw [brB] at h
    by_cases h1 : (b.to = to) ≠ (r = [])
    · rw [if_pos h1] at h; cases h
    rw [if_neg h1] at h
    cases hb : bndB lib tp b sc bd with
    | none => rw [hb] at h; cases h
    | some bd1 =>
      rw [hb] at h
      rcases List.mem_cons.1 hc with e | e
      · rw [e]; exact bndB_fresh hb
      · have hr : r ≠ [] := fun e2 => by rw [e2] at e; cases e
        have h' : brB lib tp to r (setS sc b.to (some b.list)) (incB bd1 b.to) = some bd' := by
          have := h
          simp only [hr, if_false] at this
          exact this
        exact setS_none (brB_fresh h' c e) (by simp)
theorem scL_eq {l : List Bd} {sc : Sc} {t : ByteArray} (h : ∀ b ∈ l, t ≠ b.to) : scL l sc t = sc t := by
  unfold scL
  induction l generalizing sc with
  | nil => rfl
  | cons b r ih =>
    rw [List.foldl_cons, ih (fun c hc => h c (List.mem_cons_of_mem _ hc))]
    unfold setS
    rw [if_neg (h b (List.mem_cons_self ..))]
/-- The scope with the first k binds' temporaries taken out. -/
noncomputable def scDel (sc : Sc) (l : List Bd) (k : Nat) : Sc := open Classical in fun t => if t ∈ (l.take k).map Bd.to then none else sc t
theorem scDel_zero (sc : Sc) (l : List Bd) : scDel sc l 0 = sc := by funext t; unfold scDel; simp
theorem scDel_step {sc : Sc} {l : List Bd} {k : Nat} {b : Bd} (hk : l[k]? = some b) : setS (scDel sc l k) b.to none = scDel sc l (k + 1) := by
  obtain ⟨hlt, hb⟩ := List.getElem?_eq_some_iff.1 hk
  funext t
  unfold setS scDel
  rw [List.take_succ_eq_append_getElem hlt, hb]
  by_cases e : t = b.to
  · rw [if_pos e, if_pos (by simp [e])]
  · rw [if_neg e]
    by_cases h2 : t ∈ (l.take k).map Bd.to
    · rw [if_pos h2, if_pos (by rw [List.map_append]; exact List.mem_append_left _ h2)]
    · rw [if_neg h2, if_neg (fun h3 => by
        rw [List.map_append] at h3
        rcases List.mem_append.1 h3 with h4 | h4
        · exact h2 h4
        · simp at h4; exact e h4)]
theorem scDel_end {sc : Sc} {l : List Bd} (h : ∀ b ∈ l, sc b.to = none) : scDel (scL l sc) l l.length = sc := by
  funext t
  unfold scDel
  rw [List.take_length]
  by_cases h2 : t ∈ l.map Bd.to
  · rw [if_pos h2]
    obtain ⟨b, hb, rfl⟩ := List.mem_map.1 h2
    exact (h b hb).symm
  · rw [if_neg h2]
    exact scL_eq fun b hb e => h2 (List.mem_map.2 ⟨b, hb, e.symm⟩)

end Go.Proofs.YtcoeakdpcigogaaDoor
