/-
  The state of an evaluation: environments, the evaluator, the calls made so far; funeval.operate at any operation.
-/
import Derived.Test.YtcoeakdpcigogaaDoorFevOps
import Derived.Test.YtcoeakdpcigogaaDoorFevType
namespace Go.Proofs.YtcoeakdpcigogaaDoor
open Go.ChangeShapes Go.WideShapes Go.ChangeAt Go.RowKit Go.Sort Go.Maps

theorem lone {α : Type} {l : List α} (h : l.length = 1) : ∃ a, l = [a] := by
  match l, h with
  | [a], _ => exact ⟨a, rfl⟩
theorem ltwo {α : Type} {l : List α} (h : l.length = 2) : ∃ a b, l = [a, b] := by
  match l, h with
  | [a, b], _ => exact ⟨a, b, rfl⟩
theorem form_op {x : Nd} (h : formB x.kind x.num x.name x.kids.length = true) : (x.kind = 82 → x.kids.length = 2 ∧ 8 ≤ x.num ∧ x.num ≤ 23) ∧ (x.kind = 87 → x.kids.length = 2) ∧ (x.kind = 88 ∨ x.kind = 89 ∨ x.kind = 90 → x.kids.length = 1) ∧ (x.kind = 86 → x.kids.length = 0) := by
  unfold formB at h
  refine ⟨fun e => ?_, fun e => ?_, fun e => ?_, fun e => ?_⟩
  · rw [e] at h; simp at h; omega
  · rw [e] at h; simp at h; omega
  · rcases e with e | e | e <;> rw [e] at h <;> simp at h <;> omega
  · rw [e] at h; simp at h; rw [h.2]; rfl

theorem operate_any (x : Nd) (Ak : Option Addr) (ck : Nat) (l : List Vl) (Al : Option Addr) (cl : Nat) (X : Nat → Prop) (w : World) (hV : VlsX w X Al l) (hX : ∀ k, X k → k < w.heap.size)
    (hf : formB x.kind x.num x.name x.kids.length = true) (h80 : x.kind ≠ 80) (h81 : x.kind ≠ 81) (h83 : x.kind ≠ 83) (h84 : x.kind ≠ 84) (h85 : x.kind ≠ 85) (hlen : l.length = x.kids.length) (hl : ∀ v ∈ l, v.l.length ≤ 1000000) :
    Calls Tryd.prog 84 #[.agg #[.int .u8 x.kind, .int .i64 x.num, .string x.name, .slice Ak x.kids.length ck], .slice Al l.length cl] w (RetO (opR apR x.kind x.num l) X w) := by
  obtain ⟨_, _, _, hk⟩ := form_len hf
  obtain ⟨f82, f87, f88, f86⟩ := form_op hf
  obtain ⟨kind, num, name, kids⟩ := x
  simp only [Nd.kind, Nd.num, Nd.name, Nd.kids] at *
  have hc : kind = 82 ∨ kind = 86 ∨ kind = 87 ∨ kind = 88 ∨ kind = 89 ∨ kind = 90 := by omega
  rcases hc with rfl | rfl | rfl | rfl | rfl | rfl
  · obtain ⟨n2, m1, m2⟩ := f82 rfl
    obtain ⟨a, b, rfl⟩ := ltwo (hlen.trans n2)
    obtain ⟨num, rfl⟩ : ∃ n : Nat, num = n := ⟨num.toNat, by omega⟩
    exact operate_82 num (by omega) (by omega) name Ak _ ck a b Al cl X w hV
  · exact operate_86 num name Ak _ ck l Al cl X w
  · obtain ⟨a, b, rfl⟩ := ltwo (hlen.trans (f87 rfl))
    exact operate_87 num name Ak _ ck a b Al cl X w hV hX
  · obtain ⟨a, rfl⟩ := lone (hlen.trans (f88 (.inl rfl)))
    exact operate_88 num name Ak _ ck a Al cl X w hV (hl a (by simp))
  · obtain ⟨a, rfl⟩ := lone (hlen.trans (f88 (.inr (.inl rfl))))
    exact operate_89 num name Ak _ ck a Al cl X w hV (hl a (by simp))
  · obtain ⟨a, rfl⟩ := lone (hlen.trans (f88 (.inr (.inr rfl))))
    exact operate_90 num name Ak _ ck a Al cl X w hV
theorem opR_len (x : Nd) (l : List Vl) (hl : ∀ v ∈ l, v.l.length ≤ 1000000) : (opR apR x.kind x.num l).1.l.length ≤ 1000000 := by
  have g : ∀ k : Nat, ((l[k]?).getD zeroV).l.length ≤ 1000000 := fun k => by
    cases h : l[k]? with
    | none => simp [zeroV]
    | some v => exact hl v (List.mem_of_getElem? h)
  have g0 := g 0
  have g1 := g 1
  unfold opR
  split
  · simp
  split
  · split
    · simp [zeroV]
    · simp; omega
  split
  · split <;> simp [zeroV]
  split
  · split
    · simp [zeroV]
    · rename_i y r h; rw [h] at g0; simp at g0 ⊢; omega
  split
  · split <;> simp [zeroV]
  · simp

/-- Block bm is a map that holds the environment. -/
def EnvX (w : World) (X : Nat → Prop) (bm n : Nat) (env : ByteArray → Option Vl) : Prop :=
  ¬ X bm ∧ ∃ raw, MapV w bm n raw ∧ (∀ s, env s = none → raw s = none) ∧ ∀ s v, env s = some v → v.l.length ≤ 1000000 ∧ ∃ A c, raw s = some (.agg #[.bool v.list, .int .i64 v.n, .slice A v.l.length c]) ∧ IntsC w X A c v.l
theorem EnvX.fr {w w' : World} {X X' : Nat → Prop} {bm n : Nat} {env : ByteArray → Option Vl} (h : EnvX w X bm n env) {m : Nat → Prop} (hf : Fr w w' m) (hm : ∀ k, k < w.heap.size → m k → X k) (hX : ∀ k, k < w.heap.size → X' k → X k) : EnvX w' X' bm n env := by
  obtain ⟨h1, raw, h2, h3, h4⟩ := h
  have hl := h2.lt
  refine ⟨fun e => h1 (hX bm hl e), raw, h2.fr hf (fun e => h1 (hm bm hl e)), h3, fun s v hs => ?_⟩
  obtain ⟨h5, A, c, h6, h7⟩ := h4 s v hs
  exact ⟨h5, A, c, h6, h7.le (Le.of_fr hf hm hX)⟩
theorem EnvX.get {w : World} {X : Nat → Prop} {bm n : Nat} {env : ByteArray → Option Vl} (h : EnvX w X bm n env) (s : ByteArray) : ∃ raw, MapV w bm n raw ∧ ∃ A c, (raw s).getD zV = .agg #[.bool ((env s).getD zeroV).list, .int .i64 ((env s).getD zeroV).n, .slice A ((env s).getD zeroV).l.length c] ∧ IntsC w X A c ((env s).getD zeroV).l ∧ ((env s).getD zeroV).l.length ≤ 1000000 := by
  obtain ⟨h1, raw, h2, h3, h4⟩ := h
  refine ⟨raw, h2, ?_⟩
  cases hs : env s with
  | none => rw [h3 s hs]; exact ⟨none, 0, rfl, IntsC.nil _ _ _ _, by simp [zeroV]⟩
  | some v =>
    obtain ⟨h5, A, c, h6, h7⟩ := h4 s v hs
    rw [h6]
    exact ⟨A, c, rfl, h7, h5⟩
theorem EnvX.put {w w' : World} {X : Nat → Prop} {bm n : Nat} {env : ByteArray → Option Vl} {raw : ByteArray → Option Value} (hX : ¬ X bm) (h3 : ∀ s, env s = none → raw s = none) (h4 : ∀ s v, env s = some v → v.l.length ≤ 1000000 ∧ ∃ A c, raw s = some (.agg #[.bool v.list, .int .i64 v.n, .slice A v.l.length c]) ∧ IntsC w X A c v.l)
    (hl : Le w X w' X) {s : ByteArray} {v : Vl} {A : Option Addr} {c : Nat} (hv : IntsC w X A c v.l) (hvl : v.l.length ≤ 1000000) (h2 : MapV w' bm n (setR raw s (.agg #[.bool v.list, .int .i64 v.n, .slice A v.l.length c]))) : EnvX w' X bm n (setV env s v) := by
  refine ⟨hX, _, h2, fun t ht => ?_, fun t u ht => ?_⟩
  · unfold setV at ht
    unfold setR
    by_cases e : t = s
    · rw [if_pos e] at ht; cases ht
    · rw [if_neg e] at ht ⊢; exact h3 t ht
  · unfold setV at ht
    unfold setR
    by_cases e : t = s
    · rw [if_pos e] at ht ⊢
      cases ht
      exact ⟨hvl, A, c, rfl, hv.le hl⟩
    · rw [if_neg e] at ht ⊢
      obtain ⟨h5, A', c', h6, h7⟩ := h4 t u ht
      exact ⟨h5, A', c', h6, h7.le hl⟩

/-- The evaluator's block. -/
def EvAt (w : World) (bv : Nat) (A : Option Addr) (cap : Nat) (lib : List Fn1) (F : Int) (act : Nat) (tr : Bool) : Prop := Bx w bv #[.slice A lib.length cap, .int .i64 F, .int .i64 act, .bool tr]
/-- The calls made so far: the variable in block bc, a row of the call's own. -/
def CsAt (w : World) (X : Nat → Prop) (bc : Nat) (v : Value) (ts : List Tr) : Prop :=
  Bx w bc #[v] ∧ ∃ cs, w.ownsRow (bc + 1) 98 6 v ts.length cs ∧ RowG (TrC w X) cs ts
theorem CsAt.fr {w w' : World} {X X' : Nat → Prop} {bc : Nat} {v : Value} {ts : List Tr} (h : CsAt w X bc v ts) {m : Nat → Prop} (hf : Fr w w' m) (hbc : ¬ m bc) (hv : ∀ g, v.ownBlock = some g → ¬ m g) (hm : ∀ k, k < w.heap.size → m k → X k) (hX : ∀ k, k < w.heap.size → X' k → X k) : CsAt w' X' bc v ts := by
  obtain ⟨h1, cs, h2, h3⟩ := h
  exact ⟨h1.fr hf hbc, cs, hf.own h2 hv, h3.map (TrC.le (Le.of_fr hf hm hX))⟩
theorem CsAt.own_gt {w : World} {X : Nat → Prop} {bc : Nat} {v : Value} {ts : List Tr} (h : CsAt w X bc v ts) : ∀ g, v.ownBlock = some g → bc + 1 ≤ g ∧ g < w.heap.size := by
  obtain ⟨_, cs, h2, _⟩ := h; exact h2.lt
theorem Bx.one {w : World} {b : Nat} {u0 : Value} (h : Bx w b #[u0]) : w.cell? ⟨b, 0, none⟩ = some u0 ∧ w.frozen? ⟨b, 0, none⟩ = false := ⟨h.cell rfl, h.free 0⟩

/-- The blocks that are not looked at: those of S, and the row of v. -/
def Hd (S : Nat → Prop) (v : Value) (k : Nat) : Prop := S k ∨ v.ownBlock = some k
/-- What an expression may turn. -/
def Mx (bv bc : Nat) (v : Value) (k : Nat) : Prop := k = bv ∨ k = bc ∨ v.ownBlock = some k

end Go.Proofs.YtcoeakdpcigogaaDoor
