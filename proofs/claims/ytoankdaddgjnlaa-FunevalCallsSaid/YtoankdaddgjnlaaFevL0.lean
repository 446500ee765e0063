/-
  What the laws of this package share.
-/
import Derived.Test.YtoankdaddgjnlaaFevCall2
import Derived.Test.YtoankdaddgjnlaaFevGreat
import Derived.Test.YtoankdaddgjnlaaFevAwake
import Derived.Test.YtoankdaddgjnlaaFevFuel
import Derived.Test.YtoankdaddgjnlaaFunEq
import Derived.WalkLawsBesides
namespace Go.Proofs.Ytoankdaddgjnlaa
open Go.ChangeShapes Go.WideShapes Go.ChangeAt Go.RowKit Go.Sort Go.Maps

/-- The value and the error of a call. -/
def OutT.val : OutT → Vl
  | .err _ => ⟨false, 0, []⟩
  | .ok t _ => t.res
def OutT.code : OutT → Int
  | .err e => e
  | .ok _ _ => 0

def RetV (o : OutT) (w : World) (e : Ending) (w' : World) : Prop :=
  Below w.heap.size w w' ∧ o.val.l.length ≤ 1000000 ∧ ((∃ t f, o = .ok t f) ∨ o.code ≠ 0) ∧ ∃ A c, IntsC w' (fun k => k < w.heap.size) A c o.val.l ∧ e = .returned (.tuple #[.agg #[.bool o.val.list, .int .i64 o.val.n, .slice A o.val.l.length c], .int .i64 o.code])
theorem RetCall.v {o : OutT} {w w' : World} {e : Ending} (h : RetCall o w e w') : RetV o w e w' := by
  obtain ⟨h1, h2⟩ := h
  rcases h2 with ⟨n, rfl, hn, rfl⟩ | ⟨t, f, rfl, hl, A, c, hi, rfl⟩
  · exact ⟨h1, by simp [OutT.val], .inr hn, none, 0, IntsC.nil _ _ _ _, rfl⟩
  · exact ⟨h1, hl, .inl ⟨t, f, rfl⟩, A, c, hi, rfl⟩

theorem SmallV.fp {lib : List Fn1} {args : List Vl} (h : SmallV lib args) : FewParams lib := fun k f hk => by have := (h.f k f hk).1; omega
theorem SmallV.fn {lib : List Fn1} {args : List Vl} (h : SmallV lib args) : FewNodes lib := fun k f hk => by have := (h.f k f hk).2; omega
theorem SmallV.vl {lib : List Fn1} {args : List Vl} (h : SmallV lib args) : ∀ v ∈ args, v.l.length ≤ 1000000 := fun v hv => by
  obtain ⟨k, hk⟩ := List.getElem?_of_mem hv
  have := h.v k v hk; omega
theorem SmallV.al {lib : List Fn1} {args : List Vl} (h : SmallV lib args) : args.length ≤ 1000000 := by have := h.a; omega
theorem VlsX.mono {w w' : World} {A : Option Addr} {l : List Vl} (h : VlsX w (fun _ => False) A l) (hb : Below w.heap.size w w') : VlsX w' (fun _ => False) A l :=
  h.le (Le.of_fr (X' := fun _ => False) (Fr.of_below hb (fun _ => False)) (fun _ _ e => e) fun _ _ e => e)
theorem eqV_refl (x : Vl) : eqV x x = true := by unfold eqV; simp

/-- The contract of Call, with the outcome as a letter of the fuel. -/
theorem call_v (lib : List Fn1) (A : Option Addr) (cap : Nat) (name : ByteArray) (args : List Vl) (Aa : Option Addr) (ca : Nat) (sh : Int → OutT) (hsh : sh = startR lib name args) (F : Int) (w : World) (hL : LibAt w A lib) (hF : LibFit lib) (hs : SmallV lib args) (hV : VlsX w (fun _ => False) Aa args) (hFu : F ≤ 900000) :
    Calls Try.prog 6 #[.slice A lib.length cap, .string name, .slice Aa args.length ca, .int .i64 F] w (RetV (sh F) w) := by
  subst hsh
  exact (evcall_any lib A cap name args Aa ca F w hL hF hs.fp hs.fn hV hs.vl hs.al hFu).mono fun _ _ => RetCall.v

/-- With more fuel a call is the same, or its fuel had run out. -/
theorem startR_sh (lib : List Fn1) (name : ByteArray) (args : List Vl) {a b : Int} (h : a ≤ b) : startR lib name args a = .err 18 ∨ ((startR lib name args a).code = (startR lib name args b).code ∧ (startR lib name args a).val = (startR lib name args b).val) := by
  unfold startR
  split
  · exact .inr ⟨rfl, rfl⟩
  split
  · exact .inr ⟨rfl, rfl⟩
  split
  · exact .inr ⟨rfl, rfl⟩
  split
  · exact .inr ⟨rfl, rfl⟩
  split
  · exact .inr ⟨rfl, rfl⟩
  split
  · exact .inr ⟨rfl, rfl⟩
  obtain ⟨k, hk⟩ : ∃ k, b.toNat = a.toNat + k := ⟨b.toNat - a.toNat, by omega⟩
  rw [hk]
  have hs := enter_sh (lib := lib) (k := k) (n := a.toNat) (fun a1 env x f hf => ev_sh apR lib k a.toNat (a.toNat + k) a1 env x f (by omega)) 0 (findF lib name 0) args a.toNat (Nat.le_refl _)
  generalize enter lib (ev apR lib a.toNat) 0 (findF lib name 0) args a.toNat = o at *
  generalize enter lib (ev apR lib (a.toNat + k)) 0 (findF lib name 0) args (a.toNat + k) = o' at *
  cases o with
  | err e =>
    rcases hs with hs | hs
    · left; cases hs; rfl
    · right
      cases o' with
      | err e' => cases hs; exact ⟨rfl, rfl⟩
      | ok t f => cases hs
  | ok t f =>
    rcases hs with hs | hs
    · cases hs
    · right
      cases o' with
      | err e' => cases hs
      | ok t' f' =>
        simp only [OutT.out, Out.add] at hs
        have := (Out.ok.inj hs).2.2
        simp only [List.cons.injEq, and_true] at this
        subst this
        exact ⟨rfl, rfl⟩

theorem startR_ok {lib : List Fn1} {name : ByteArray} {args : List Vl} {G : Int} {t : Tr} {f : Nat} (h : startR lib name args G = .ok t f) (F : Int) : startR lib name args F = enter lib (ev apR lib F.toNat) 0 (findF lib name 0) args F.toNat := by
  unfold startR at h ⊢
  split at h
  · cases h
  rename_i h1; rw [if_neg h1]
  split at h
  · cases h
  rename_i h2; rw [if_neg h2]
  split at h
  · cases h
  rename_i fn hfn
  split at h
  · cases h
  rename_i h3; rw [if_neg h3]
  split at h
  · cases h
  rename_i h4; rw [if_neg h4]
  split at h
  · cases h
  rename_i h5; rw [if_neg h5]
/-- More fuel: the same outcome, tree and all, or it had run out. -/
theorem startR_tree {lib : List Fn1} {name : ByteArray} {args : List Vl} {G : Int} {t : Tr} {f : Nat} (h : startR lib name args G = .ok t f) {a b : Int} (hab : a ≤ b) : startR lib name args a = .err 18 ∨ (∀ t f, startR lib name args a = .ok t f → ∃ f', startR lib name args b = .ok t f') ∧ (∀ e, startR lib name args a = .err e → startR lib name args b = .err e) := by
  rw [startR_ok h a, startR_ok h b]
  obtain ⟨k, hk⟩ : ∃ k, b.toNat = a.toNat + k := ⟨b.toNat - a.toNat, by omega⟩
  rw [hk]
  have hs := enter_sh (lib := lib) (k := k) (n := a.toNat) (fun a1 env x f hf => ev_sh apR lib k a.toNat (a.toNat + k) a1 env x f (by omega)) 0 (findF lib name 0) args a.toNat (Nat.le_refl _)
  generalize enter lib (ev apR lib a.toNat) 0 (findF lib name 0) args a.toNat = o at *
  generalize enter lib (ev apR lib (a.toNat + k)) 0 (findF lib name 0) args (a.toNat + k) = o' at *
  cases o with
  | err e =>
    rcases hs with hs | hs
    · left; cases hs; rfl
    · right
      cases o' with
      | err e' => cases hs; exact ⟨fun _ _ e => (by cases e), fun _ e => e⟩
      | ok t f => cases hs
  | ok t f =>
    rcases hs with hs | hs
    · cases hs
    · right
      cases o' with
      | err e' => cases hs
      | ok t' f' =>
        simp only [OutT.out, Out.add] at hs
        have := (Out.ok.inj hs).2.2
        simp only [List.cons.injEq, and_true] at this
        subst this
        exact ⟨fun _ _ e => (by cases e; exact ⟨_, rfl⟩), fun _ e => (by cases e)⟩

end Go.Proofs.Ytoankdaddgjnlaa
