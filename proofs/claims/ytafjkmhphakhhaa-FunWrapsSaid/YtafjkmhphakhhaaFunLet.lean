/-
  Contracts of the law's let and bound.
-/
import Derived.Test.YtafjkmhphakhhaaFunWrapM
namespace Go.Proofs.Ytafjkmhphakhhaa
open Go.ChangeShapes Go.WideShapes Go.ChangeAt Go.RowKit Go.Sort

theorem lit_z : (⟨#[122, 122, 122, 122]⟩ : ByteArray).toList = [122, 122, 122, 122] := by decide +kernel

set_option maxRecDepth 100000 in
set_option maxHeartbeats 1000000 in
theorem let_any (n : Nat) : ∀ (x : Nd), SizeOf.sizeOf x ≤ n → NdFit x → ∀ (A : Option Addr) (cap : Nat) (w : World), NdsAt w A x.kids →
    Calls Try.prog 38 #[.agg #[.int .u8 x.kind, .int .i64 x.num, .string x.name, .slice A x.kids.length cap]] w fun e w' => e = .returned (.bool (letT ⟨#[122, 122, 122, 122]⟩ x)) ∧ Below w.heap.size w w' := by
  induction n with
  | zero => intro x hx; exfalso; cases x; simp at hx
  | succ n ih =>
    intro x hx hfit A cap w hK
    obtain ⟨hf1, hf2, hf3, hf4⟩ := hfit.facts
    have hbW := below_box w (Obj.cells #[.int .u8 x.kind, .int .i64 x.num, .string x.name, .slice A x.kids.length cap] 32)
    have bx := ndB_box w 32 x A cap hK
    have HFE := Lib.hid (letT_eq ⟨#[122, 122, 122, 122]⟩ x)
    rw [lit_z] at HFE
    clear hK
    by_cases h84 : x.kind = 84 ∧ (x.name.toList == ([122, 122, 122, 122] : List UInt8)) = true
    · obtain ⟨h1, h2⟩ := h84
      have hR := Lib.hid (show letT ⟨#[122, 122, 122, 122]⟩ x = true by rw [HFE.out, h2]; simp [h1])
      have k84 : ((x.kind : Int) == 84) = true := by rw [h1]; rfl
      clear h1 HFE
      go_enter Try.func38, Try.ntmps38
      go_wp2_with fail
      go_ret
      exact ⟨ret_bool hR.out.symm, hbW⟩
    · have hR := Lib.hid (show letT ⟨#[122, 122, 122, 122]⟩ x = letTL ⟨#[122, 122, 122, 122]⟩ x.kids by
        rw [HFE.out]
        by_cases h1 : x.kind = 84
        · cases h2 : (x.name.toList == ([122, 122, 122, 122] : List UInt8)) with
          | true => exact absurd ⟨h1, h2⟩ h84
          | false => simp
        · simp [h1])
      have hc : ((x.kind : Int) == 84) = false ∨ (((x.kind : Int) == 84) = true ∧ (x.name.toList == ([122, 122, 122, 122] : List UInt8)) = false) := by
        by_cases h1 : x.kind = 84
        · refine .inr ⟨by rw [h1]; rfl, ?_⟩
          cases h2 : (x.name.toList == ([122, 122, 122, 122] : List UInt8)) with
          | true => exact absurd ⟨h1, h2⟩ h84
          | false => rfl
        · exact .inl (beqK (n := 84) h1)
      clear h84 HFE
      rcases hc with k84 | ⟨k84, knm⟩
      all_goals
        go_enter Try.func38, Try.ntmps38
        go_wp2_with fail
        generalize w.alloc _ = W at hbW bx ⊢
        go_loopw [3] (fun i wr => ∃ (k : Nat), k ≤ x.kids.length ∧ i = .int .i64 k ∧ Hid (letT ⟨#[122, 122, 122, 122]⟩ x = letTL ⟨#[122, 122, 122, 122]⟩ (x.kids.drop k)) ∧ Below W.heap.size W wr) (fun i _ => x.kids.length - (intOf i).toNat)
        case atStart => exact ⟨0, by omega, rfl, hR, Below.refl _ _⟩
        case round =>
          obtain ⟨k, hk, rfl, hz, hb⟩ := hrel
          obtain ⟨b0, b1, b2, b3, hK⟩ := bx.mono hb
          have hbw := below_step hbW hbW.size hb
          by_cases hin : k < x.kids.length
          · obtain ⟨b, o, A', cap', rfl, hlt, c0, c1, c2, c3, hK0⟩ := hK.kid hin
            have hget : x.kids[k]? = some x.kids[k] := List.getElem?_eq_getElem hin
            have hz1 := hz.out.trans (letTL_step hin)
            have hfy := hfit.kid hget
            have hszy := Nd.kid_lt hget
            generalize x.kids[k] = y at *
            have HZ1 := Lib.hid hz1
            have HIH := Lib.hid (ih y (by omega) hfy A' cap' wr hK0)
            clear hget hz1 hz
            go_wp2_with fail
            refine HIH.out.mono ?_
            rintro e w5 ⟨rfl, hb5⟩
            have hb6 := below_step hb hb.size hb5
            have hb7 := below_step hbW hbW.size hb6
            clear HIH hb5 b0 b1 b2 b3 c0 c1 c2 c3
            cases hly : letT ⟨#[122, 122, 122, 122]⟩ y with
            | true =>
              rw [hly] at HZ1
              go_wp2_with fail
              go_ret
              exact ⟨ret_bool (by rw [HZ1.out]; rfl), hb7⟩
            | false =>
              rw [hly, Bool.false_or] at HZ1
              go_wp2_with fail
              exact ⟨⟨k + 1, by omega, by go_num, HZ1, hb6⟩, by simp [intOf]; omega⟩
          · have hz' := Lib.hid (show letT ⟨#[122, 122, 122, 122]⟩ x = false by rw [hz.out, List.drop_of_length_le (by omega)]; rfl)
            clear hz
            go_wp2_with fail
            go_ret
            exact ⟨ret_bool hz'.out.symm, hbw⟩

def pmZ (l : List Pm) : Bool := l.any fun p => (p.name.toList == ([122, 122, 122, 122] : List UInt8))
theorem pmZ_step {l : List Pm} {k : Nat} (h : k < l.length) : pmZ (l.drop k) = ((l[k].name.toList == ([122, 122, 122, 122] : List UInt8)) || pmZ (l.drop (k + 1))) := by
  rw [List.drop_eq_getElem_cons h]; rfl
theorem envF_none : ∀ (l : List Pm), pmZ l = false → envF l ⟨#[122, 122, 122, 122]⟩ = none := by
  have key : ∀ (l : List Pm) (env : ByteArray → Option Bool), env ⟨#[122, 122, 122, 122]⟩ = none → pmZ l = false → (l.foldl (fun env p => setE env p.name (some p.list)) env) ⟨#[122, 122, 122, 122]⟩ = none := by
    intro l
    induction l with
    | nil => intro env h _; exact h
    | cons p r ih =>
      intro env h hp
      have hp' : ((p.name.toList == ([122, 122, 122, 122] : List UInt8)) || pmZ r) = false := hp
      rw [Bool.or_eq_false_iff] at hp'
      rw [List.foldl_cons]
      refine ih _ ?_ hp'.2
      rw [setE_other (fun e => ?_)]
      · exact h
      · have := eqS_iff.2 e.symm
        rw [lit_z] at this
        rw [this] at hp'; cases hp'.1
  intro l h
  exact key l _ rfl h

set_option maxRecDepth 100000 in
set_option maxHeartbeats 1000000 in
theorem bound_any (lib : List Fn1) (A : Option Addr) (cap : Nat) (i : Nat) (f : Fn1) (hf : lib[i]? = some f) (x : Nd) (Ak : Option Addr) (ck : Nat) (w : World) (hL : LibAt w A lib) (hF : LibFit lib) (hfit : NdFit x) (hK : NdsAt w Ak x.kids) :
    Calls Try.prog 23 #[.slice A lib.length cap, .int .i64 i, .agg #[.int .u8 x.kind, .int .i64 x.num, .string x.name, .slice Ak x.kids.length ck]] w fun e w' => e = .returned (.bool (pmZ f.params || letT ⟨#[122, 122, 122, 122]⟩ x)) ∧ Below w.heap.size w w' := by
  have hl := hF.1
  have hi : i < lib.length := (List.getElem?_eq_some_iff.1 hf).1
  obtain ⟨hfn, hfp, hfb⟩ := hF.2 i _ hf
  have hpl := hfp.1
  have hbW := below_box w (Obj.cells #[.int .u8 x.kind, .int .i64 x.num, .string x.name, .slice Ak x.kids.length ck] 32)
  have bx := ndB_box w 32 x Ak ck hK
  obtain ⟨b, o, rfl, hfo⟩ := hL i f hf
  have hlt := hfo.lt
  obtain ⟨c0, ⟨A1, cp1, c1, hps⟩, c2, hbody⟩ := hfo
  have HPS := Lib.hid (hps.mono hbW)
  clear c0 c2 hbody hps hK hL
  have r1 : (0 : Int) ≤ i := by omega
  have r2 : (i : Int) < lib.length := by omega
  generalize f.params = ps at *
  go_enter Try.func23, Try.ntmps23
  go_wp2_with fail
  generalize w.alloc _ = W at hbW bx HPS ⊢
  go_loopw [15] (fun i wr => ∃ (k : Nat), k ≤ ps.length ∧ i = .int .i64 k ∧ Hid (pmZ ps = pmZ (ps.drop k)) ∧ Below W.heap.size W wr) (fun i _ => ps.length - (intOf i).toNat)
  case atStart => exact ⟨0, by omega, rfl, rfl, Below.refl _ _⟩
  case round =>
    obtain ⟨k, hk, rfl, hz, hb⟩ := hrel
    have hbw := below_step hbW hbW.size hb
    by_cases hin : k < ps.length
    · obtain ⟨b1, o1, rfl, d0, d1⟩ := (HPS.out.mono hb).at_ hin
      have hz1 := Lib.hid (hz.out.trans (pmZ_step hin))
      generalize ps[k] = p at *
      have hlt2 := block_lt_of_cell d0
      have hb6 := hb.alloc hb.size (Obj.cells #[.string p.name, .bool p.list] 65)
      have hb7 := below_step hbW hbW.size hb6
      clear hz
      cases hpz : (p.name.toList == ([122, 122, 122, 122] : List UInt8)) with
      | true =>
        rw [hpz] at hz1
        go_wp2_with fail
        go_ret
        exact ⟨ret_bool (by rw [hz1.out]; rfl), hb7⟩
      | false =>
        rw [hpz, Bool.false_or] at hz1
        go_wp2_with fail
        exact ⟨⟨k + 1, by omega, by go_num, hz1, hb6⟩, by simp [intOf]; omega⟩
    · have hz' := Lib.hid (show pmZ ps = false by rw [hz.out, List.drop_of_length_le (by omega)]; rfl)
      obtain ⟨b0, b1, b2, b3, hK⟩ := bx.mono hb
      have HK := Lib.hid hK
      clear hz hK
      go_wp2_with fail
      refine (let_any _ x (Nat.le_refl _) hfit Ak ck wr HK.out).mono ?_
      rintro e w5 ⟨rfl, hb5⟩
      go_wp2_with fail
      go_ret
      exact ⟨ret_bool (by rw [hz'.out]; rfl), below_step hbw hbw.size hb5⟩

end Go.Proofs.Ytafjkmhphakhhaa
