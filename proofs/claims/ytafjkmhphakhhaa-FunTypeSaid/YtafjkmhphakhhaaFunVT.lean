/-
  The contracts of fun.Valid and fun.Type.
-/
import Derived.Test.YtafjkmhphakhhaaFunValid
import Derived.Lib.QuietBelow
namespace Go.Proofs.Ytafjkmhphakhhaa
open Go.ChangeShapes Go.WideShapes Go.ChangeAt Go.RowKit Go.Sort

/-- The first error from index k on, over n indices. -/
def vldL (E : Nat → Int) : Nat → Nat → Int × Int
  | 0, _ => (-1, 0)
  | n + 1, k => if E k ≠ 0 then (k, E k) else vldL E n (k + 1)
noncomputable def oneK (lib : List Fn1) (k : Nat) : Int := match lib[k]? with | some f => oneE lib k f | none => 0
noncomputable def validR (lib : List Fn1) : Int × Int := vldL (oneK lib) lib.length 0
theorem oneK_at {lib : List Fn1} {k : Nat} (h : k < lib.length) : oneE lib k lib[k] = oneK lib k := by
  unfold oneK; rw [List.getElem?_eq_getElem h]
theorem vldL_step {E : Nat → Int} {n k : Nat} (h : k < n) : vldL E (n - k) k = if E k ≠ 0 then ((k : Int), E k) else vldL E (n - (k + 1)) (k + 1) := by
  have : n - k = (n - (k + 1)) + 1 := by omega
  rw [this, vldL]

set_option maxRecDepth 100000 in
set_option maxHeartbeats 1000000 in
theorem valid_any (lib : List Fn1) (A : Option Addr) (cap : Nat) (w : World) (hL : LibAt w A lib) (hF : LibFit lib) (hP : FewParams lib) (hN : FewNodes lib) :
    Calls Try.prog 13 #[.slice A lib.length cap] w fun e w' => e = .returned (.tuple #[.int .i64 (validR lib).1, .int .i64 (validR lib).2]) ∧ Below w.heap.size w w' := by
  have hl := hF.1
  have HL := Lib.hid hL
  clear hL
  go_enter Try.func13, Try.ntmps13
  go_wp2_with fail
  go_loopw [8] (fun i wr => ∃ k : Nat, k ≤ lib.length ∧ i = .int .i64 k ∧ Hid (validR lib = vldL (oneK lib) (lib.length - k) k) ∧ Below w.heap.size w wr) (fun i _ => lib.length - (intOf i).toNat)
  case atStart => exact ⟨0, by omega, rfl, rfl, Below.refl _ _⟩
  case round =>
    obtain ⟨k, hk, rfl, hz, hb⟩ := hrel
    by_cases hin : k < lib.length
    · have hz' := Lib.hid (hz.out.trans (vldL_step hin))
      have hfc := function_any lib A cap k hin wr (HL.out.mono hb) hF hP hN
      rw [oneK_at hin] at hfc
      have HFC := Lib.hid hfc
      clear hz hfc
      go_wp2_with fail
      refine HFC.out.mono ?_
      rintro e w1 ⟨rfl, hb1⟩
      have q1 := below_step hb hb.size hb1
      clear HFC hb hb1
      by_cases he : oneK lib k = 0
      · rw [if_neg (fun h => h he)] at hz'
        have he' : (oneK lib k != 0) = false := by rw [he]; rfl
        generalize oneK lib k = ek at *
        clear he
        go_wp2_with fail
        exact ⟨⟨k + 1, by omega, by go_num, hz', q1⟩, by simp [intOf]; omega⟩
      · rw [if_pos he] at hz'
        have he' : (oneK lib k != 0) = true := by simpa using he
        generalize oneK lib k = ek at *
        go_wp2_with fail
        go_ret2
        exact ⟨by rw [hz'.out]; rfl, q1⟩
    · have hz' := Lib.hid (show validR lib = (-1, 0) by rw [hz.out, show lib.length - k = 0 by omega]; rfl)
      clear hz
      go_wp2_with fail
      go_ret2
      exact ⟨by rw [hz'.out]; rfl, hb⟩

def typeR (lib : List Fn1) (f : Int) (x : Nd) : Bool × Int :=
  if f < 0 ∨ (lib.length : Int) ≤ f then (false, 2) else if formT x = false then (false, 3)
  else match lib[f.toNat]? with | some g => chkT lib x (envF g.params) | none => (false, 0)

set_option maxRecDepth 100000 in
set_option maxHeartbeats 1000000 in
theorem type_any (lib : List Fn1) (A : Option Addr) (cap : Nat) (f : Int) (x : Nd) (Ak : Option Addr) (ck : Nat) (w : World) (hL : LibAt w A lib) (hF : LibFit lib) (hP : FewParams lib) (hfit : NdFit x) (hK : NdsAt w Ak x.kids) (hn : sizeT x ≤ 500000) :
    Calls Try.prog 16 #[.slice A lib.length cap, .int .i64 f, .agg #[.int .u8 x.kind, .int .i64 x.num, .string x.name, .slice Ak x.kids.length ck]] w fun e w' => e = .returned (.tuple #[.bool (typeR lib f x).1, .int .i64 (typeR lib f x).2]) ∧ Below w.heap.size w w' := by
  have hl := hF.1
  have HE := Lib.hid (typeR.eq_def lib f x)
  have hbW := below_box w (Obj.cells #[.int .u8 x.kind, .int .i64 x.num, .string x.name, .slice Ak x.kids.length ck] 32)
  have bx := ndB_box w 32 x Ak ck hK
  by_cases hr : f < 0 ∨ (lib.length : Int) ≤ f
  · rw [if_pos hr] at HE
    rcases hr with h0 | h1
    · go_enter Try.func16, Try.ntmps16
      go_wp2_with fail
      go_ret2
      exact ⟨by rw [HE.out]; rfl, hbW⟩
    · have h0 : ¬ f < 0 := by omega
      go_enter Try.func16, Try.ntmps16
      go_wp2_with fail
      go_ret2
      exact ⟨by rw [HE.out]; rfl, hbW⟩
  rw [if_neg hr] at HE
  have h0 : ¬ f < 0 := by omega
  have h1 : ¬ (lib.length : Int) ≤ f := by omega
  obtain ⟨i, rfl⟩ : ∃ i : Nat, f = i := ⟨f.toNat, by omega⟩
  have hi : i < lib.length := by omega
  clear hr
  obtain ⟨b, o, rfl, hfo⟩ := hL.at_ hi
  have hget : lib[i]? = some lib[i] := List.getElem?_eq_getElem hi
  obtain ⟨hfn, hfp, hfb⟩ := hF.2 i _ hget
  have hpp := hP i _ hget
  rw [Int.toNat_natCast, hget] at HE
  generalize lib[i] = g at *
  clear hget
  have hlt := hfo.lt
  obtain ⟨c0, ⟨A1, cp1, c1, hps⟩, c2, hbody⟩ := hfo
  have r1 : (0 : Int) ≤ i := by omega
  have r2 : (i : Int) < lib.length := by omega
  have HL := Lib.hid hL
  have HPS := Lib.hid hps
  have hc1 := Lib.hid c1
  clear hL hK hps hbody c0 c2 c1
  go_enter Try.func16, Try.ntmps16
  go_wp2_with fail
  generalize w.alloc _ = W at hbW bx ⊢
  refine (formed_any _ x (Nat.le_refl _) hfit Ak ck _ bx.kids).mono ?_
  rintro e w1 ⟨rfl, hb1⟩
  have bx1 := bx.mono hb1
  have q1 := below_step hbW hbW.size hb1
  clear bx hbW hb1
  obtain ⟨b0, b1, b2, b3, _⟩ := id bx1
  cases hfo : formT x with
  | false =>
    rw [if_pos hfo] at HE
    go_wp2_with fail
    go_ret2
    exact ⟨by rw [HE.out]; rfl, q1⟩
  | true =>
  rw [if_neg (by rw [hfo]; simp)] at HE
  have c1 := below_cell q1 hc1.out
  have hlt1 : b < w1.heap.size := block_lt_of_cell c1
  go_wp2_with fail
  have e1 := cell_regrown c1
  have e2 := cell_regrown b0
  have e3 := cell_regrown b1
  have e4 := cell_regrown b2
  have e5 := cell_regrown b3
  refine wp_region_quiet_below (by kernel_rfl) (by kernel_rfl) ?_
  repeat (first | go_big_quiet_step ((go_at_call 33; exact Calls.regrown_of (check_any lib _ cap g.params A1 cp1 x Ak ck _ (HL.out.mono (below_step q1 q1.size (below_regrown _ _ _))) hF hP (HPS.out.mono (below_step q1 q1.size (below_regrown _ _ _))) hfp hfit hfo (bx1.kids.mono (below_regrown _ _ _)) (by omega)))) | quiet_step ((go_at_call 33; exact Calls.regrown_of (check_any lib _ cap g.params A1 cp1 x Ak ck _ (HL.out.mono (below_step q1 q1.size (below_regrown _ _ _))) hF hP (HPS.out.mono (below_step q1 q1.size (below_regrown _ _ _))) hfp hfit hfo (bx1.kids.mono (below_regrown _ _ _)) (by omega)))))
  refine wpQuiet_nil ?_
  intro w2 hw'
  obtain ⟨⟨dq, osq⟩, hw''⟩ := hw'
  have hb2 := below_regrown w1 dq osq
  rw [← hw''] at hb2
  clear hw''
  go_wp2_with fail
  go_ret2
  exact ⟨by rw [HE.out]; rfl, below_step q1 q1.size hb2⟩

end Go.Proofs.Ytafjkmhphakhhaa
