/-
  The contracts of fun.function, fun.Valid and fun.Type.
  The contracts of fun.Valid and fun.Type.
-/
import Derived.Test.YtcoeakdpcigogaaDoorFunChk2
import Derived.Lib.QuietBelow
namespace Go.Proofs.YtcoeakdpcigogaaDoor
open Go.ChangeShapes Go.WideShapes Go.ChangeAt Go.RowKit Go.Sort

/-- No function has very many nodes. -/
def FewNodes (lib : List Fn1) : Prop := ∀ (k : Nat) (f : Fn1), lib[k]? = some f → sizeT f.body ≤ 500000

/-- The first error of a function, from the check of its body on. -/
def chkE (lib : List Fn1) (f : Fn1) : Int :=
  if (chkT lib f.body (envF f.params)).2 ≠ 0 then (chkT lib f.body (envF f.params)).2 else if (chkT lib f.body (envF f.params)).1 ≠ f.list then 7 else 0
/-- The first error of a function. -/
noncomputable def oneE (lib : List Fn1) (i : Nat) (f : Fn1) : Int :=
  if 30 ≤ i then 5 else if nameB f.name = false then 3 else if findF lib f.name 0 < i then 22 else if paramE f.params ≠ 0 then paramE f.params
  else if formT f.body = false then 3 else if 80 < depT f.body then 19 else if 2000 < sizeT f.body then 5 else chkE lib f

theorem paramE_zero {l : List Pm} (h : paramE l = 0) : l.length ≤ 8 := by
  unfold paramE at h
  by_cases h8 : 8 < l.length
  · rw [if_pos h8] at h; cases h
  · omega

/-- A function in a box of its own. -/
structure FnB (w : World) (b : Nat) (f : Fn1) (A1 : Option Addr) (c1 : Nat) (A3 : Option Addr) (c3 : Nat) : Prop where
  b0 : w.cell? ⟨b, 0, none⟩ = some (.string f.name)
  b1 : w.cell? ⟨b, 1, none⟩ = some (.slice A1 f.params.length c1)
  b2 : w.cell? ⟨b, 2, none⟩ = some (.bool f.list)
  b3 : w.cell? ⟨b, 3, none⟩ = some (.int .u8 f.body.kind)
  b4 : w.cell? ⟨b, 4, none⟩ = some (.int .i64 f.body.num)
  b5 : w.cell? ⟨b, 5, none⟩ = some (.string f.body.name)
  b6 : w.cell? ⟨b, 6, none⟩ = some (.slice A3 f.body.kids.length c3)
  ps : PmsAt w A1 f.params
  ks : NdsAt w A3 f.body.kids
theorem FnB.mono {w w' : World} {b : Nat} {f : Fn1} {A1 A3 : Option Addr} {c1 c3 : Nat} (h : FnB w b f A1 c1 A3 c3) (hb : Below w.heap.size w w') : FnB w' b f A1 c1 A3 c3 :=
  ⟨below_cell hb h.b0, below_cell hb h.b1, below_cell hb h.b2, below_cell hb h.b3, below_cell hb h.b4, below_cell hb h.b5, below_cell hb h.b6, h.ps.mono hb, h.ks.mono hb⟩
theorem fnB_box (w : World) (T : TypeId) (f : Fn1) (A1 : Option Addr) (c1 : Nat) (A3 : Option Addr) (c3 : Nat) (hp : PmsAt w A1 f.params) (hk : NdsAt w A3 f.body.kids) : FnB (w.alloc (Obj.cells #[.string f.name, .slice A1 f.params.length c1, .bool f.list, .int .u8 f.body.kind, .int .i64 f.body.num, .string f.body.name, .slice A3 f.body.kids.length c3] T)) w.heap.size f A1 c1 A3 c3 := by
  refine ⟨?_, ?_, ?_, ?_, ?_, ?_, ?_, hp.mono (below_box _ _), hk.mono (below_box _ _)⟩ <;> simp [go_sem]

set_option maxRecDepth 100000 in
set_option maxHeartbeats 2000000 in
theorem function_any (lib : List Fn1) (A : Option Addr) (cap : Nat) (i : Nat) (hi : i < lib.length) (w : World) (hL : LibAt w A lib) (hF : LibFit lib) (hP : FewParams lib) (hN : FewNodes lib) :
    Calls Tryd.prog 28 #[.slice A lib.length cap, .int .i64 i] w fun e w' => e = .returned (.int .i64 (oneE lib i lib[i])) ∧ Below w.heap.size w w' := by
  have hl := hF.1
  have HL := Lib.hid hL
  obtain ⟨b, o, rfl, hfo⟩ := hL.at_ hi
  have hget : lib[i]? = some lib[i] := List.getElem?_eq_getElem hi
  obtain ⟨hfn, hfp, hfb⟩ := hF.2 i _ hget
  have hnn := hN i _ hget
  generalize lib[i] = f at *
  clear hget hL
  have hlt := hfo.lt
  obtain ⟨c0, ⟨A1, cp1, c1, hps⟩, c2, hbody⟩ := hfo
  obtain ⟨A3, cp3, d0, d1, d2, d3, hks⟩ := hbody.open_
  have bx := fnB_box w 55 f A1 cp1 A3 cp3 hps hks
  have hb := below_box w (Obj.cells #[.string f.name, .slice A1 f.params.length cp1, .bool f.list, .int .u8 f.body.kind, .int .i64 f.body.num, .string f.body.name, .slice A3 f.body.kids.length cp3] 55)
  have HE := Lib.hid (oneE.eq_def lib i f)
  clear hps hks hbody
  have r1 : (0 : Int) ≤ i := by omega
  have r2 : (i : Int) < lib.length := by omega
  by_cases h30 : 30 ≤ i
  · rw [if_pos h30] at HE
    go_enter Tryd.func28, Tryd.ntmps28
    go_wp2_with fail
    go_ret
    exact ⟨ret_i64 HE.out.symm, hb⟩
  rw [if_neg h30] at HE
  go_enter Tryd.func28, Tryd.ntmps28
  go_wp2_with fail
  clear c0 c1 c2 d0 d1 d2 d3
  generalize w.alloc _ = W at bx hb ⊢
  refine (isName_any f.name _ hfn).mono ?_
  rintro e w1 ⟨rfl, hb1⟩
  have bx1 := bx.mono hb1
  have q1 := below_step hb hb.size hb1
  clear bx hb hb1
  obtain ⟨b0, b1, b2, b3, b4, b5, b6, _, _⟩ := id bx1
  cases hnm : nameB f.name with
  | false =>
    rw [if_pos hnm] at HE
    go_wp2_with fail
    go_ret
    exact ⟨ret_i64 HE.out.symm, q1⟩
  | true =>
  rw [if_neg (by rw [hnm]; simp)] at HE
  go_wp2_with fail
  refine (find_any lib _ cap f.name _ (HL.out.mono q1) hl).mono ?_
  rintro e w2 ⟨rfl, hb2⟩
  have bx2 := bx1.mono hb2
  have q2 := below_step q1 q1.size hb2
  clear bx1 q1 hb2 b0 b1 b2 b3 b4 b5 b6
  obtain ⟨b0, b1, b2, b3, b4, b5, b6, _, _⟩ := id bx2
  by_cases hfi : findF lib f.name 0 < i
  · rw [if_pos hfi] at HE
    go_wp2_with fail
    go_ret
    exact ⟨ret_i64 HE.out.symm, q2⟩
  rw [if_neg hfi] at HE
  go_wp2_with fail
  refine (parameters_any f.params A1 cp1 _ bx2.ps hfp).mono ?_
  rintro e w3 ⟨rfl, hb3⟩
  have bx3 := bx2.mono hb3
  have q3 := below_step q2 q2.size hb3
  clear bx2 q2 hb3 b0 b1 b2 b3 b4 b5 b6
  obtain ⟨b0, b1, b2, b3, b4, b5, b6, _, _⟩ := id bx3
  by_cases hpe : paramE f.params = 0
  rotate_left
  · rw [if_pos hpe] at HE
    have hpe' : (paramE f.params != 0) = true := by simpa using hpe
    go_wp2_with fail
    go_ret
    exact ⟨ret_i64 HE.out.symm, q3⟩
  have h8 := paramE_zero hpe
  rw [if_neg (fun h => h hpe)] at HE
  rw [hpe]
  go_wp2_with fail
  refine (formed_any _ f.body (Nat.le_refl _) hfb A3 cp3 _ bx3.ks).mono ?_
  rintro e w4 ⟨rfl, hb4⟩
  have bx4 := bx3.mono hb4
  have q4 := below_step q3 q3.size hb4
  clear bx3 q3 hb4 b0 b1 b2 b3 b4 b5 b6
  obtain ⟨b0, b1, b2, b3, b4, b5, b6, _, _⟩ := id bx4
  cases hfo : formT f.body with
  | false =>
    rw [if_pos hfo] at HE
    go_wp2_with fail
    go_ret
    exact ⟨ret_i64 HE.out.symm, q4⟩
  | true =>
  rw [if_neg (by rw [hfo]; simp)] at HE
  go_wp2_with fail
  refine (measure_any _ f.body (Nat.le_refl _) hfb (by omega) A3 cp3 _ bx4.ks).mono ?_
  rintro e w5 ⟨rfl, hb5⟩
  have bx5 := bx4.mono hb5
  have q5 := below_step q4 q4.size hb5
  clear bx4 q4 hb5 b0 b1 b2 b3 b4 b5 b6
  obtain ⟨b0, b1, b2, b3, b4, b5, b6, _, _⟩ := id bx5
  by_cases h80 : 80 < depT f.body
  · rw [if_pos h80] at HE
    go_wp2_with fail
    go_ret
    exact ⟨ret_i64 HE.out.symm, q5⟩
  rw [if_neg h80] at HE
  by_cases h2k : 2000 < sizeT f.body
  · rw [if_pos h2k] at HE
    go_wp2_with fail
    go_ret
    exact ⟨ret_i64 HE.out.symm, q5⟩
  rw [if_neg h2k] at HE
  go_wp2_with fail
  refine (check_any lib _ cap f.params A1 cp1 f.body A3 cp3 _ (HL.out.mono q5) hF hP bx5.ps hfp hfb hfo bx5.ks (by omega)).mono ?_
  rintro e w6 ⟨rfl, hb6⟩
  have bx6 := bx5.mono hb6
  have q6 := below_step q5 q5.size hb6
  clear bx5 q5 hb6 b0 b1 b2 b3 b4 b5 b6
  obtain ⟨b0, b1, b2, b3, b4, b5, b6, _, _⟩ := id bx6
  have HE2 := Lib.hid (HE.out.trans (chkE.eq_def lib f))
  clear HE
  by_cases her : (chkT lib f.body (envF f.params)).2 = 0
  rotate_left
  · rw [if_pos her] at HE2
    have her' : ((chkT lib f.body (envF f.params)).2 != 0) = true := by simpa using her
    go_wp2_with fail
    go_ret
    exact ⟨ret_i64 HE2.out.symm, q6⟩
  rw [if_neg (fun h => h her)] at HE2
  rw [her]
  clear bx6
  generalize (chkT lib f.body (envF f.params)).1 = t1 at *
  generalize f.list = fl at *
  cases t1 <;> cases fl
  all_goals
    go_wp2_with fail
    go_ret
    exact ⟨ret_i64 (by rw [HE2.out]; rfl), q6⟩

end Go.Proofs.YtcoeakdpcigogaaDoor

namespace Go.Proofs.YtcoeakdpcigogaaDoor
open Go.ChangeShapes Go.WideShapes Go.ChangeAt Go.RowKit Go.Sort

/-- The first error from index k on, over n indices. -/
def vldL (E : Nat → Int) : Nat → Nat → Int × Int
  | 0, _ => (-1, 0)
  | n + 1, k => if E k ≠ 0 then (k, E k) else vldL E n (k + 1)
noncomputable def oneK (lib : List Fn1) (k : Nat) : Int := match lib[k]? with | some f => oneE lib k f | none => 0
noncomputable def validR (lib : List Fn1) : Int × Int := vldL (oneK lib) lib.length 0
theorem oneK_at {lib : List Fn1} {k : Nat} (h : k < lib.length) : oneE lib k lib[k] = oneK lib k := by
  unfold oneK; rw [List.getElem?_eq_getElem h]
theorem vldL_step {E : Nat → Int} {n k : Nat} (h : k < n) : vldL E (n - k) k = if E k ≠ 0 then ((k : Int), E k) else vldL E (n - (k + 1)) (k + 1) := by
  have : n - k = (n - (k + 1)) + 1 := by omega
  rw [this, vldL]

set_option maxRecDepth 100000 in
set_option maxHeartbeats 1000000 in
theorem valid_any (lib : List Fn1) (A : Option Addr) (cap : Nat) (w : World) (hL : LibAt w A lib) (hF : LibFit lib) (hP : FewParams lib) (hN : FewNodes lib) :
    Calls Tryd.prog 12 #[.slice A lib.length cap] w fun e w' => e = .returned (.tuple #[.int .i64 (validR lib).1, .int .i64 (validR lib).2]) ∧ Below w.heap.size w w' := by
  have hl := hF.1
  have HL := Lib.hid hL
  clear hL
  go_enter Tryd.func12, Tryd.ntmps12
  go_wp2_with fail
  go_loopw [8] (fun i wr => ∃ k : Nat, k ≤ lib.length ∧ i = .int .i64 k ∧ Hid (validR lib = vldL (oneK lib) (lib.length - k) k) ∧ Below w.heap.size w wr) (fun i _ => lib.length - (intOf i).toNat)
  case atStart => exact ⟨0, by omega, rfl, rfl, Below.refl _ _⟩
  case round =>
    obtain ⟨k, hk, rfl, hz, hb⟩ := hrel
    by_cases hin : k < lib.length
    · have hz' := Lib.hid (hz.out.trans (vldL_step hin))
      have hfc := function_any lib A cap k hin wr (HL.out.mono hb) hF hP hN
      rw [oneK_at hin] at hfc
      have HFC := Lib.hid hfc
      clear hz hfc
      go_wp2_with fail
      refine HFC.out.mono ?_
      rintro e w1 ⟨rfl, hb1⟩
      have q1 := below_step hb hb.size hb1
      clear HFC hb hb1
      by_cases he : oneK lib k = 0
      · rw [if_neg (fun h => h he)] at hz'
        have he' : (oneK lib k != 0) = false := by rw [he]; rfl
        generalize oneK lib k = ek at *
        clear he
        go_wp2_with fail
        exact ⟨⟨k + 1, by omega, by go_num, hz', q1⟩, by simp [intOf]; omega⟩
      · rw [if_pos he] at hz'
        have he' : (oneK lib k != 0) = true := by simpa using he
        generalize oneK lib k = ek at *
        go_wp2_with fail
        go_ret2
        exact ⟨by rw [hz'.out]; rfl, q1⟩
    · have hz' := Lib.hid (show validR lib = (-1, 0) by rw [hz.out, show lib.length - k = 0 by omega]; rfl)
      clear hz
      go_wp2_with fail
      go_ret2
      exact ⟨by rw [hz'.out]; rfl, hb⟩

end Go.Proofs.YtcoeakdpcigogaaDoor
