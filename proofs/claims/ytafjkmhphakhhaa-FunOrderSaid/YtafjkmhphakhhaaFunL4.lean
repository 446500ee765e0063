/-
  The walk of the law FunOrder.
-/
import Derived.Test.YtafjkmhphakhhaaFunAwake
import Derived.Test.YtafjkmhphakhhaaFunRow
import Derived.Test.YtafjkmhphakhhaaFunRot
import Derived.Deep.RegionHeld3
import Derived.IntWalk
namespace Go.Proofs.Ytafjkmhphakhhaa
open Go.ChangeShapes Go.WideShapes Go.ChangeAt Go.RowKit Go.Sort

theorem LibAt.drop {w : World} {b o : Nat} {l : List Fn1} (h : LibAt w (some ⟨b, o, none⟩) l) (k : Nat) : LibAt w (some ⟨b, o + k * 7, none⟩) (l.drop k) := fun j f hj => by
  rw [List.getElem?_drop] at hj
  obtain ⟨b', o', e, hf⟩ := h _ f hj
  simp at e
  obtain ⟨rfl, rfl⟩ := e
  refine ⟨b, o + k * 7, rfl, ?_⟩
  rw [show o + k * 7 + j * 7 = o + (k + j) * 7 by omega]; exact hf
theorem LibAt.take {w : World} {A : Option Addr} {l : List Fn1} (h : LibAt w A l) (k : Nat) : LibAt w A (l.take k) := fun j f hj => by
  have : j < k := by have := (List.getElem?_eq_some_iff.1 hj).1; simp at this; omega
  rw [List.getElem?_take_of_lt this] at hj
  exact h j f hj
mutual
theorem callsT_range (lib : List Fn1) : ∀ (x : Nd) (v : Int), v ∈ callsT lib x → 0 ≤ v ∧ v < lib.length
  | .mk kind _ name kids, v, h => by
    rw [callsT] at h
    rcases List.mem_append.1 h with h | h
    · by_cases e : kind = 85 ∧ 0 ≤ findF lib name 0
      · rw [if_pos e] at h
        simp at h; subst h
        refine ⟨e.2, ?_⟩
        rcases findF_range name lib 0 with e2 | ⟨i, h1, h2, _⟩
        · omega
        · rw [h2]; omega
      · rw [if_neg e] at h; simp at h
    · exact callsTL_range lib kids v h
theorem callsTL_range (lib : List Fn1) : ∀ (l : List Nd) (v : Int), v ∈ callsTL lib l → 0 ≤ v ∧ v < lib.length
  | [], v, h => by simp [callsTL] at h
  | y :: r, v, h => by
    rw [callsTL] at h
    rcases List.mem_append.1 h with h | h
    · exact callsT_range lib y v h
    · exact callsTL_range lib r v h
end
theorem lib_rot {w w6 : World} {base : Nat} {e : TypeId} {v : Value} {csD csT : List Value} {lib : List Fn1} {k : Nat} (hk : k < lib.length) (hb : RowKit.Below w.heap.size w w6) (hD : RowL w csD (lib.drop k)) (hT : RowL w csT (lib.take k)) (hown : w6.ownsRow base e 7 v (lib.length - k + k) (csD ++ csT)) : ∃ A c, v = .slice A lib.length c ∧ LibAt w6 A (rotL lib k) := by
  have h2 : w6.ownsRow base e 7 v (rotL lib k).length (csD ++ csT) := by rw [rot_len hk]; rw [show lib.length - k + k = lib.length by omega] at hown; exact hown
  have := lib_of_own h2 ((hD.append hT).mono hb)
  rw [rot_len hk] at this
  exact this
theorem callsR_get {lib : List Fn1} {k : Nat} {f : Fn1} (h : lib[k]? = some f) : callsR lib k = callsT lib f.body := by
  have hk := (List.getElem?_eq_some_iff.1 h).1
  unfold callsR
  rw [if_neg (by omega), Int.toNat_natCast, h]
theorem belowDrawn {B : Nat} {W w : World} (h : RowKit.Below B W w) : RowKit.Below B W w.drew := h.trans ⟨rfl, rfl, rfl, Nat.le_refl _, fun _ _ => rfl⟩

set_option maxRecDepth 100000 in
set_option maxHeartbeats 2000000 in
theorem funOrder_walk (lib : List Fn1) (A : Option Addr) (cap : Nat) (by_ : Nat) (w : World) (hL : LibAt w A lib) (hF : LibFit lib) (hby : by_ < 256) (hcap : lib.length ≤ cap) :
    Calls Try.prog 6 #[.slice A lib.length cap, .int .u8 by_] w fun e w' => e = .returned (.bool true) ∧ Below w.heap.size w w' := by
  have hl := hF.1
  have HL := Lib.hid hL
  clear hL
  go_enter Try.func6, Try.ntmps6
  go_wp2_with fail
  refine (awake_any w).mono ?_
  rintro e w1 ⟨rfl, hb1⟩
  go_wp2_with fail
  refine (great_any lib A cap w1 (HL.out.mono hb1) hF).mono ?_
  rintro e w2 ⟨rfl, hb2⟩
  have q2 := Lib.hid (below_step hb1 hb1.size hb2)
  clear hb1 hb2
  cases hg : greatB lib with
  | true =>
    go_wp2_with fail
    go_ret
    exact ⟨rfl, q2.out⟩
  | false =>
  obtain ⟨h40, hP, hN, hS⟩ := great_no hg
  have HS := Lib.hid hS
  clear hS hg
  by_cases hn0 : lib.length = 0
  · have hn1 : ((lib.length : Int) == 0) = true := by rw [hn0]; rfl
    clear hn0
    go_wp2_with fail
    go_ret
    exact ⟨rfl, q2.out⟩
  have hn1 : ((lib.length : Int) == 0) = false := beq_eq_false_iff_ne.2 (by omega)
  go_wp2_with fail
  refine (valid_any lib A cap w2 (HL.out.mono q2.out) hF hP hN).mono ?_
  rintro e w3 ⟨rfl, hb3⟩
  have q3 := Lib.hid (below_step q2.out q2.out.size hb3)
  have HL3 := Lib.hid (HL.out.mono q3.out)
  clear hb3 q2
  by_cases hv : (validR lib).2 = 0
  rotate_left
  · have hv' : ((validR lib).2 != 0) = true := by simpa using hv
    generalize (validR lib).2 = v2 at *
    go_wp2_with fail
    go_ret
    exact ⟨rfl, q3.out⟩
  have HV := Lib.hid hv
  rw [hv]
  clear hv
  have hk : by_ % lib.length < lib.length := Nat.mod_lt _ (by omega)
  go_wp2_with fail
  obtain ⟨k, hk, hkE⟩ : ∃ k : Nat, k < lib.length ∧ (by_ : Int) % (lib.length : Int) = k := ⟨by_ % lib.length, hk, by simp⟩
  rw [hkE]
  clear hkE
  obtain ⟨b, o, rfl, hfo0⟩ := HL3.out.at_ (show 0 < lib.length by omega)
  clear hfo0
  have r1 : (0 : Int) ≤ k := by omega
  have r2 : (k : Int) ≤ lib.length := by omega
  have r3 : (k : Int) ≤ cap := by omega
  have r4 : ¬ cap = k := by omega
  obtain ⟨csD, hrD, hcD⟩ := (HL3.out.drop k).row
  obtain ⟨csT, hrT, hcT⟩ := (HL3.out.take k).row
  obtain ⟨i0, hi0, hz0, hz1, hz2⟩ := info_parts info_func
  have HI := Lib.hid (And.intro hi0 (And.intro hz0 (And.intro hz1 hz2)))
  clear hi0 hz0 hz1 hz2
  have hbE := Lib.hid (belowDrawn (below_box w3 (Obj.cells #[] 41)))
  have HOW := Lib.hid (show (w3.alloc (Obj.cells #[] 41)).drew.ownsRow w3.heap.size 41 7 (.slice (some ⟨w3.heap.size, 0, none⟩) 0 0) 0 [] from own_empty w3 (e := 41) (size := 7))
  have HCD := Lib.hid (hcD.mono hbE.out)
  have HCT := Lib.hid hcT
  have HRD := Lib.hid hrD
  have HRT := Lib.hid hrT
  have HLD := Lib.hid (show csD.length = (lib.length - k) * 7 by have := hrD.len; simpa using this)
  have HLT := Lib.hid (show csT.length = k * 7 by have := hrT.len; rw [List.length_take, Nat.min_eq_left (by omega)] at this; exact this)
  clear hcD hcT hrD hrT
  go_region_held3 (fun w' => True) (trivial) (first | (refine step_app _ (by rfl) (.tmp 38) (.tmp 41) 22 (by rfl) w3.heap.size 41 i0 (.agg #[.string ⟨#[]⟩, .slice none 0 0, .bool false, .int .u8 0, .int .i64 0, .string ⟨#[]⟩, .slice none 0 0]) 7 104 Try.underlying22 HI.out.1 HI.out.2.1 HI.out.2.2.1 HI.out.2.2.2 rfl (by decide) (.slice (some ⟨w3.heap.size, 0, none⟩) 0 0) 0 [] (by simp [Act.eval]) HOW.out (some ⟨b, o + k * 7, none⟩) (lib.length - k) (cap - k) csD (by simp [Act.eval]) HLD.out HCD.out HRD.out.one (by unfold maxLen; omega) (by omega) hbE.out.size ?_; intro v5 w5 hown5 hgrow5 hat5; have q5 := Lib.hid (hbE.out.grown hgrow5 hbE.out.size (fun k hk => (by cases hk; exact Nat.le_refl _))); rw [Nat.zero_add, List.nil_append] at hown5; have HO5 := Lib.hid hown5; clear hown5 hgrow5 hat5) | (refine step_app _ (by rfl) (.tmp 42) (.tmp 45) 22 (by rfl) w3.heap.size 41 i0 (.agg #[.string ⟨#[]⟩, .slice none 0 0, .bool false, .int .u8 0, .int .i64 0, .string ⟨#[]⟩, .slice none 0 0]) 7 104 Try.underlying22 HI.out.1 HI.out.2.1 HI.out.2.2.1 HI.out.2.2.2 rfl (by decide) v5 (lib.length - k) csD (by simp [Act.eval]) HO5.out (some ⟨b, o, none⟩) k cap csT (by simp [Act.eval]) HLT.out (HCT.out.mono q5.out) HRT.out.one (by unfold maxLen; omega) (by omega) q5.out.size ?_; intro v6 w6 hown6 hgrow6 hat6; have q6 := Lib.hid (q5.out.grown hgrow6 q5.out.size (fun k hk => (HO5.out.lt k hk).1)); have HO6 := Lib.hid hown6; clear hown6 hgrow6 hat6))
  obtain ⟨A6, c6, rfl, hL6⟩ := lib_rot hk q6.out HRD.out HRT.out HO6.out
  have q7 := Lib.hid (below_step q3.out q3.out.size q6.out)
  have HL6 := Lib.hid hL6
  clear hL6 HO6 HO5 q5 q6 HRD HRT HLD HLT HCD HCT HOW hbE r4
  have HDI := Lib.hid (valid_dist HV.out)
  have HRL := Lib.hid (rot_len hk)
  have hcall := valid_any (rotL lib k) A6 c6 w6 HL6.out (rot_fit hk hF) (rot_few hP) (rot_nodes hN)
  rw [rot_len hk, rot_valid HV.out hk] at hcall
  have HC := Lib.hid hcall
  clear hcall
  go_wp2_with fail
  refine HC.out.mono ?_
  rintro e w8 ⟨rfl, hb8⟩
  have q8 := Lib.hid (below_step q7.out q7.out.size hb8)
  have HL8 := Lib.hid (HL6.out.mono hb8)
  clear hb8 q7 HL6 HC
  go_wp2_with fail
  go_loopw [12] (fun i wr => ∃ m : Nat, m ≤ lib.length ∧ i = .int .i64 m ∧ Below w.heap.size w wr ∧ Hid (LibAt wr A6 (rotL lib k))) (fun i _ => lib.length - (intOf i).toNat)
  case atStart => exact ⟨0, by omega, rfl, q8.out, HL8⟩
  case round =>
    obtain ⟨m, hm, rfl, hb, HLr⟩ := hrel
    by_cases hin : m < lib.length
    · have hmod : (m + k) % lib.length < lib.length := Nat.mod_lt _ (by omega)
      have hg1 : lib[(m + k) % lib.length]? = some lib[(m + k) % lib.length] := List.getElem?_eq_getElem hmod
      have hg2 : (rotL lib k)[m]? = some lib[(m + k) % lib.length] := by rw [rot_get hk hin]; exact hg1
      have hc1 := calls_any lib (some ⟨b, o, none⟩) cap (((m + k) % lib.length : Nat) : Int) wr (HL.out.mono hb) hF hN
      rw [callsR_get hg1, calls_rot HDI.out hk] at hc1
      have hnn := hN _ _ hg1
      generalize lib[(m + k) % lib.length] = g at *
      have hcr := Lib.hid (callsR_get hg2)
      rw [show (((m + k) % lib.length : Nat) : Int) = ((m : Int) + k) % lib.length by simp] at hc1
      have hrng := Lib.hid (callsT_range (rotL lib k) g.body)
      have hll := callsT_le (rotL lib k) g.body
      generalize callsT (rotL lib k) g.body = lb at *
      have HC1 := Lib.hid hc1
      clear hc1 hg1 hg2 hmod
      go_wp2_with fail
      refine HC1.out.mono ?_
      rintro e w9 ⟨A9, c9, rfl, hI9, hb9⟩
      rw [List.length_map]
      have hb10 := Lib.hid (below_step hb hb.size hb9)
      have hc2 := calls_any (rotL lib k) A6 c6 m w9 (HLr.out.mono hb9) (rot_fit hk hF) (rot_nodes hN)
      rw [hcr.out, HRL.out] at hc2
      have HC2 := Lib.hid hc2
      have HL9 := Lib.hid (HLr.out.mono hb9)
      have HI9 := Lib.hid hI9
      clear hc2 hb9 hb HC1 hI9 HLr
      go_wp2_with fail
      refine HC2.out.mono ?_
      rintro e w10 ⟨A10, c10, rfl, hI10, hb10'⟩
      have HA := Lib.hid (HI9.out.mono hb10')
      have HB := Lib.hid hI10
      have p10 := Lib.hid (below_step hb10.out hb10.out.size hb10')
      have HL10 := Lib.hid (HL9.out.mono hb10')
      clear hb10 hb10' hI10 HI9 HC2 HL9
      have hne : ((lb.length : Int) != lb.length) = false := by simp
      go_wp2_with fail
      clear hne
      obtain ⟨wo, rfl⟩ : ∃ wo : World, wo = wr := ⟨_, rfl⟩
      go_loopw [15] (fun i wr => ∃ j : Nat, j ≤ lb.length ∧ i = .int .i64 j ∧ Below w10.heap.size w10 wr) (fun i _ => lb.length - (intOf i).toNat)
      case atStart => exact ⟨0, by omega, rfl, Below.refl _ _⟩
      case round =>
        obtain ⟨j, hj, rfl, hb⟩ := hrel
        by_cases hin2 : j < lb.length
        · obtain ⟨b1, o1, rfl, hi1⟩ := (HA.out.mono hb).at_ (show j < (lb.map _).length by rw [List.length_map]; exact hin2)
          obtain ⟨b2, o2, rfl, hi2⟩ := (HB.out.mono hb).at_ hin2
          rw [List.getElem_map] at hi1
          have hx := hrng.out lb[j] (List.getElem_mem hin2)
          rw [HRL.out] at hx
          obtain ⟨hx0, hx1⟩ := hx
          generalize lb[j] = x at *
          have s1 : (0 : Int) ≤ j := by omega
          have s2 : (j : Int) < lb.length := by omega
          have y0 : 0 ≤ (x + k) % (lib.length : Int) := Int.emod_nonneg _ (by omega)
          have y1 : (x + k) % (lib.length : Int) < lib.length := Int.emod_lt_of_pos _ (by omega)
          have hne : ((x + k) % (lib.length : Int) != (x + k) % (lib.length : Int)) = false := by simp
          have hw1 : IntKind.i64.wrap (x + k) = x + k := IntWalk.i64_in _ (by omega)
          have hw2 : (x + k).tmod (lib.length : Int) = (x + k) % (lib.length : Int) := Int.tmod_eq_emod_of_nonneg (by omega)
          have hw3 : IntKind.i64.wrap ((x + k) % (lib.length : Int)) = (x + k) % (lib.length : Int) := IntWalk.i64_in _ (by omega)
          go_wp2_with fail
          go_quiet (fail)
          clear hw1 hw2 hw3
          go_wp2_with fail
          exact ⟨⟨j + 1, by omega, by go_num, hb.trans ⟨rfl, rfl, rfl, Nat.le_refl _, fun _ _ => rfl⟩⟩, by simp [intOf]; omega⟩
        · go_wp2_with fail
          exact ⟨⟨m + 1, by omega, by go_num, below_step p10.out p10.out.size hb, Lib.hid (HL10.out.mono hb)⟩, by simp [intOf]; omega⟩
    · go_wp2_with fail
      go_ret
      exact ⟨rfl, hb⟩

end Go.Proofs.Ytafjkmhphakhhaa
