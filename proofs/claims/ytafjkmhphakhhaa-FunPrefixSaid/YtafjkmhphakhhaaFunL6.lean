/-
  The walk of the law FunPrefix.
-/
import Derived.Test.YtafjkmhphakhhaaFunAwake
import Derived.Test.YtafjkmhphakhhaaFunRow
import Derived.Test.YtafjkmhphakhhaaFunCongr
namespace Go.Proofs.Ytafjkmhphakhhaa
open Go.ChangeShapes Go.WideShapes Go.ChangeAt Go.RowKit Go.Sort

def sZ : ByteArray := ⟨#[122, 122, 122, 122, 122, 122, 122, 122, 122, 122, 122, 122]⟩
def zPro : Fn1 := ⟨⟨#[122, 122, 122, 122, 122, 122, 122, 122, 122, 122, 122, 122]⟩, [], false, .mk 0 0 ⟨#[]⟩ []⟩
def zFn : Fn1 := ⟨⟨#[122, 122, 122, 122, 122, 122, 122, 122, 122, 122, 122, 122]⟩, [], false, .mk 80 7 ⟨#[]⟩ []⟩
theorem zPro_fit : FnFit zPro := ⟨by decide, ⟨by decide, fun k p hp => by simp [zPro] at hp⟩, fit_none (by decide) rfl⟩
theorem zFn_fit : FnFit zFn := ⟨by decide, ⟨by decide, fun k p hp => by simp [zFn] at hp⟩, fit_none (by decide) rfl⟩
theorem get_snoc {α : Type} {l : List α} {z x : α} {k : Nat} (h : (l ++ [z])[k]? = some x) : l[k]? = some x ∨ (k = l.length ∧ x = z) := by
  by_cases hk : k < l.length
  · rw [List.getElem?_append_left hk] at h; exact .inl h
  · have := (List.getElem?_eq_some_iff.1 h).1
    simp at this
    have hk : k = l.length := by omega
    subst hk
    rw [List.getElem?_append_right (Nat.le_refl _)] at h
    simp at h
    exact .inr ⟨rfl, h.symm⟩
theorem fit_snoc {l : List Fn1} {z : Fn1} (h : LibFit l) (h40 : l.length ≤ 40) (hz : FnFit z) : LibFit (l ++ [z]) := ⟨by simp; omega, fun k f hk => by
  rcases get_snoc hk with h1 | ⟨_, rfl⟩
  · exact h.2 k f h1
  · exact hz⟩
theorem few_snoc {l : List Fn1} {z : Fn1} (h : FewParams l) (hz : z.params.length ≤ 1000) : FewParams (l ++ [z]) := fun k f hk => by
  rcases get_snoc hk with h1 | ⟨_, rfl⟩
  · exact h k f h1
  · exact hz
theorem nodes_snoc {l : List Fn1} {z : Fn1} (h : FewNodes l) (hz : sizeT z.body ≤ 500000) : FewNodes (l ++ [z]) := fun k f hk => by
  rcases get_snoc hk with h1 | ⟨_, rfl⟩
  · exact h k f h1
  · exact hz

theorem block_new {w : World} {B : Nat} (hB : B = w.heap.size) (xs : List Value) (cs : Array Value) (h : cs = xs.toArray) (T : TypeId) : ∀ (j : Nat) (u : Value), xs[j]? = some u → (w.alloc (Obj.cells cs T)).cell? ((⟨B, 0, none⟩ : Addr).add j) = some u := by
  subst hB; subst h
  intro j u hj
  rw [add0]; simp [go_sem, hj]
/-- A library of the call's own, one function longer. -/
theorem lib_snoc {w w6 : World} {base : Nat} {e : TypeId} {v' : Value} {cs c7 : List Value} {l : List Fn1} {z : Fn1} (hb : Below w.heap.size w w6) (hr : RowL w cs l) (hz : FnC w c7 z) (hown : w6.ownsRow base e 7 v' (l.length + 1) (cs ++ c7)) : ∃ A c, v' = .slice A (l.length + 1) c ∧ LibAt w6 A (l ++ [z]) := by
  have e1 : (l ++ [z]).length = l.length + 1 := by simp
  have h2 : w6.ownsRow base e 7 v' (l ++ [z]).length (cs ++ c7) := by rw [e1]; exact hown
  rw [← e1]
  exact lib_of_own h2 (.snoc (hr.mono hb) (hz.mono hb))

def RetMent (lib : List Fn1) (w : World) (e : Ending) (w' : World) : Prop := ∃ m : Bool, e = .returned (.bool m) ∧ (m = false → ∀ (k : Nat) (f : Fn1), lib[k]? = some f → (lib.length : Int) ∉ callsT (lib ++ [zPro]) f.body) ∧ Below w.heap.size w w'
theorem callsR_at {lib : List Fn1} {k : Nat} {f : Fn1} (h : lib[k]? = some f) : callsR lib k = callsT lib f.body := by
  have hk := (List.getElem?_eq_some_iff.1 h).1
  unfold callsR
  rw [if_neg (by omega), Int.toNat_natCast, h]

set_option maxRecDepth 100000 in
set_option maxHeartbeats 2000000 in
theorem mentions_any (lib : List Fn1) (A : Option Addr) (cap : Nat) (w : World) (hL : LibAt w A lib) (hF : LibFit lib) (hN : FewNodes lib) (h40 : lib.length ≤ 40) :
    Calls Try.prog 24 #[.slice A lib.length cap] w (RetMent lib w) := by
  obtain ⟨cs, hrow, hcs⟩ := hL.row
  have hzc : FnC w [.string ⟨#[122, 122, 122, 122, 122, 122, 122, 122, 122, 122, 122, 122]⟩, .slice none 0 0, .bool false, .int .u8 0, .int .i64 0, .string ⟨#[]⟩, .slice none 0 0] zPro := ⟨none, 0, none, 0, rfl, fun k p hp => by simp [zPro] at hp, fun k p hp => by simp [zPro, Nd.kids] at hp⟩
  obtain ⟨i0, hi0, hz0, hz1, hz2⟩ := info_parts info_func
  have HI := Lib.hid (And.intro hi0 (And.intro hz0 (And.intro hz1 hz2)))
  clear hi0 hz0 hz1 hz2
  have hlen := hrow.len
  have hbE := below_box w (Obj.cells #[] 41)
  have HOW := Lib.hid (own_empty w (e := 41) (size := 7))
  have HCS := Lib.hid (hcs.mono hbE)
  have HROW := Lib.hid hrow
  have HZC := Lib.hid hzc
  have HLEN := Lib.hid hlen
  clear hrow hcs hzc hlen
  go_enter Try.func24, Try.ntmps24
  go_wp2_with (first | (at_builtin; refine wpList_app _ rfl (.tmp 7) (.tmp 8) 22 rfl w.heap.size 41 i0 (.agg #[.string ⟨#[]⟩, .slice none 0 0, .bool false, .int .u8 0, .int .i64 0, .string ⟨#[]⟩, .slice none 0 0]) 7 104 Try.underlying22 HI.out.1 HI.out.2.1 HI.out.2.2.1 HI.out.2.2.2 rfl (by decide) _ 0 [] rfl HOW.out A lib.length cap cs rfl HLEN.out HCS.out HROW.out.one (by unfold maxLen; omega) (by omega) hbE.size ?_; intro v5 w5 hown5 hgrow5 hat5; have q5 := Lib.hid (hbE.grown hgrow5 hbE.size (fun k hk => (by cases hk; exact Nat.le_refl _))); rw [Nat.zero_add, List.nil_append] at hown5; have HO5 := Lib.hid hown5; clear hown5 hgrow5 hat5) | (at_builtin; refine wpList_append_own _ rfl (.tmp 9) (.tmp 11) 22 rfl w.heap.size 41 i0 (.agg #[.string ⟨#[]⟩, .slice none 0 0, .bool false, .int .u8 0, .int .i64 0, .string ⟨#[]⟩, .slice none 0 0]) 7 104 Try.underlying22 HI.out.1 HI.out.2.1 HI.out.2.2.1 HI.out.2.2.2 rfl (by decide) v5 lib.length cs rfl (HO5.out.alloc _) ⟨w5.heap.size, 0, none⟩ 1 1 ([.string ⟨#[122, 122, 122, 122, 122, 122, 122, 122, 122, 122, 122, 122]⟩, .slice none 0 0, .bool false, .int .u8 0, .int .i64 0, .string ⟨#[]⟩, .slice none 0 0]) rfl rfl (block_new rfl _ _ rfl _) (HZC.out.one) (by unfold maxLen; omega) (by omega) (by have := q5.out.size; simp; omega) ?_; intro v6 w6 hown6 hgrow6 _; have q6 := Lib.hid ((q5.out.alloc q5.out.size _).grown hgrow6 (Nat.le_trans q5.out.size (below_box w5 _).size) (fun k hk => (HO5.out.lt k hk).1)); obtain ⟨A6, c6, rfl, hL6⟩ := lib_snoc q6.out HROW.out HZC.out hown6; have HL6 := Lib.hid hL6; clear hown6 hgrow6 hL6 q5 HO5))
  have HZL := Lib.hid (show (lib ++ [zPro]).length = lib.length + 1 by simp)
  go_loopw [4] (fun i wr => ∃ k : Nat, k ≤ lib.length ∧ i = .int .i64 k ∧ Hid (∀ (j : Nat) (f : Fn1), j < k → lib[j]? = some f → (lib.length : Int) ∉ callsT (lib ++ [zPro]) f.body) ∧ Below w.heap.size w wr ∧ Hid (LibAt wr A6 (lib ++ [zPro]))) (fun i _ => lib.length - (intOf i).toNat)
  case atStart => exact ⟨0, by omega, rfl, fun j f hj => by omega, q6.out, HL6⟩
  case round =>
    obtain ⟨k, hk, rfl, hz, hb, HLr⟩ := hrel
    by_cases hin : k < lib.length
    · have hget : lib[k]? = some lib[k] := List.getElem?_eq_getElem hin
      have hgm : (lib ++ [zPro])[k]? = some lib[k] := by rw [List.getElem?_append_left hin]; exact hget
      have hcr := callsR_at hgm
      have hcall := calls_any (lib ++ [zPro]) A6 c6 k wr HLr.out (fit_snoc hF h40 zPro_fit) (nodes_snoc hN (by decide))
      rw [hcr, HZL.out] at hcall
      generalize lib[k] = f at *
      have HG := Lib.hid hget
      have HC := Lib.hid hcall
      clear hget hgm hcr hcall
      generalize hcl : callsT (lib ++ [zPro]) f.body = cl at *
      have HCL := Lib.hid hcl
      clear hcl
      have hll : cl.length ≤ 500000 := by
        have := callsT_le (lib ++ [zPro]) f.body
        rw [HCL.out] at this
        have := hN k f HG.out
        omega
      go_wp2_with fail
      refine HC.out.mono ?_
      rintro e w7 ⟨A7, c7, rfl, hI7, hb7⟩
      have p7 := Lib.hid (below_step hb hb.size hb7)
      have HL7 := Lib.hid (HLr.out.mono hb7)
      have HI7 := Lib.hid hI7
      clear HC hI7 hb7 HLr hb
      go_wp2_with fail
      obtain ⟨wo, rfl⟩ : ∃ wo : World, wo = wr := ⟨_, rfl⟩
      go_loopw [23] (fun i wr => ∃ m : Nat, m ≤ cl.length ∧ i = .int .i64 m ∧ Hid (∀ (j : Nat), j < m → cl[j]? ≠ some (lib.length : Int)) ∧ wr = w7) (fun i _ => cl.length - (intOf i).toNat)
      case atStart => exact ⟨0, by omega, rfl, fun j hj => by omega, rfl⟩
      case round =>
        obtain ⟨m, hm, rfl, hzm, rfl⟩ := hrel
        by_cases hin2 : m < cl.length
        · obtain ⟨b, o, rfl, hi⟩ := HI7.out.at_ hin2
          have hg2 : cl[m]? = some cl[m] := List.getElem?_eq_getElem hin2
          have hlt2 := block_lt_of_cell hi
          have r1 : (0 : Int) ≤ m := by omega
          have r2 : (m : Int) < cl.length := by omega
          generalize cl[m] = x at *
          have HG2 := Lib.hid hg2
          clear hg2
          by_cases hx : x = (lib.length : Int)
          · have hx' : (x == (lib.length : Int)) = true := by rw [hx]; simp
            clear hx
            go_wp2_with fail
            go_ret
            exact ⟨true, rfl, (fun h => by cases h), p7.out⟩
          · have hx' : (x == (lib.length : Int)) = false := by simpa using hx
            have hz2 := Lib.hid (fun (j : Nat) (hj : j < m + 1) => show cl[j]? ≠ some (lib.length : Int) from by
              by_cases e : j = m
              · rw [e, HG2.out]; intro e2; exact hx (Option.some.inj e2)
              · exact hzm.out j (by omega))
            clear hx hzm
            go_wp2_with fail
            exact ⟨⟨m + 1, by omega, by go_num, hz2, trivial⟩, by simp [intOf]; omega⟩
        · have hz2 := Lib.hid (fun (j : Nat) (g : Fn1) (hj : j < k + 1) (hg : lib[j]? = some g) => show (lib.length : Int) ∉ callsT (lib ++ [zPro]) g.body from by
            by_cases e : j = k
            · subst e
              rw [HG.out] at hg
              have := Option.some.inj hg
              subst this
              rw [HCL.out]
              intro hmem
              obtain ⟨q, hq⟩ := List.getElem?_of_mem hmem
              have hql := (List.getElem?_eq_some_iff.1 hq).1
              exact hzm.out q (by omega) hq
            · exact hz.out j g (by omega) hg)
          clear hzm hz
          go_wp2_with fail
          exact ⟨⟨k + 1, by omega, by go_num, hz2, p7.out, HL7⟩, by simp [intOf]; omega⟩
    · have hz2 := Lib.hid (fun (j : Nat) (g : Fn1) (hg : lib[j]? = some g) => show (lib.length : Int) ∉ callsT (lib ++ [zPro]) g.body from by
        have := (List.getElem?_eq_some_iff.1 hg).1
        exact hz.out j g (by omega) hg)
      clear hz
      go_wp2_with fail
      go_ret
      exact ⟨false, rfl, fun _ => hz2.out, hb⟩

mutual
theorem ar_names {lib : List Fn1} : ∀ (x : Nd), arT lib x = true → ∀ s ∈ namesT x, 0 ≤ findF lib s 0
  | .mk kind _ name kids, h, s, hs => by
    rw [arT, Bool.and_eq_true] at h
    rw [namesT] at hs
    rcases List.mem_append.1 hs with h1 | h1
    · by_cases e : kind = 85
      · rw [if_pos e] at h1 h
        simp at h1; subst h1
        have := h.1
        simp at this
        exact this.1
      · rw [if_neg e] at h1; simp at h1
    · exact ar_namesL kids h.2 s h1
theorem ar_namesL {lib : List Fn1} : ∀ (l : List Nd), arTL lib l = true → ∀ s ∈ namesTL l, 0 ≤ findF lib s 0
  | [], _, s, hs => by simp [namesTL] at hs
  | y :: r, h, s, hs => by
    rw [arTL, Bool.and_eq_true] at h
    rw [namesTL] at hs
    rcases List.mem_append.1 hs with h1 | h1
    · exact ar_names y h.1 s h1
    · exact ar_namesL r h.2 s h1
end
theorem valid_zero {lib : List Fn1} (h : (validR lib).2 = 0) : validR lib = (-1, 0) := valid_of (fun _ _ hf => valid_facts h hf)
theorem chk_num (lib : List Fn1) (n : Int) (s : ByteArray) (env : ByteArray → Option Bool) : chkT lib (.mk 80 n s []) env = (false, 0) := by
  have h1 : reachE lib env (.mk 80 n s []) = 0 := by unfold reachE; rfl
  have h2 : chkTL lib [] env 80 s 0 [] = ([], 0) := rfl
  rw [chkT, h1, h2]
  rfl
theorem z_name : nameB zFn.name = true := by decide +kernel
theorem prefix_ok {lib : List Fn1} (h : (validR lib).2 = 0) (h30 : lib.length < 30) (hnew : findF lib zFn.name 0 < 0) : validR (lib ++ [zFn]) = (-1, 0) := by
  refine valid_of (fun i f hf => ?_)
  rcases get_snoc hf with h1 | ⟨rfl, rfl⟩
  · have h2 := valid_facts h h1
    rw [one_snoc h1 (fun s hs e => ?_) hnew]
    · exact h2
    · have h3 := ar_names f.body (chk_ar lib f.body _ (by rw [(one_facts h2).2.2.2.2.2.2.2])) s hs
      rw [← e] at h3; omega
  · refine one_of h30 z_name ?_ ?_ (by decide +kernel) (by decide) (by decide) (chk_num _ _ _ _)
    · rw [findF_snoc, if_neg (by omega), if_pos rfl]; simp
    · unfold paramE
      rw [if_neg (by decide), if_neg (by rintro ⟨p, hp, _⟩; simp [zFn] at hp), if_pos (by simp [zFn])]
theorem prefix_bad {lib : List Fn1} (h : (validR lib).2 ≠ 0) (hnew : findF lib zFn.name 0 < 0) (hm : ∀ (k : Nat) (f : Fn1), lib[k]? = some f → (lib.length : Int) ∉ callsT (lib ++ [zPro]) f.body) : validR (lib ++ [zFn]) = validR lib := by
  unfold validR at *
  rw [show (lib ++ [zFn]).length = lib.length + 1 by simp]
  have h1 : vldL (oneK (lib ++ [zFn])) lib.length 0 = vldL (oneK lib) lib.length 0 := by
    refine vldL_congr _ _ (fun j _ hj => ?_)
    have hj' : j < lib.length := by omega
    have hg : lib[j]? = some lib[j] := List.getElem?_eq_getElem hj'
    unfold oneK
    rw [List.getElem?_append_left hj', hg]
    refine one_snoc hg (fun s hs e => ?_) hnew
    have hf : findF (lib ++ [zPro]) s 0 = lib.length := by
      rw [findF_snoc, if_neg (by rw [← e]; omega), if_pos (by rw [← e]; rfl)]; simp
    have := calls_names (lib ++ [zPro]) lib[j].body s hs (by rw [hf]; omega)
    rw [hf] at this
    exact hm j _ hg this
  rw [vldL_more _ _ _ (by rw [h1]; exact h), h1]
theorem valid_range {lib : List Fn1} (h : (validR lib).2 ≠ 0) : 0 ≤ (validR lib).1 ∧ (validR lib).1 < lib.length := by
  have := vldL_range (E := oneK lib) lib.length 0 h
  unfold validR
  omega

set_option maxRecDepth 100000 in
set_option maxHeartbeats 2000000 in
theorem funPrefix_walk (lib : List Fn1) (A : Option Addr) (cap : Nat) (w : World) (hL : LibAt w A lib) (hF : LibFit lib) :
    Calls Try.prog 8 #[.slice A lib.length cap] w fun e w' => e = .returned (.bool true) ∧ Below w.heap.size w w' := by
  have hl := hF.1
  have HL := Lib.hid hL
  clear hL
  go_enter Try.func8, Try.ntmps8
  go_wp2_with fail
  refine (awake_any w).mono ?_
  rintro e w1 ⟨rfl, hb1⟩
  go_wp2_with fail
  refine (great_any lib A cap w1 (HL.out.mono hb1) hF).mono ?_
  rintro e w2 ⟨rfl, hb2⟩
  have q2 := Lib.hid (below_step hb1 hb1.size hb2)
  clear hb1 hb2
  cases hg : greatB lib with
  | true =>
    go_wp2_with fail
    go_ret
    exact ⟨rfl, q2.out⟩
  | false =>
  obtain ⟨h40, hP, hN, hS⟩ := great_no hg
  have HS := Lib.hid hS
  clear hS hg
  by_cases h30 : 30 ≤ lib.length
  · have h30' : decide (30 ≤ lib.length) = true := by simpa using h30
    go_wp2_with fail
    go_ret
    exact ⟨rfl, q2.out⟩
  have h30' : decide (30 ≤ lib.length) = false := by simpa using h30
  go_wp2_with fail
  refine (valid_any lib A cap w2 (HL.out.mono q2.out) hF hP hN).mono ?_
  rintro e w3 ⟨rfl, hb3⟩
  have q3 := Lib.hid (below_step q2.out q2.out.size hb3)
  have HL3 := Lib.hid (HL.out.mono q3.out)
  clear hb3 q2 h30'
  obtain ⟨cs, hrow, hcs⟩ := HL3.out.row
  have hzc : FnC w3 [.string ⟨#[122, 122, 122, 122, 122, 122, 122, 122, 122, 122, 122, 122]⟩, .slice none 0 0, .bool false, .int .u8 80, .int .i64 7, .string ⟨#[]⟩, .slice none 0 0] zFn := ⟨none, 0, none, 0, rfl, fun k p hp => by simp [zFn] at hp, fun k p hp => by simp [zFn, Nd.kids] at hp⟩
  obtain ⟨i0, hi0, hz0, hz1, hz2⟩ := info_parts info_func
  have HI := Lib.hid (And.intro hi0 (And.intro hz0 (And.intro hz1 hz2)))
  clear hi0 hz0 hz1 hz2
  have hlen := hrow.len
  have hbE := below_box w3 (Obj.cells #[] 41)
  have HOW := Lib.hid (own_empty w3 (e := 41) (size := 7))
  have HCS := Lib.hid (hcs.mono hbE)
  have HROW := Lib.hid hrow
  have HZC := Lib.hid hzc
  have HLEN := Lib.hid hlen
  clear hrow hcs hzc hlen
  generalize hv1 : (validR lib).1 = v1 at *
  generalize hv2 : (validR lib).2 = v2 at *
  have HV1 := Lib.hid hv1
  have HV2 := Lib.hid hv2
  clear hv1 hv2
  go_wp2_with (first | (at_builtin; refine wpList_app _ rfl (.tmp 22) (.tmp 23) 22 rfl w3.heap.size 41 i0 (.agg #[.string ⟨#[]⟩, .slice none 0 0, .bool false, .int .u8 0, .int .i64 0, .string ⟨#[]⟩, .slice none 0 0]) 7 104 Try.underlying22 HI.out.1 HI.out.2.1 HI.out.2.2.1 HI.out.2.2.2 rfl (by decide) _ 0 [] rfl HOW.out A lib.length cap cs rfl HLEN.out HCS.out HROW.out.one (by unfold maxLen; omega) (by omega) hbE.size ?_; intro v5 w5 hown5 hgrow5 hat5; have q5 := Lib.hid (hbE.grown hgrow5 hbE.size (fun k hk => (by cases hk; exact Nat.le_refl _))); rw [Nat.zero_add, List.nil_append] at hown5; have HO5 := Lib.hid hown5; clear hown5 hgrow5 hat5) | (at_builtin; refine wpList_append_own _ rfl (.tmp 24) (.tmp 27) 22 rfl w3.heap.size 41 i0 (.agg #[.string ⟨#[]⟩, .slice none 0 0, .bool false, .int .u8 0, .int .i64 0, .string ⟨#[]⟩, .slice none 0 0]) 7 104 Try.underlying22 HI.out.1 HI.out.2.1 HI.out.2.2.1 HI.out.2.2.2 rfl (by decide) v5 lib.length cs rfl (HO5.out.alloc _) ⟨w5.heap.size, 0, none⟩ 1 1 ([.string ⟨#[122, 122, 122, 122, 122, 122, 122, 122, 122, 122, 122, 122]⟩, .slice none 0 0, .bool false, .int .u8 80, .int .i64 7, .string ⟨#[]⟩, .slice none 0 0]) rfl rfl (block_new rfl _ _ rfl _) (HZC.out.one) (by unfold maxLen; omega) (by omega) (by have := q5.out.size; simp; omega) ?_; intro v6 w6 hown6 hgrow6 _; have q6 := Lib.hid ((q5.out.alloc q5.out.size _).grown hgrow6 (Nat.le_trans q5.out.size (below_box w5 _).size) (fun k hk => (HO5.out.lt k hk).1)); obtain ⟨A6, c6, rfl, hL6⟩ := lib_snoc q6.out HROW.out HZC.out hown6; have HL6 := Lib.hid hL6; clear hown6 hgrow6 hL6 q5 HO5))
  have q7 := Lib.hid (below_step q3.out q3.out.size q6.out)
  clear HOW HCS HROW HZC HLEN hbE
  refine (find_any lib A cap ⟨#[122, 122, 122, 122, 122, 122, 122, 122, 122, 122, 122, 122]⟩ w6 (HL.out.mono q7.out) hl).mono ?_
  rintro e w8 ⟨rfl, hb8⟩
  have q8 := Lib.hid (below_step q7.out q7.out.size hb8)
  have HL8 := Lib.hid (HL6.out.mono hb8)
  clear hb8 q7 q6 q3 HL6 HL3
  by_cases hfz : 0 ≤ findF lib ⟨#[122, 122, 122, 122, 122, 122, 122, 122, 122, 122, 122, 122]⟩ 0
  · generalize findF lib ⟨#[122, 122, 122, 122, 122, 122, 122, 122, 122, 122, 122, 122]⟩ 0 = fz at *
    go_wp2_with fail
    go_ret
    exact ⟨rfl, q8.out⟩
  have HNW := Lib.hid (show findF lib zFn.name 0 < 0 from (by
    have : findF lib zFn.name 0 = findF lib ⟨#[122, 122, 122, 122, 122, 122, 122, 122, 122, 122, 122, 122]⟩ 0 := rfl
    omega))
  have hcall := valid_any (lib ++ [zFn]) A6 c6 w8 HL8.out (fit_snoc hF h40 zFn_fit) (few_snoc hP (by decide)) (nodes_snoc hN (by decide))
  rw [show (lib ++ [zFn]).length = lib.length + 1 by simp] at hcall
  have HCL := Lib.hid hcall
  clear hcall
  generalize findF lib ⟨#[122, 122, 122, 122, 122, 122, 122, 122, 122, 122, 122, 122]⟩ 0 = fz at *
  go_wp2_with fail
  refine HCL.out.mono ?_
  rintro e w9 ⟨rfl, hb9⟩
  have q9 := Lib.hid (below_step q8.out q8.out.size hb9)
  clear hb9 q8 HL8 HCL
  by_cases he : v2 = 0
  · have hz := valid_zero (HV2.out.trans he)
    have hp := prefix_ok (HV2.out.trans he) (by omega) HNW.out
    rw [hp]
    obtain rfl : v1 = -1 := by rw [← HV1.out, hz]
    subst he
    clear hz hp HV1 HV2 HNW
    go_wp2_with fail
    go_ret
    exact ⟨rfl, q9.out⟩
  have hr := valid_range (lib := lib) (by rw [HV2.out]; exact he)
  rw [HV1.out] at hr
  obtain ⟨hr1, hr2⟩ := hr
  have he' : (v2 == 0) = false := by simpa using he
  have hr3 : ¬ v1 < 0 := by omega
  have hr4 : ¬ (lib.length : Int) ≤ v1 := by omega
  have HNE := Lib.hid he
  clear he
  generalize hy1 : (validR (lib ++ [zFn])).1 = y1 at *
  generalize hy2 : (validR (lib ++ [zFn])).2 = y2 at *
  have HY1 := Lib.hid hy1
  have HY2 := Lib.hid hy2
  clear hy1 hy2
  go_wp2_with fail
  refine (mentions_any lib A cap w9 (HL.out.mono q9.out) hF hN h40).mono ?_
  rintro e w10 ⟨m, rfl, hm, hb10⟩
  have q10 := Lib.hid (below_step q9.out q9.out.size hb10)
  have HM := Lib.hid hm
  clear hb10 q9 hm
  cases m with
  | true =>
    go_wp2_with fail
    go_ret
    exact ⟨rfl, q10.out⟩
  | false =>
    have hb := prefix_bad (lib := lib) (by rw [HV2.out]; exact HNE.out) HNW.out (HM.out rfl)
    obtain rfl : y1 = v1 := by rw [← HY1.out, ← HV1.out, hb]
    obtain rfl : y2 = v2 := by rw [← HY2.out, ← HV2.out, hb]
    have t1 : (y1 == y1) = true := by simp
    have t2 : (y2 == y2) = true := by simp
    clear hb
    go_wp2_with fail
    go_ret
    exact ⟨rfl, q10.out⟩

end Go.Proofs.Ytafjkmhphakhhaa
