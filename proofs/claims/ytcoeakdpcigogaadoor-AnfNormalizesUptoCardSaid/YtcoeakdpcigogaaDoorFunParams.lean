/-
  Contracts of fun.parameters and of the law's great.
-/
import Derived.Test.YtcoeakdpcigogaaDoorFunForm
namespace Go.Proofs.YtcoeakdpcigogaaDoor
open Go.ChangeShapes Go.WideShapes Go.ChangeAt Go.RowKit Go.Sort

def PmFit (l : List Pm) : Prop := l.length ≤ 9223372036854775807 ∧ ∀ (k : Nat) (p : Pm), l[k]? = some p → p.name.size ≤ 9223372036854775807

open Classical in
/-- The first error of the parameters. -/
noncomputable def paramE (l : List Pm) : Int :=
  if 8 < l.length then 5 else if ∃ p ∈ l, nameB p.name = false then 3 else if (l.map Pm.name).Nodup then 0 else 22

open Classical in
noncomputable def envK (l : List Pm) : ByteArray → Option Bool := fun s => if s ∈ l.map Pm.name then some true else none
theorem envK_step (l : List Pm) (p : Pm) : setE (envK l) p.name (some true) = envK (l ++ [p]) := by
  funext s
  unfold setE envK
  by_cases h : s = p.name
  · rw [if_pos h, if_pos (by simp [h])]
  · rw [if_neg h]
    have : (s ∈ (l ++ [p]).map Pm.name) ↔ s ∈ l.map Pm.name := by simp [h]
    by_cases h2 : s ∈ l.map Pm.name
    · rw [if_pos h2, if_pos (this.2 h2)]
    · rw [if_neg h2, if_neg (fun h3 => h2 (this.1 h3))]
theorem nodup_snoc {l : List ByteArray} {s : ByteArray} : (l ++ [s]).Nodup ↔ (l.Nodup ∧ s ∉ l) := by
  rw [List.nodup_append]
  constructor
  · rintro ⟨h1, _, h3⟩
    exact ⟨h1, fun hm => h3 s hm s (by simp) rfl⟩
  · rintro ⟨h1, h2⟩
    refine ⟨h1, by simp, fun a ha b hb e => ?_⟩
    simp at hb
    subst hb; subst e; exact h2 ha

open Classical in
set_option maxRecDepth 100000 in
set_option maxHeartbeats 1000000 in
theorem parameters_any (l : List Pm) (A : Option Addr) (cap : Nat) (w : World) (hP : PmsAt w A l) (hF : PmFit l) :
    Calls Tryd.prog 47 #[.slice A l.length cap] w fun e w' => e = .returned (.int .i64 (paramE l)) ∧ Below w.heap.size w w' := by
  have hl := hF.1
  have HF := Lib.hid hF.2
  clear hF
  have hmm := @run_makeMap Tryd.prog
  by_cases h8 : 8 < l.length
  · have hN := Lib.hid (show paramE l = 5 by unfold paramE; rw [if_pos h8])
    go_enter Tryd.func47, Tryd.ntmps47
    go_wp2_with fail
    go_ret
    exact ⟨ret_i64 hN.out.symm, Below.refl _ _⟩
  have hN := Lib.hid (show paramE l = if ∃ p ∈ l, nameB p.name = false then 3 else if (l.map Pm.name).Nodup then 0 else 22 by unfold paramE; rw [if_neg h8])
  have HP := Lib.hid hP
  clear hP
  have HM := mapB_made w
  have hbM := below_box w (.map #[] 0)
  go_enter Tryd.func47, Tryd.ntmps47
  go_wp2_with fail
  generalize w.alloc _ = W at HM hbM ⊢
  go_loopw [12] (fun i wr => ∃ (k sz : Nat), k ≤ l.length ∧ i = .int .i64 k ∧ Hid (∀ (j : Nat) (p : Pm), j < k → l[j]? = some p → nameB p.name = true) ∧ Hid (MapB wr w.heap.size k sz (envK (l.take k))) ∧ (sz ≤ k ∧ Hid (sz = k ↔ ((l.take k).map Pm.name).Nodup)) ∧ Below w.heap.size w wr) (fun i _ => l.length - (intOf i).toNat)
  case atStart => exact ⟨0, 0, by omega, rfl, fun j p hj => by omega, HM.congr (fun s => by simp [envK]), ⟨by omega, Lib.hid (by simp)⟩, hbM⟩
  case round =>
    obtain ⟨k, sz, hk, rfl, hz, HMk, ⟨hsz, hnd⟩, hb⟩ := hrel
    clear HM hbM
    by_cases hin : k < l.length
    · obtain ⟨b, o, rfl, c0, c1⟩ := (HP.out.mono hb).at_ hin
      have hget : l[k]? = some l[k] := List.getElem?_eq_getElem hin
      have htk := List.take_succ_eq_append_getElem hin
      have hps := HF.out k _ hget
      have hmem : l[k] ∈ l := List.getElem_mem hin
      generalize l[k] = p at *
      have HG := Lib.hid hget
      have HTK := Lib.hid htk
      have HME := Lib.hid hmem
      clear hget htk hmem
      have hlt : b < wr.heap.size := block_lt_of_cell c0
      have hbx := below_box wr (Obj.cells #[.string p.name, .bool p.list] 65)
      have e0 : (wr.alloc (Obj.cells #[.string p.name, .bool p.list] 65)).cell? ⟨wr.heap.size, 0, none⟩ = some (.string p.name) := by simp [go_sem]
      go_wp2_with fail
      generalize wr.alloc _ = W2 at hbx e0 ⊢
      refine (isName_any p.name _ hps).mono ?_
      rintro e w3 ⟨rfl, hb3⟩
      have q3 := below_step hbx hbx.size hb3
      have q4 := below_step hb hb.size q3
      have e3 := below_cell hb3 e0
      have HM3 := Lib.hid (HMk.out.below q3)
      cases hnm : nameB p.name with
      | false =>
        have hR := Lib.hid (hN.out.trans (if_pos ⟨p, HME.out, hnm⟩))
        go_wp2_with fail
        go_ret
        exact ⟨ret_i64 hR.out.symm, q4⟩
      | true =>
        have hz' := Lib.hid (fun (j : Nat) (q : Pm) (hj : j < k + 1) (hq : l[j]? = some q) => show nameB q.name = true from by
          by_cases e : j = k
          · subst e; rw [HG.out] at hq; have := Option.some.inj hq; rw [← this]; exact hnm
          · exact hz.out j q (by omega) hq)
        have hstep := Lib.hid (envK_step (l.take k) p)
        have hw4 : w.heap.size ≤ w.heap.size := Nat.le_refl _
        clear hz
        go_wp2_with (at_mapUpdate; refine wpList_put_B _ rfl _ _ _ 122 (.inl rfl) Tryd.underlying122 w.heap.size k sz _ rfl HM3.out (by unfold maxLen; omega) p.name true rfl rfl hps ?_; intro w5 HM5 hT5)
        have q5 := q4.grown hT5.grown q4.size (by intro j hj; cases hj; exact Nat.le_refl _)
        rw [hstep.out, ← HTK.out] at HM5
        refine ⟨⟨k + 1, _, by omega, by go_num, hz', HM5, ⟨?_, ?_⟩, q5⟩, by simp [intOf]; omega⟩
        · split <;> omega
        · show _ ↔ _
          rw [HTK.out, List.map_append, List.map_cons, List.map_nil, nodup_snoc, ← hnd.out]
          unfold envK
          by_cases hin2 : p.name ∈ (l.take k).map Pm.name
          · rw [if_pos (by rw [if_pos hin2]; rfl)]
            constructor
            · intro h; omega
            · rintro ⟨_, h⟩; exact absurd hin2 h
          · rw [if_neg (by rw [if_neg hin2]; simp)]
            constructor
            · intro h; exact ⟨by omega, hin2⟩
            · rintro ⟨h, _⟩; omega
    · obtain rfl : k = l.length := by omega
      rw [List.take_length] at HMk hnd
      have hno : ¬ ∃ p ∈ l, nameB p.name = false := by
        rintro ⟨p, hp, h⟩
        obtain ⟨j, hj⟩ := List.getElem?_of_mem hp
        have := hz.out j p (by exact (List.getElem?_eq_some_iff.1 hj).1) hj
        rw [h] at this; cases this
      have hR := Lib.hid (hN.out.trans (if_neg hno))
      clear hz hno
      by_cases hlt : sz < l.length
      · have hR2 := Lib.hid (hR.out.trans (if_neg (fun h => by have := hnd.out.2 h; omega)))
        go_wp2_with (at_len; refine wpList_len_B _ rfl _ 122 rfl Tryd.underlying122 w.heap.size _ sz _ rfl HMk.out ?_)
        go_ret
        exact ⟨ret_i64 hR2.out.symm, hb⟩
      · have hR2 := Lib.hid (hR.out.trans (if_pos (hnd.out.1 (by omega))))
        go_wp2_with (at_len; refine wpList_len_B _ rfl _ 122 rfl Tryd.underlying122 w.heap.size _ sz _ rfl HMk.out ?_)
        go_ret
        exact ⟨ret_i64 hR2.out.symm, hb⟩

/-! ### Libraries within the laws' limits -/

def FnFit (f : Fn1) : Prop := f.name.size ≤ 9223372036854775807 ∧ PmFit f.params ∧ NdFit f.body
def LibFit (l : List Fn1) : Prop := l.length ≤ 9223372036854775807 ∧ ∀ (k : Nat) (f : Fn1), l[k]? = some f → FnFit f

end Go.Proofs.YtcoeakdpcigogaaDoor
