/-
  The contracts of fun.Calls and of its closure.
-/
import Derived.Test.YtafjkmhphakhhaaFunCheck
import Derived.Laws.EntriesVeiled
import Derived.Maps.AppendAt
import Derived.OneCell
import Derived.StillTailTactics
import Derived.Lib.QuietBelow
namespace Go.Proofs.Ytafjkmhphakhhaa
open Go.ChangeShapes Go.WideShapes Go.ChangeAt Go.RowKit Go.Sort

mutual
def callsT (lib : List Fn1) : Nd → List Int
  | .mk kind _ name kids => (if kind = 85 ∧ 0 ≤ findF lib name 0 then [findF lib name 0] else []) ++ callsTL lib kids
def callsTL (lib : List Fn1) : List Nd → List Int
  | [] => []
  | y :: r => callsT lib y ++ callsTL lib r
end
theorem callsT_eq (lib : List Fn1) (x : Nd) : callsT lib x = (if x.kind = 85 ∧ 0 ≤ findF lib x.name 0 then [findF lib x.name 0] else []) ++ callsTL lib x.kids := by cases x; rw [callsT]; rfl
theorem callsTL_append (lib : List Fn1) : ∀ l r : List Nd, callsTL lib (l ++ r) = callsTL lib l ++ callsTL lib r
  | [], r => by simp [callsTL]
  | x :: l, r => by rw [List.cons_append, callsTL, callsTL, callsTL_append lib l r, List.append_assoc]
theorem callsTL_step {lib : List Fn1} {l : List Nd} {k : Nat} (h : k < l.length) : callsTL lib (l.take (k + 1)) = callsTL lib (l.take k) ++ callsT lib l[k] := by
  rw [List.take_succ_eq_append_getElem h, callsTL_append, callsTL, callsTL, List.append_nil]
mutual
theorem callsT_le (lib : List Fn1) : ∀ x : Nd, (callsT lib x).length ≤ sizeT x
  | .mk k n s l => by
    rw [callsT, sizeT]
    have := callsTL_le lib l
    split <;> simp <;> omega
theorem callsTL_le (lib : List Fn1) : ∀ l : List Nd, (callsTL lib l).length ≤ sizeTL l
  | [] => by simp [callsTL]
  | x :: r => by
    rw [callsTL, sizeTL, List.length_append]
    have := callsT_le lib x
    have := callsTL_le lib r
    omega
end

/-- From w to w' only block bL and v's own row have turned, and new blocks have come. -/
structure Gr (w w' : World) (bL : Nat) (v v' : Value) : Prop where
  os : w'.os = w.os
  tape : w'.tape = w.tape
  output : w'.output = w.output
  size : w.heap.size ≤ w'.heap.size
  block : ∀ k, k < w.heap.size → k ≠ bL → some k ≠ v.ownBlock → w'.heap[k]? = w.heap[k]?
  at_ : v'.ownBlock = v.ownBlock ∨ ∃ g, v'.ownBlock = some g ∧ w.heap.size ≤ g
theorem Gr.refl (w : World) (bL : Nat) (v : Value) : Gr w w bL v v := ⟨rfl, rfl, rfl, Nat.le_refl _, fun _ _ _ _ => rfl, .inl rfl⟩
theorem Gr.trans {w w1 w2 : World} {bL : Nat} {v v1 v2 : Value} (h : Gr w w1 bL v v1) (h2 : Gr w1 w2 bL v1 v2) : Gr w w2 bL v v2 := by
  refine ⟨h2.os.trans h.os, h2.tape.trans h.tape, h2.output.trans h.output, Nat.le_trans h.size h2.size, fun k hk h1 hne => ?_, ?_⟩
  · refine (h2.block k (Nat.lt_of_lt_of_le hk h.size) h1 ?_).trans (h.block k hk h1 hne)
    rcases h.at_ with e | ⟨g, e, hg⟩
    · rw [e]; exact hne
    · rw [e]; intro e'; have := Option.some.inj e'; omega
  · rcases h2.at_ with e | ⟨g, e, hg⟩
    · rw [e]; exact h.at_
    · exact .inr ⟨g, e, Nat.le_trans h.size hg⟩
theorem Gr.of_below {w w' : World} (h : Below w.heap.size w w') (bL : Nat) (v : Value) : Gr w w' bL v v :=
  ⟨h.os, h.tape, h.output, h.size, fun k hk _ _ => h.block k hk, .inl rfl⟩
theorem Gr.cell {w w' : World} {bL : Nat} {v v' : Value} (h : Gr w w' bL v v') {a : Addr} {u : Value} (hc : w.cell? a = some u) (h1 : a.block ≠ bL) (h2 : some a.block ≠ v.ownBlock) : w'.cell? a = some u := by
  rw [World.cell?_of_block (h.block a.block (block_lt_of_cell hc) h1 h2)]; exact hc
theorem Gr.below {W0 w w' : World} {bL : Nat} {v v' : Value} (h : Gr w w' bL v v') (hb : Below W0.heap.size W0 w) (h1 : W0.heap.size ≤ bL) (h2 : ∀ g, v.ownBlock = some g → W0.heap.size ≤ g) : Below W0.heap.size W0 w' :=
  ⟨h.os.trans hb.os, h.tape.trans hb.tape, h.output.trans hb.output, Nat.le_trans hb.size h.size, fun k hk => by
    rw [h.block k (Nat.lt_of_lt_of_le hk hb.size) (by omega) (fun e => by have := h2 k e.symm; omega)]; exact hb.block k hk⟩

/-- What the closure finds. -/
structure ClAt (W0 w : World) (A : Option Addr) (cap : Nat) (lib : List Fn1) (bl bL bf base : Nat) : Prop where
  hb : Below W0.heap.size W0 w
  cl : w.cell? ⟨bl, 0, none⟩ = some (.slice A lib.length cap)
  cf : w.cell? ⟨bf, 0, none⟩ = some (.func (.func 37) #[] #[.pointer (some ⟨bl, 0, none⟩), .pointer (some ⟨bL, 0, none⟩), .pointer (some ⟨bf, 0, none⟩)])
  n1 : bl ≠ bL
  n2 : bf ≠ bL
  l1 : bl < base
  l2 : bf < base
  l3 : bL < base
  g1 : W0.heap.size ≤ bL
  g2 : W0.heap.size ≤ base
  g3 : base ≤ w.heap.size
/-- The numbers collected so far. -/
structure IntsB (w : World) (bL base : Nat) (v : Value) (acc : List Int) : Prop where
  one : w.heap[bL]? = some (.cells #[v] 43 (0, 0))
  own : w.ownsRow base 3 1 v acc.length (acc.map (Value.int .i64))
theorem IntsB.below {w w' : World} {bL base : Nat} {v : Value} {acc : List Int} (h : IntsB w bL base v acc) (hb : Below w.heap.size w w') : IntsB w' bL base v acc :=
  ⟨by rw [hb.block bL (lt_of_block h.one)]; exact h.one, h.own.kept (row := none) (grown_of_below hb none) (by cases v.ownBlock <;> simp)⟩
theorem IntsB.ge {w : World} {bL base : Nat} {v : Value} {acc : List Int} (h : IntsB w bL base v acc) : ∀ g, v.ownBlock = some g → base ≤ g ∧ g < w.heap.size := h.own.lt
theorem ClAt.gr {W0 w w' : World} {A : Option Addr} {cap : Nat} {lib : List Fn1} {bl bL bf base : Nat} {v v' : Value} {acc : List Int} (h : ClAt W0 w A cap lib bl bL bf base) (hi : IntsB w bL base v acc) (hg : Gr w w' bL v v') : ClAt W0 w' A cap lib bl bL bf base :=
  ⟨hg.below h.hb h.g1 (fun g e => Nat.le_trans h.g2 (hi.ge g e).1), hg.cell h.cl h.n1 (fun e => by have h1 := (hi.ge _ e.symm).1; have h2 := h.l1; simp at h1; omega), hg.cell h.cf h.n2 (fun e => by have h1 := (hi.ge _ e.symm).1; have h2 := h.l2; simp at h1; omega), h.n1, h.n2, h.l1, h.l2, h.l3, h.g1, h.g2, Nat.le_trans h.g3 hg.size⟩
theorem ClAt.below {W0 w w' : World} {A : Option Addr} {cap : Nat} {lib : List Fn1} {bl bL bf base : Nat} (h : ClAt W0 w A cap lib bl bL bf base) (hb : Below w.heap.size w w') : ClAt W0 w' A cap lib bl bL bf base :=
  ⟨below_step h.hb h.hb.size hb, below_cell hb h.cl, below_cell hb h.cf, h.n1, h.n2, h.l1, h.l2, h.l3, h.g1, h.g2, Nat.le_trans h.g3 hb.size⟩

theorem info_int : (Try.prog.info? 3).map (fun i => (i.zero, i.size, i.bytes)) = some (some (.int .i64 0), 1, 8) := by kernel_rfl
theorem one_i64 (v : Int) : ∀ u : Value, u ∈ [Value.int .i64 v] → u.oneCell' = true := by
  intro u hu; simp at hu; subst hu; rfl

theorem ints_grown {w1 w6 : World} {bL base : Nat} {v : Value} {acc : List Int} {o : Obj} (hI : IntsB w1 bL base v acc) (hL : bL < base) (hgrow : (w1.alloc o).grownBy w6 v.ownBlock) : w6.heap[bL]? = some (.cells #[v] 43 (0, 0)) := by
  have hlt := lt_of_block hI.one
  rw [hgrow.block bL (by simp; omega) (fun e => by have := (hI.ge _ e.symm).1; omega), Below.heap_alloc _ _ _ hlt]
  exact hI.one
theorem ints_push {w1 w6 : World} {bL base : Nat} {v v' : Value} {acc : List Int} {o : Obj} {fi : Int} (hI : IntsB w1 bL base v acc) (hL : bL < base) (hgrow : (w1.alloc o).grownBy w6 v.ownBlock)
    (hown' : w6.ownsRow base 3 1 v' (acc.length + 1) (acc.map (Value.int .i64) ++ [.int .i64 fi])) (hat : v'.ownBlock = v.ownBlock ∨ v'.ownBlock = some (w1.alloc o).heap.size) :
    Gr w1 (w6.setCell ⟨bL, 0, none⟩ v') bL v v' ∧ IntsB (w6.setCell ⟨bL, 0, none⟩ v') bL base v' (acc ++ [fi]) := by
  have h6 := ints_grown hI hL hgrow
  have hsz := hgrow.size
  simp at hsz
  constructor
  · refine ⟨hgrow.os, hgrow.tape, hgrow.output, by simp; omega, fun k hk h1 h2 => ?_, ?_⟩
    · rw [Below.heap_setCell _ _ _ _ (by first | exact h1 | exact fun e => h1 e.symm), hgrow.block k (by simp; omega) h2, Below.heap_alloc _ _ _ hk]
    · rcases hat with e | e
      · exact .inl e
      · exact .inr ⟨_, e, by simp⟩
  · refine ⟨one_setCell h6, ?_⟩
    have := ownsRow_setCell_other hown' (a := ⟨bL, 0, none⟩) (fun e => by have := (hown'.lt _ e).1; simp at this; omega) v'
    rw [List.map_append, List.length_append]
    exact this

def RetCl (lib : List Fn1) (x : Nd) (bL base : Nat) (v : Value) (acc : List Int) (w : World) (e : Ending) (w' : World) : Prop :=
  e = .returned (.tuple #[]) ∧ ∃ v', Gr w w' bL v v' ∧ IntsB w' bL base v' (acc ++ callsT lib x)

set_option maxRecDepth 100000 in
set_option maxHeartbeats 2000000 in
theorem calls1_any (lib : List Fn1) (A : Option Addr) (cap : Nat) (bl bL bf base : Nat) (W0 : World) (hL : LibAt W0 A lib) (hF : LibFit lib) (N : Nat) : ∀ (x : Nd), SizeOf.sizeOf x ≤ N → NdFit x → ∀ (v : Value) (acc : List Int) (Ak : Option Addr) (ck : Nat) (w : World), ClAt W0 w A cap lib bl bL bf base → NdsAt W0 Ak x.kids → IntsB w bL base v acc → acc.length + sizeT x ≤ 1000000 →
    Calls Try.prog 37 #[.agg #[.int .u8 x.kind, .int .i64 x.num, .string x.name, .slice Ak x.kids.length ck], .pointer (some ⟨bl, 0, none⟩), .pointer (some ⟨bL, 0, none⟩), .pointer (some ⟨bf, 0, none⟩)] w (RetCl lib x bL base v acc w) := by
  induction N with
  | zero => intro x hx; exfalso; cases x; simp at hx
  | succ N ih =>
    intro x hx hfit v acc Ak ck w hC hK hI hn
    obtain ⟨hf1, hf2, hf3, hf4⟩ := hfit.facts
    have hse := sizeT_eq x
    have hl := hF.1
    have hbW := below_box w (Obj.cells #[.int .u8 x.kind, .int .i64 x.num, .string x.name, .slice Ak x.kids.length ck] 32)
    have bx := ndB_box w 32 x Ak ck (hK.mono hC.hb)
    have hC1 := Lib.hid (hC.below hbW)
    have hI1 := Lib.hid (hI.below hbW)
    have hlv := hI.ge
    have HLV := Lib.hid hlv
    have HE := Lib.hid (callsT_eq lib x)
    obtain ⟨i0, hi0, hz0, hz1, hz2⟩ := info_parts info_int
    have HI := Lib.hid (And.intro hi0 (And.intro hz0 (And.intro hz1 hz2)))
    clear hi0 hz0 hz1 hz2 hlv
    have hg0 := Gr.of_below hbW bL v
    have m1 : bl < base := hC.l1
    have m2 : bf < base := hC.l2
    have m3 : bL < base := hC.l3
    have m4 : base ≤ w.heap.size := hC.g3
    by_cases h85 : x.kind = 85
    · have k85 : ((x.kind : Int) == 85) = true := by rw [h85]; rfl
      have p1 := hC.cl
      have hlb : bl < w.heap.size := by omega
      have H85 := Lib.hid h85
      clear h85
      go_enter Try.func37, Try.ntmps37
      go_wp2_with fail
      generalize w.alloc _ = W at hbW bx hC1 hI1 hg0 ⊢
      refine (find_any lib A cap x.name _ (hL.mono hC1.out.hb) hl).mono ?_
      rintro e w1 ⟨rfl, hb1⟩
      have bx1 := bx.mono hb1
      have hC2 := Lib.hid (hC1.out.below hb1)
      have hI2 := Lib.hid (hI1.out.below hb1)
      have hG2 := Lib.hid (hg0.trans (Gr.of_below hb1 bL v))
      obtain ⟨b0, b1, b2, b3, _⟩ := id bx1
      clear hb1 p1 k85
      by_cases hfd : 0 ≤ findF lib x.name 0
      · have hEE := Lib.hid (show acc ++ callsT lib x = (acc ++ [findF lib x.name 0]) ++ callsTL lib x.kids by rw [HE.out, if_pos ⟨H85.out, hfd⟩, List.append_assoc])
        have hll := hC2.out.l3
        have p2 := cell_of_one hI2.out.one
        have p3 := free_of_one hI2.out.one
        have hlL := lt_of_block hI2.out.one
        have HOW := Lib.hid hI2.out.own
        have hsz1 : w.heap.size < w1.heap.size := bx1.lt
        generalize findF lib x.name 0 = fi at *
        clear HE
        go_wp2_with (at_builtin; go_loud (refine wpList_append_own_at _ rfl _ _ 43 rfl base 3 i0 (.int .i64 0) 1 8 Try.underlying43 HI.out.1 HI.out.2.1 HI.out.2.2.1 HI.out.2.2.2 rfl (by decide) v acc.length _ rfl (HOW.out.alloc _) ⟨w1.heap.size, 0, none⟩ 1 1 [.int .i64 fi] rfl rfl (one_newB rfl _ _) (one_i64 _) (by unfold maxLen; omega) (by omega) (by simp; omega) ?_; intro v' w6 hown' hgrow _ hat; have hone6 := ints_grown hI2.out hll hgrow; have d3 := hgrow.cell (below_cell (below_box w1 (Obj.cells #[.int .i64 fi] 3)) b3) (fun e => (by have := (HLV.out _ e.symm).2; simp at this)); have hnL : bL ≠ w.heap.size := (by omega); have hnL' : w.heap.size ≠ bL := (by omega); have p4 := cell_of_one hone6; have p5 := free_of_one hone6; have HP := Lib.hid (ints_push hI2.out hll hgrow hown' hat); obtain ⟨A6, c6, rfl, _, _⟩ := own_formB hown'; clear hown' hgrow hat hone6))
        generalize Value.slice A6 _ c6 = v1 at *
        generalize w6.setCell _ v1 = W1 at HP ⊢
        have hG3 := Lib.hid (hG2.out.trans HP.out.1)
        have hI3 := Lib.hid HP.out.2
        have hn1 : (acc ++ [fi]).length = acc.length + 1 := by simp
        generalize acc ++ [fi] = acc1 at *
        clear hg0 hI1 hC1 hbW bx
        have hC3 := Lib.hid (hC.gr hI hG3.out)
        go_loopw [24] (fun i wr => ∃ (k : Nat) (vk : Value), k ≤ x.kids.length ∧ i = .int .i64 k ∧ Hid (Gr W1 wr bL v1 vk) ∧ Hid (IntsB wr bL base vk (acc1 ++ callsTL lib (x.kids.take k)))) (fun i _ => x.kids.length - (intOf i).toNat)
        case atStart => exact ⟨0, v1, by omega, rfl, Lib.hid (Gr.refl _ _ _), by simpa [callsTL] using hI3⟩
        case round =>
          obtain ⟨k, vk, hk, rfl, hGk, hIk⟩ := hrel
          have hCr := Lib.hid (hC3.out.gr hI3.out hGk.out)
          by_cases hin : k < x.kids.length
          · have hst := sizeTL_step hin
            have hct := callsTL_step (lib := lib) hin
            have hsl := sizeTL_le (l := x.kids) (k + 1)
            have hcl := callsTL_le lib (x.kids.take k)
            obtain ⟨b, o, A', cap', rfl, hlt, c0', c1', c2', c3', hK0⟩ := hK.kid hin
            have c0 := below_cell hCr.out.hb c0'
            have c1 := below_cell hCr.out.hb c1'
            have c2 := below_cell hCr.out.hb c2'
            have c3 := below_cell hCr.out.hb c3'
            clear c0' c1' c2' c3'
            have hget : x.kids[k]? = some x.kids[k] := List.getElem?_eq_getElem hin
            have hfy := hfit.kid hget
            have hszy := Nd.kid_lt hget
            generalize x.kids[k] = y at *
            have HCT := Lib.hid hct
            have hbx := below_box wr (Obj.cells #[.int .u8 y.kind, .int .i64 y.num, .string y.name, .slice A' y.kids.length cap'] 32)
            have ihy := ih y (by omega) hfy vk (acc1 ++ callsTL lib (x.kids.take k)) A' cap' _ (hCr.out.below hbx) hK0 (hIk.out.below hbx) (by rw [List.length_append]; omega)
            have HIH := Lib.hid ihy
            have hCf := hCr.out.cf
            have hlf := block_lt_of_cell hCf
            have hlb2 := block_lt_of_cell c0
            clear hget hct hst hsl hcl ihy
            go_wp2_with fail
            refine HIH.out.mono ?_
            rintro e w5 ⟨rfl, v5, hG5, hI5⟩
            rw [List.append_assoc, ← HCT.out] at hI5
            have hG6 := Lib.hid ((hGk.out.trans (Gr.of_below hbx bL vk)).trans hG5)
            have HI5 := Lib.hid hI5
            clear hG5 hI5 HIH
            go_wp2_with fail
            exact ⟨⟨k + 1, v5, by omega, by go_num, hG6, HI5⟩, by simp [intOf]; omega⟩
          · obtain rfl : k = x.kids.length := by omega
            rw [List.take_length, ← hEE.out] at hIk
            have hG6 := Lib.hid (hG3.out.trans hGk.out)
            go_wp2_with fail
            go_end0
            exact ⟨rfl, _, hG6.out, hIk.out⟩
      · have hEE := Lib.hid (show acc ++ callsT lib x = acc ++ callsTL lib x.kids by rw [HE.out, if_neg (fun h => hfd h.2), List.nil_append])
        have hG3 := hG2
        have hI3 := hI2
        generalize findF lib x.name 0 = fi at *
        clear hg0 hI1 hC1 hbW bx HE
        go_wp2_with fail
        have hC3 := Lib.hid (hC.gr hI hG3.out)
        go_loopw [24] (fun i wr => ∃ (k : Nat) (vk : Value), k ≤ x.kids.length ∧ i = .int .i64 k ∧ Hid (Gr w1 wr bL v vk) ∧ Hid (IntsB wr bL base vk (acc ++ callsTL lib (x.kids.take k)))) (fun i _ => x.kids.length - (intOf i).toNat)
        case atStart => exact ⟨0, v, by omega, rfl, Lib.hid (Gr.refl _ _ _), by simpa [callsTL] using hI3⟩
        case round =>
          obtain ⟨k, vk, hk, rfl, hGk, hIk⟩ := hrel
          have hCr := Lib.hid (hC3.out.gr hI3.out hGk.out)
          by_cases hin : k < x.kids.length
          · have hst := sizeTL_step hin
            have hct := callsTL_step (lib := lib) hin
            have hsl := sizeTL_le (l := x.kids) (k + 1)
            have hcl := callsTL_le lib (x.kids.take k)
            obtain ⟨b, o, A', cap', rfl, hlt, c0', c1', c2', c3', hK0⟩ := hK.kid hin
            have c0 := below_cell hCr.out.hb c0'
            have c1 := below_cell hCr.out.hb c1'
            have c2 := below_cell hCr.out.hb c2'
            have c3 := below_cell hCr.out.hb c3'
            clear c0' c1' c2' c3'
            have hget : x.kids[k]? = some x.kids[k] := List.getElem?_eq_getElem hin
            have hfy := hfit.kid hget
            have hszy := Nd.kid_lt hget
            generalize x.kids[k] = y at *
            have HCT := Lib.hid hct
            have hbx := below_box wr (Obj.cells #[.int .u8 y.kind, .int .i64 y.num, .string y.name, .slice A' y.kids.length cap'] 32)
            have ihy := ih y (by omega) hfy vk (acc ++ callsTL lib (x.kids.take k)) A' cap' _ (hCr.out.below hbx) hK0 (hIk.out.below hbx) (by rw [List.length_append]; omega)
            have HIH := Lib.hid ihy
            have hCf := hCr.out.cf
            have hlf := block_lt_of_cell hCf
            have hlb2 := block_lt_of_cell c0
            clear hget hct hst hsl hcl ihy
            go_wp2_with fail
            refine HIH.out.mono ?_
            rintro e w5 ⟨rfl, v5, hG5, hI5⟩
            rw [List.append_assoc, ← HCT.out] at hI5
            have hG6 := Lib.hid ((hGk.out.trans (Gr.of_below hbx bL vk)).trans hG5)
            have HI5 := Lib.hid hI5
            clear hG5 hI5 HIH
            go_wp2_with fail
            exact ⟨⟨k + 1, v5, by omega, by go_num, hG6, HI5⟩, by simp [intOf]; omega⟩
          · obtain rfl : k = x.kids.length := by omega
            rw [List.take_length, ← hEE.out] at hIk
            have hG6 := Lib.hid (hG3.out.trans hGk.out)
            go_wp2_with fail
            go_end0
            exact ⟨rfl, _, hG6.out, hIk.out⟩
    · have hEE := Lib.hid (show acc ++ callsT lib x = acc ++ callsTL lib x.kids by rw [HE.out, if_neg (fun h => h85 h.1), List.nil_append])
      have k85 : ((x.kind : Int) == 85) = false := beqK (n := 85) h85
      clear h85 HE
      go_enter Try.func37, Try.ntmps37
      go_wp2_with fail
      generalize w.alloc _ = W at hbW bx hC1 hI1 hg0 ⊢
      have hG3 := Lib.hid hg0
      have hI3 := hI1
      clear hg0 hI1 hC1 hbW bx
      have hC3 := Lib.hid (hC.gr hI hG3.out)
      go_loopw [24] (fun i wr => ∃ (k : Nat) (vk : Value), k ≤ x.kids.length ∧ i = .int .i64 k ∧ Hid (Gr W wr bL v vk) ∧ Hid (IntsB wr bL base vk (acc ++ callsTL lib (x.kids.take k)))) (fun i _ => x.kids.length - (intOf i).toNat)
      case atStart => exact ⟨0, v, by omega, rfl, Lib.hid (Gr.refl _ _ _), by simpa [callsTL] using hI3⟩
      case round =>
        obtain ⟨k, vk, hk, rfl, hGk, hIk⟩ := hrel
        have hCr := Lib.hid (hC3.out.gr hI3.out hGk.out)
        by_cases hin : k < x.kids.length
        · have hst := sizeTL_step hin
          have hct := callsTL_step (lib := lib) hin
          have hsl := sizeTL_le (l := x.kids) (k + 1)
          have hcl := callsTL_le lib (x.kids.take k)
          obtain ⟨b, o, A', cap', rfl, hlt, c0', c1', c2', c3', hK0⟩ := hK.kid hin
          have c0 := below_cell hCr.out.hb c0'
          have c1 := below_cell hCr.out.hb c1'
          have c2 := below_cell hCr.out.hb c2'
          have c3 := below_cell hCr.out.hb c3'
          clear c0' c1' c2' c3'
          have hget : x.kids[k]? = some x.kids[k] := List.getElem?_eq_getElem hin
          have hfy := hfit.kid hget
          have hszy := Nd.kid_lt hget
          generalize x.kids[k] = y at *
          have HCT := Lib.hid hct
          have hbx := below_box wr (Obj.cells #[.int .u8 y.kind, .int .i64 y.num, .string y.name, .slice A' y.kids.length cap'] 32)
          have ihy := ih y (by omega) hfy vk (acc ++ callsTL lib (x.kids.take k)) A' cap' _ (hCr.out.below hbx) hK0 (hIk.out.below hbx) (by rw [List.length_append]; omega)
          have HIH := Lib.hid ihy
          have hCf := hCr.out.cf
          have hlf := block_lt_of_cell hCf
          have hlb2 := block_lt_of_cell c0
          clear hget hct hst hsl hcl ihy
          go_wp2_with fail
          refine HIH.out.mono ?_
          rintro e w5 ⟨rfl, v5, hG5, hI5⟩
          rw [List.append_assoc, ← HCT.out] at hI5
          have hG6 := Lib.hid ((hGk.out.trans (Gr.of_below hbx bL vk)).trans hG5)
          have HI5 := Lib.hid hI5
          clear hG5 hI5 HIH
          go_wp2_with fail
          exact ⟨⟨k + 1, v5, by omega, by go_num, hG6, HI5⟩, by simp [intOf]; omega⟩
        · obtain rfl : k = x.kids.length := by omega
          rw [List.take_length, ← hEE.out] at hIk
          have hG6 := Lib.hid (hG3.out.trans hGk.out)
          go_wp2_with fail
          go_end0
          exact ⟨rfl, _, hG6.out, hIk.out⟩

theorem clAt_made (w : World) (A : Option Addr) (cap : Nat) (lib : List Fn1) (T1 T3 : TypeId) :
    ClAt w (((w.alloc (Obj.cells #[Value.slice A lib.length cap] T1)).alloc (Obj.cells #[Value.slice none 0 0] 43)).alloc (Obj.cells #[Value.func (Fn.func 37) #[] #[Value.pointer (some { block := w.heap.size, off := 0 }), Value.pointer (some { block := w.heap.size + 1, off := 0 }), Value.pointer (some { block := w.heap.size + 1 + 1, off := 0 })]] T3)) A cap lib w.heap.size (w.heap.size + 1) (w.heap.size + 1 + 1) (w.heap.size + 1 + 1 + 1) ∧
    IntsB (((w.alloc (Obj.cells #[Value.slice A lib.length cap] T1)).alloc (Obj.cells #[Value.slice none 0 0] 43)).alloc (Obj.cells #[Value.func (Fn.func 37) #[] #[Value.pointer (some { block := w.heap.size, off := 0 }), Value.pointer (some { block := w.heap.size + 1, off := 0 }), Value.pointer (some { block := w.heap.size + 1 + 1, off := 0 })]] T3)) (w.heap.size + 1) (w.heap.size + 1 + 1 + 1) (.slice none 0 0) [] := by
  have b1 := below_box w (Obj.cells #[Value.slice A lib.length cap] T1)
  have b2 := below_box (w.alloc (Obj.cells #[Value.slice A lib.length cap] T1)) (Obj.cells #[Value.slice none 0 0] 43)
  have b3 := below_box ((w.alloc (Obj.cells #[Value.slice A lib.length cap] T1)).alloc (Obj.cells #[Value.slice none 0 0] 43)) (Obj.cells #[Value.func (Fn.func 37) #[] #[Value.pointer (some { block := w.heap.size, off := 0 }), Value.pointer (some { block := w.heap.size + 1, off := 0 }), Value.pointer (some { block := w.heap.size + 1 + 1, off := 0 })]] T3)
  refine ⟨⟨below_step (below_step b1 (by simp) b2) (by simp; omega) b3, ?_, ?_, by omega, by omega, by omega, by omega, by omega, by omega, by omega, by simp⟩, ?_, ⟨rfl, .inl ⟨rfl, rfl⟩⟩⟩
  · exact below_cell b3 (below_cell b2 (by simp [go_sem]))
  · simp [go_sem]
  · rw [Below.heap_alloc _ _ _ (by simp)]
    have := heap_alloc_new (w.alloc (Obj.cells #[Value.slice A lib.length cap] T1)) (Obj.cells #[Value.slice none 0 0] 43)
    simpa using this

def callsR (lib : List Fn1) (f : Int) : List Int := if f < 0 ∨ (lib.length : Int) ≤ f then [] else match lib[f.toNat]? with | some g => callsT lib g.body | none => []
/-- A slice of integers. -/
def IntsAt (w : World) (A : Option Addr) (l : List Int) : Prop :=
  ∀ k x, l[k]? = some x → ∃ b o, A = some ⟨b, o, none⟩ ∧ w.cell? ⟨b, o + k, none⟩ = some (.int .i64 x)
theorem IntsAt.mono {w w' : World} {A : Option Addr} {l : List Int} (h : IntsAt w A l) (hb : Below w.heap.size w w') : IntsAt w' A l := fun k x hk => by
  obtain ⟨b, o, e, h1⟩ := h k x hk
  exact ⟨b, o, e, below_cell hb h1⟩
theorem IntsAt.at_ {w : World} {A : Option Addr} {l : List Int} (h : IntsAt w A l) {k : Nat} (hk : k < l.length) : ∃ b o, A = some ⟨b, o, none⟩ ∧ w.cell? ⟨b, o + k, none⟩ = some (.int .i64 l[k]) :=
  h k l[k] (List.getElem?_eq_getElem hk)
theorem ints_of_own {w : World} {base : Nat} {e : TypeId} {v : Value} {l : List Int} (h : w.ownsRow base e 1 v l.length (l.map (Value.int .i64))) : ∃ A c, v = .slice A l.length c ∧ IntsAt w A l := by
  obtain ⟨h1, h2⟩ := id h
  rcases h2 with ⟨rfl, h0⟩ | ⟨g, cap, cur, rfl, hg, hh, hc1, hc2, hc3, hc4⟩
  · refine ⟨none, 0, by rw [h0], fun k x hk => ?_⟩
    have : l = [] := List.length_eq_zero_iff.1 h0
    subst this; simp at hk
  · refine ⟨some ⟨g, 0, none⟩, cap, rfl, fun k x hk => ⟨g, 0, rfl, ?_⟩⟩
    have := h.cells (g := g) rfl k (.int .i64 x) (by simp [hk])
    rw [add0] at this; simpa using this
def RetInts (l : List Int) (w : World) (e : Ending) (w' : World) : Prop := ∃ A c, e = .returned (.slice A l.length c) ∧ IntsAt w' A l ∧ Below w.heap.size w w'

set_option maxRecDepth 100000 in
set_option maxHeartbeats 2000000 in
theorem calls_any (lib : List Fn1) (A : Option Addr) (cap : Nat) (f : Int) (w : World) (hL : LibAt w A lib) (hF : LibFit lib) (hN : ∀ (k : Nat) (f : Fn1), lib[k]? = some f → sizeT f.body ≤ 500000) :
    Calls Try.prog 19 #[.slice A lib.length cap, .int .i64 f] w (RetInts (callsR lib f) w) := by
  have hl := hF.1
  have HE := Lib.hid (callsR.eq_def lib f)
  have hbW := below_box w (Obj.cells #[.slice A lib.length cap] 22)
  by_cases hr : f < 0 ∨ (lib.length : Int) ≤ f
  · rw [if_pos hr] at HE
    have hfin : RetInts (callsR lib f) w (.returned (.slice none 0 0)) (w.alloc (Obj.cells #[.slice A lib.length cap] 22)) := ⟨none, 0, by rw [HE.out]; rfl, by rw [HE.out]; intro k x hk; simp at hk, hbW⟩
    have HFIN := Lib.hid hfin
    clear hfin
    rcases hr with h0 | h1
    · go_enter Try.func19, Try.ntmps19
      go_wp2_with fail
      go_ret
      exact HFIN.out
    · have h0 : ¬ f < 0 := by omega
      go_enter Try.func19, Try.ntmps19
      go_wp2_with fail
      go_ret
      exact HFIN.out
  rw [if_neg hr] at HE
  have h0 : ¬ f < 0 := by omega
  have h1 : ¬ (lib.length : Int) ≤ f := by omega
  obtain ⟨i, rfl⟩ : ∃ i : Nat, f = i := ⟨f.toNat, by omega⟩
  have hi : i < lib.length := by omega
  clear hr
  obtain ⟨b, o, rfl, hfo⟩ := hL.at_ hi
  have hget : lib[i]? = some lib[i] := List.getElem?_eq_getElem hi
  obtain ⟨hfn, hfp, hfb⟩ := hF.2 i _ hget
  have hnn := hN i _ hget
  rw [Int.toNat_natCast, hget] at HE
  generalize lib[i] = g at *
  clear hget
  have hlt := hfo.lt
  obtain ⟨c0, ⟨A1, cp1, c1, hps⟩, c2, hbody⟩ := hfo
  obtain ⟨A3, cp3, d0, d1, d2, d3, hks⟩ := hbody.open_
  have r1 : (0 : Int) ≤ i := by omega
  have r2 : (i : Int) < lib.length := by omega
  obtain ⟨hCA, hIA⟩ := clAt_made w (some ⟨b, o, none⟩) cap lib 22 67
  have HL := Lib.hid hL
  have HKS := Lib.hid hks
  have HD := Lib.hid (And.intro d0 (And.intro d1 (And.intro d2 d3)))
  clear hL hks d0 d1 d2 d3 c0 c1 c2 hps hbody hbW
  go_enter Try.func19, Try.ntmps19
  go_wp2_with fail
  generalize World.alloc _ _ = W at hCA hIA ⊢
  have hbd : Below W.heap.size W W.drew := ⟨rfl, rfl, rfl, Nat.le_refl _, fun _ _ => rfl⟩
  have e1 := hCA.cl
  have e2 := hCA.cf
  obtain ⟨d0', d1', d2', d3'⟩ := HD.out
  have d0 := below_cell hCA.hb d0'
  have d1 := below_cell hCA.hb d1'
  have d2 := below_cell hCA.hb d2'
  have d3 := below_cell hCA.hb d3'
  clear d0' d1' d2' d3'
  have HC := Lib.hid (hCA.below hbd)
  have HI := Lib.hid (hIA.below hbd)
  have hcall := Lib.hid (calls1_any lib (some ⟨b, o, none⟩) cap w.heap.size (w.heap.size + 1) (w.heap.size + 1 + 1) (w.heap.size + 1 + 1 + 1) w HL.out hF _ g.body (Nat.le_refl _) hfb (.slice none 0 0) [] A3 cp3 W.drew HC.out HKS.out HI.out (by simp; omega))
  clear hCA hIA
  go_still_tail 6, (by kernel_rfl)
  change wpList _ _ _ _ _ W.drew
  clear e1 e2 d0 d1 d2 d3 hbd
  generalize W.drew = W2 at hcall HC HI ⊢
  go_wp2_with fail
  refine hcall.out.mono ?_
  rintro e w5 ⟨rfl, v5, hG5, hI5⟩
  rw [List.nil_append] at hI5
  have hb5 := Lib.hid (hG5.below HC.out.hb HC.out.g1 (fun g hg => by cases hg))
  have e5 := cell_of_one hI5.one
  obtain ⟨A5, c5, rfl, hint⟩ := ints_of_own hI5.own
  have HFIN := Lib.hid (show RetInts (callsR lib i) w (.returned (.slice A5 (callsT lib g.body).length c5)) w5 from ⟨A5, c5, by rw [HE.out], by rw [HE.out]; exact hint, hb5.out⟩)
  clear hint hI5 hG5 hcall HC HI HE
  go_wp2_with fail
  go_ret
  exact HFIN.out


end Go.Proofs.Ytafjkmhphakhhaa
