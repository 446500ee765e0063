/-
  The walk of the law ImageNested.
-/
import Derived.Test.YthakiaicnhkfjaaDoorImgL3
import Derived.Test.YthakiaicnhkfjaaDoorImgNestM
namespace Go.Proofs.YthakiaicnhkfjaaDoor
open Go.ChangeShapes Go.WideShapes Go.ChangeAt Go.RowKit Go.Sort

/-- A row of integers. -/
def rowI (n : Nat) (f : Nat → Int) : List Value := (List.range n).map fun j => .int .i64 (f j)
theorem rowI_length (n : Nat) (f : Nat → Int) : (rowI n f).length = n := by simp [rowI]
theorem rowI_get {n j : Nat} (f : Nat → Int) (h : j < n) : (rowI n f)[j]? = some (.int .i64 (f j)) := by simp [rowI, h]
theorem rowI_ext {n : Nat} {xs : List Value} {f : Nat → Int} (hl : xs.length = n) (h : ∀ j, j < n → xs[j]? = some (.int .i64 (f j))) : xs = rowI n f := by
  apply List.ext_getElem?
  intro j
  by_cases hj : j < n
  · rw [h j hj, rowI_get f hj]
  · rw [List.getElem?_eq_none (by omega), List.getElem?_eq_none (by rw [rowI_length]; omega)]
theorem rowI_set {n i : Nat} {f g : Nat → Int} {s : Int} (h : ∀ j, g j = if j = i then s else f j) : (rowI n f).set i (.int .i64 s) = rowI n g := by
  refine rowI_ext (by simp [rowI_length]) fun j hj => ?_
  by_cases e : j = i
  · subst e
    rw [List.getElem?_set_self (by rw [rowI_length]; exact hj), h, if_pos rfl]
  · rw [List.getElem?_set_ne (Ne.symm e), rowI_get f hj, h, if_neg e]
theorem rowI_congr {n : Nat} {f g : Nat → Int} (h : ∀ j, f j = g j) : rowI n f = rowI n g := by
  have : f = g := funext h
  rw [this]

/-- The law's own row of regions. -/
structure NInv (n : Nat) (w3 wr : World) (gI : Nat) (f : Nat → Int) : Prop where
  hb : Below w3.heap.size w3 wr
  own : wr.ownsRow gI 3 1 (.slice (some ⟨gI, 0, none⟩) n n) n (rowI n f)
  hg : w3.heap.size ≤ gI
theorem NInv.below {n : Nat} {w3 wr w' : World} {gI : Nat} {f : Nat → Int} (h : NInv n w3 wr gI f) (hb : Below wr.heap.size wr w') : NInv n w3 w' gI f :=
  ⟨below_step h.hb h.hb.size hb, own_below h.own hb, h.hg⟩
theorem NInv.set {n : Nat} {w3 wr : World} {gI : Nat} {f g : Nat → Int} (h : NInv n w3 wr gI f) {i : Nat} {s : Int} (hf : ∀ j, g j = if j = i then s else f j) : NInv n w3 (wr.setCell ⟨gI, i, none⟩ (.int .i64 s)) gI g :=
  ⟨h.hb.setCell h.hg _, by rw [← rowI_set hf]; exact (h.own.stored i _).1, h.hg⟩
theorem NInv.congr {n : Nat} {w3 wr : World} {gI : Nat} {f g : Nat → Int} (h : NInv n w3 wr gI f) (hf : ∀ j, f j = g j) : NInv n w3 wr gI g := by
  have : f = g := funext hf
  rw [← this]; exact h
theorem NInv.cell {n : Nat} {w3 wr : World} {gI : Nat} {f : Nat → Int} (h : NInv n w3 wr gI f) {j : Nat} (hj : j < n) : wr.cell? ⟨gI, j, none⟩ = some (.int .i64 (f j)) := by
  rw [h.own.cellAt j (by omega)]; exact rowI_get f hj

/-- Integers in a block of the call's own. -/
def RetIntsN (w : World) (l : List Int) (e : Ending) (w' : World) : Prop := ∃ A c, e = .returned (.slice A l.length c) ∧ IntsAt w' A l ∧ (∀ b o, A = some ⟨b, o, none⟩ → w.heap.size ≤ b) ∧ Below w.heap.size w w'
theorem IntsAt.set {w : World} {A : Option Addr} {l : List Int} (h : IntsAt w A l) (b' o' : Nat) (u : Value) (hne : ∀ b o, A = some ⟨b, o, none⟩ → b ≠ b') : IntsAt (w.setCell ⟨b', o', none⟩ u) A l := fun k x hk => by
  obtain ⟨b, o, e, hl, hc⟩ := h k x hk
  have hn := hne b o e
  refine ⟨b, o, e, by simpa [World.setCell] using hl, ?_⟩
  rw [World.cell?_of_block (Below.heap_setCell w ⟨b', o', none⟩ u b hn)]; exact hc

set_option maxRecDepth 100000 in
set_option maxHeartbeats 400000 in
theorem procs_new (l : List Ins) (A : Option Addr) (cap : Nat) (M S : Int) (w : World) (hC : CodeAt w A l) (hl : l.length ≤ 1000000) :
    Calls Tryd.prog 25 #[.agg #[.slice A l.length cap, .int .i64 M, .int .i64 S]] w (RetIntsN w (procsF l 0)) := by
  have hbW := below_box w (Obj.cells #[.slice A l.length cap, .int .i64 M, .int .i64 S] 24)
  have HC := Lib.hid (hC.mono hbW)
  clear hC
  obtain ⟨i0, hi, hz0, hz1, hz2⟩ := info_parts info_int
  have HI := Lib.hid (And.intro hi (And.intro hz0 (And.intro hz1 hz2)))
  clear hi hz0 hz1 hz2
  go_enter Tryd.func25, Tryd.ntmps25
  go_wp2
  generalize w.alloc _ = W at hbW HC ⊢
  go_loopw [3, 9] (fun v i wr => ∃ (k : Nat) (acc : List Int), k ≤ l.length ∧ acc.length ≤ k ∧ i = .int .i64 k ∧ Hid (procsF l 0 = acc ++ procsF (l.drop k) k) ∧ Hid (wr.ownsRow W.heap.size 3 1 v acc.length (acc.map (Value.int .i64))) ∧ Below W.heap.size W wr) (fun _ i _ => l.length - (intOf i).toNat)
  case atStart => exact ⟨0, [], by omega, by simp, rfl, rfl, ⟨rfl, .inl ⟨rfl, rfl⟩⟩, Below.refl _ _⟩
  case round =>
    obtain ⟨k, acc, hk, hk2, rfl, hz, hown, hb⟩ := hrel
    by_cases hin : k < l.length
    · obtain ⟨b, o, rfl, hi⟩ := (HC.out.mono hb).at_ hin
      have hlt := hi.lt
      obtain ⟨c0, c1, c2, c3, c4⟩ := id hi
      have hsz := hb.size
      go_wp2_with (at_builtin; refine wpList_append_own _ rfl _ _ 44 rfl W.heap.size 3 i0 (.int .i64 0) 1 8 Tryd.underlying44 HI.out.1 HI.out.2.1 HI.out.2.2.1 HI.out.2.2.2 rfl (by decide) _ _ _ rfl ((hown.out.alloc _).alloc _) ⟨wr.heap.size + 1, 0, none⟩ 1 1 [.int .i64 k] rfl rfl ?c1 ?c2 ?c3 ?c4 ?c5 ?_)
      case c1 => exact one_new (by simp) _ _
      case c2 => exact one_int _
      case c3 => unfold maxLen; omega
      case c4 => omega
      case c5 => simp; omega
      · intro v' w1 hown' hgrow _
        have hf : ((l[k].op : Int) == 32) = true := by assumption
        have hf' : l[k].op = 32 := by rw [beq_iff_eq] at hf; omega
        have hz2 := Lib.hid (procs_keep hin hz.out hf')
        have hb2 := (((hb.alloc hb.size _).alloc (by simp; omega) _).grown hgrow (by simp; omega) (own_block_ge hown.out))
        have hown2 := Lib.hid hown'
        clear hz hown hown' hgrow
        go_wp2
        exact ⟨⟨k + 1, acc ++ [(k : Int)], by omega, by simp; omega, by go_num, hz2, Lib.hid (by simpa using hown2.out), hb2⟩, by simp [intOf]; omega⟩
      · have hf : ((l[k].op : Int) == 32) = false := by assumption
        have hf' : ¬ l[k].op = 32 := by rw [beq_eq_false_iff_ne] at hf; omega
        exact ⟨⟨k + 1, acc, by omega, by omega, by go_num, procs_drop hin hz.out hf', hown.out.alloc _, hb.alloc hb.size _⟩, by simp [intOf]; omega⟩
    · have hz' : procsF l 0 = acc := by rw [hz.out, List.drop_of_length_le (by omega)]; simp [procsF]
      obtain ⟨A', c', rfl, hI⟩ := ints_of_own hown.out
      have hge := own_block_ge hown.out
      go_wp2
      go_ret
      exact ⟨A', c', by rw [hz']; rfl, by rw [hz']; exact hI, fun b o e => by have := hge b (by rw [e]; rfl); have := hbW.size; omega, hbW.trans (hb.mono hbW.size)⟩

set_option maxRecDepth 100000 in
set_option maxHeartbeats 4000000 in
theorem imageNested_walk (l : List Ins) (A : Option Addr) (cap : Nat) (M S : Int) (w : World) (hC : CodeAt w A l) (hY : Bytes l) (hl63 : l.length ≤ 9223372036854775807) (hT : Tab w) :
    Calls Tryd.prog 10 #[.agg #[.slice A l.length cap, .int .i64 M, .int .i64 S]] w fun e w' => e = .returned (.bool true) ∧ Below w.heap.size w w' := by
  have hbW := below_box w (Obj.cells #[.slice A l.length cap, .int .i64 M, .int .i64 S] 24)
  have im := imgAt_box w 24 A cap M S l hC
  have HT := Lib.hid (hT.mono hbW)
  clear hC hT
  go_enter Tryd.func10, Tryd.ntmps10
  go_wp2_with fail
  generalize w.alloc _ = W at hbW im HT ⊢
  refine (awake23_any _ HT.out).mono ?_
  rintro e w1 ⟨rfl, hb1⟩
  have im1 := im.mono hb1
  have HT1 := Lib.hid (HT.out.mono hb1)
  have q1 := below_step hbW hbW.size hb1
  clear im HT hbW hb1
  obtain ⟨b0, b1, b2, bc⟩ := id im1
  clear bc
  go_wp2_with fail
  refine (great_any l _ _ _ _ _ hl63).mono ?_
  rintro e w2 ⟨rfl, hb2⟩
  have im2 := im1.mono hb2
  have HT2 := Lib.hid (HT1.out.mono hb2)
  have q2 := below_step q1 q1.size hb2
  clear im1 HT1 q1 hb2 b0 b1 b2
  obtain ⟨b0, b1, b2, bc⟩ := id im2
  clear bc
  by_cases h80 : 80 < l.length
  · have g80 : decide (80 < l.length) = true := by simpa using h80
    go_wp2
    go_ret
    exact ⟨rfl, q2⟩
  have g80 : decide (80 < l.length) = false := by simpa using h80
  have hl : l.length ≤ 1000000 := by omega
  go_wp2_with fail
  refine (ivalid_any l _ _ _ _ _ im2.code hY HT2.out hl).mono ?_
  rintro e w3 ⟨rfl, hb3⟩
  have im3 := im2.mono hb3
  have HT3 := Lib.hid (HT2.out.mono hb3)
  have q3 := below_step q2 q2.size hb3
  clear im2 HT2 q2 hb3 b0 b1 b2
  obtain ⟨b0, b1, b2, bc⟩ := id im3
  clear bc
  by_cases hok : okImg l M S = true
  rotate_left
  · have hok' : okImg l M S = false := by simpa using hok
    clear hok
    go_wp2
    go_ret
    exact ⟨rfl, q3⟩
  obtain ⟨hsz, hst⟩ := ok_iff.1 hok
  have hn16 : l.length ≤ 65536 := by simp [sizesB] at hsz; omega
  have HSZ := Lib.hid hsz
  have HST := Lib.hid hst
  clear hsz hst
  obtain ⟨i0, hi, hz0, hz1, hz2⟩ := info_parts info_int
  have HI := Lib.hid (And.intro hi (And.intro hz0 (And.intro hz1 hz2)))
  clear hi hz0 hz1 hz2
  go_wp2_with (at_make; refine wpList_make_full _ rfl _ _ 44 rfl _ 3 i0 (.int .i64 0) 1 Tryd.underlying44 HI.out.1 HI.out.2.1 HI.out.2.2.1 .i64 .i64 _ _ l.length rfl rfl rfl rfl (by rw [HI.out.2.2.2]; omega) (by unfold maxLen; omega) (Nat.le_refl _) ?_; intro W4 own4 hg4)
  have hb4 : Below w3.heap.size w3 W4 := (Below.refl _ _).grown hg4 (Nat.le_refl _) (fun g h => by cases h)
  clear hg4 b0 b1 b2
  have HOWN := Lib.hid own4
  have hgI0 : w3.heap.size ≤ w3.heap.size := Nat.le_refl _
  clear own4
  generalize hgI : w3.heap.size = gI at HOWN hgI0 ⊢
  have HG := Lib.hid (show w3.heap.size ≤ gI by omega)
  clear hgI0
  go_loopw [29] (fun i wr => ∃ (k : Nat) (xs : List Value), k ≤ l.length ∧ i = .int .i64 k ∧ Hid (Below w3.heap.size w3 wr ∧ wr.ownsRow gI 3 1 (.slice (some ⟨gI, 0, none⟩) l.length l.length) l.length xs ∧ ∀ j, j < k → xs[j]? = some (.int .i64 (-1)))) (fun i _ => l.length - (intOf i).toNat)
  case atStart => exact ⟨0, _, by omega, rfl, ⟨by rw [← hgI] at *; exact hb4, HOWN.out, fun j hj => by omega⟩⟩
  case round =>
    obtain ⟨k, xs, hk, rfl, hinv⟩ := hrel
    clear HOWN hb4 hgI
    by_cases hin : k < l.length
    · have hxl : k < xs.length := by have := hinv.out.2.1.1; omega
      have s5 : wr.cell? ⟨gI, k, none⟩ = some xs[k] := by rw [hinv.out.2.1.cellAt k (by omega)]; exact List.getElem?_eq_getElem _
      have z5 := hinv.out.2.1.frozenAt k
      have hnew := Lib.hid (show Below w3.heap.size w3 (wr.setCell ⟨gI, k, none⟩ (.int .i64 (-1))) ∧ (wr.setCell ⟨gI, k, none⟩ (.int .i64 (-1))).ownsRow gI 3 1 (.slice (some ⟨gI, 0, none⟩) l.length l.length) l.length (xs.set k (.int .i64 (-1))) ∧ ∀ j, j < k + 1 → (xs.set k (.int .i64 (-1)))[j]? = some (.int .i64 (-1)) from
        ⟨hinv.out.1.setCell HG.out _, (hinv.out.2.1.stored k _).1, fun j hj => by
          by_cases e : j = k
          · rw [e, List.getElem?_set_self hxl]
          · rw [List.getElem?_set_ne (by omega)]; exact hinv.out.2.2 j (by omega)⟩)
      go_wp2
      exact ⟨⟨k + 1, _, by omega, by go_num, hnew⟩, by simp [intOf]; omega⟩
    have n0 : NInv l.length w3 wr gI (regU l 0) := ⟨hinv.out.1, by
        have hx : xs = rowI l.length (regU l 0) := rowI_ext (by have := hinv.out.2.1.1; omega) (fun j hj => by rw [regU_zero]; exact hinv.out.2.2 j (by omega))
        rw [← hx]; exact hinv.out.2.1, HG.out⟩
    have N0 := Lib.hid n0
    clear hinv n0
    have im4 := im3.mono N0.out.hb
    have HT4 := Lib.hid (HT3.out.mono N0.out.hb)
    obtain ⟨b0, b1, b2, bc⟩ := id im4
    clear bc
    go_wp2_with fail
    refine (procs_new l _ _ _ _ _ im4.code hl).mono ?_
    rintro e w5 ⟨AP, cP, rfl, hP, hPn, hb5⟩
    have hgw : gI < wr.heap.size := (own_lt N0.out.own).1
    have HNE := Lib.hid (show ∀ b o, AP = some ⟨b, o, none⟩ → b ≠ gI from fun b o e => by have := hPn b o e; omega)
    clear hPn
    have N5 := Lib.hid (N0.out.below hb5)
    have HP := Lib.hid hP
    clear N0 im4 HT4 b0 b1 b2 hb5 hP
    have hpl : (procsF l 0).length ≤ l.length := by rw [procsF_length]; exact List.length_filter_le _ _
    go_wp2
    go_loopw [39] (fun i wr => ∃ (m : Nat) (u : Int), m ≤ (procsF l 0).length ∧ i = .int .i64 m ∧ Hid (0 ≤ u ∧ (∀ m' x, m' < m → (procsF l 0)[m']? = some x → x < u) ∧ (∀ x, (procsF l 0)[m]? = some x → u ≤ x)) ∧ Hid (NInv l.length w3 wr gI (regU l u)) ∧ Hid (IntsAt wr AP (procsF l 0))) (fun i _ => (procsF l 0).length - (intOf i).toNat)
    case atStart => exact ⟨0, 0, by omega, rfl, ⟨by omega, fun m' x h => by omega, fun x h => by obtain ⟨s, _, rfl, _⟩ := procs_start h; omega⟩, N5, HP⟩
    case round =>
      obtain ⟨m, u, hm, rfl, hu, N6, HP6⟩ := hrel
      clear N5 HP
      by_cases hmin : m < (procsF l 0).length
      · have hat : (procsF l 0)[m]? = some (procsF l 0)[m] := List.getElem?_eq_getElem hmin
        obtain ⟨sn, hsl, hsv, hs32⟩ := procs_start hat
        obtain ⟨pb, po, rfl, hplt, hpc⟩ := HP6.out.at_ hmin
        rw [hsv] at hpc hat
        obtain ⟨t, ht⟩ := HST.out.pr sn hsl (by rw [hs32]; rfl)
        have hpr : proc l sn t := ⟨hs32, ht⟩
        have hlt := (proc_lt hpr).1
        have hrt := (ptn_range ht).2
        obtain ⟨en, rfl⟩ := Int.eq_ofNat_of_zero_le hrt.1
        have hse : sn < en := by omega
        have hel : en < l.length := by omega
        have HPR := Lib.hid hpr
        have hle : ((en : Int) ≤ sn) = False := by simp; omega
        have hmove := Lib.hid (fun j => regU_move hu.out.1 hu.out.2.1 hat (hu.out.2.2 _ hat) j)
        have hnext := Lib.hid (show (0 : Int) ≤ (sn : Int) + 1 ∧ (∀ m' x, m' < m + 1 → (procsF l 0)[m']? = some x → x < (sn : Int) + 1) ∧ (∀ x, (procsF l 0)[m + 1]? = some x → (sn : Int) + 1 ≤ x) from
          ⟨by omega, fun m' x h1 h2 => by
            by_cases e : m' = m
            · subst e; rw [hat] at h2; have := Option.some.inj h2; omega
            · have := procs_lt h2 hat (by omega); omega, fun x h2 => by have := procs_lt hat h2 (by omega); omega⟩)
        have Ht := Lib.hid ht
        have N7 := Lib.hid ((N6.out.congr hmove.out).congr (fun j => (inU_start l sn j).symm))
        clear hat hsv hs32 ht hpr hlt hrt hu hmove
        have im6 := im3.mono N6.out.hb
        have HT6 := Lib.hid (HT3.out.mono N6.out.hb)
        obtain ⟨b0, b1, b2, bc⟩ := id im6
        clear bc
        go_wp2_with fail
        refine (partner_any l _ _ _ _ _ _ im6.code hY HT6.out hl).mono ?_
        rintro e w7 ⟨rfl, hb7⟩
        rw [Ht.out]
        simp only [ptnI, Option.getD_some, Option.isSome_some]
        have N8 := Lib.hid (N7.out.below hb7)
        have HP8 := Lib.hid (HP6.out.mono hb7)
        clear N6 N7 im6 HT6 b0 b1 b2 hb7 hpc hplt HP6
        go_wp2
        go_loopw [9] (fun i wr => ∃ k : Nat, sn ≤ k ∧ k ≤ en + 1 ∧ i = .int .i64 k ∧ Hid (NInv l.length w3 wr gI (inU l sn k)) ∧ Hid (IntsAt wr (some ⟨pb, po, none⟩) (procsF l 0))) (fun i _ => en + 1 - (intOf i).toNat)
        case atStart => exact ⟨sn, by omega, by omega, rfl, N8, HP8⟩
        case round =>
          obtain ⟨k, hk1, hk2, rfl, N9, HP9⟩ := hrel
          clear N8 HP8
          by_cases hke : k ≤ en
          · have hkl : k < l.length := by omega
            have hfree := inU_free HST.out.nest HPR.out (i := k) (by omega) (by omega)
            have s9 := N9.out.cell hkl
            rw [hfree] at s9
            have z9 := N9.out.own.frozenAt k
            have N10 := Lib.hid (N9.out.set (inU_step (l := l) (s := sn) (i := k) (by omega)))
            have HP10 := Lib.hid (HP9.out.set gI k (.int .i64 sn) HNE.out)
            clear hfree N9 HP9
            go_wp2
            exact ⟨⟨k + 1, by omega, by omega, by go_num, by have := N10.out; exact this, HP10⟩, by simp [intOf]; omega⟩
          · obtain rfl : k = en + 1 := by omega
            have N10 := Lib.hid (N9.out.congr (fun j => inU_end HST.out.nest HPR.out j))
            clear N9
            go_wp2
            exact ⟨⟨m + 1, (sn : Int) + 1, by omega, by go_num, hnext, N10, HP9⟩, by simp [intOf]; omega⟩
      · have N7 := Lib.hid (N6.out.congr (regU_all hu.out.1 (fun m' x h => hu.out.2.1 m' x (by have := (List.getElem?_eq_some_iff.1 h).1; omega) h)))
        clear N6 HP6 hu HNE
        have im6 := im3.mono N7.out.hb
        obtain ⟨b0, b1, b2, bc⟩ := id im6
        clear bc
        go_wp2
        clear b0 b1 b2 im6
        go_loopw [75] (fun i wr' => ∃ k : Nat, k ≤ l.length ∧ i = .int .i64 k ∧ Hid (NInv l.length w3 wr' gI (regP l))) (fun i _ => l.length - (intOf i).toNat)
        case atStart => exact ⟨0, by omega, rfl, N7⟩
        case round =>
          obtain ⟨k, hk, rfl, N8⟩ := hrel
          clear N7
          have q8 := below_step q3 q3.size N8.out.hb
          by_cases hin : k < l.length
          rotate_left
          · go_wp2
            go_ret
            exact ⟨rfl, q8⟩
          have im8 := im3.mono N8.out.hb
          have HT8 := Lib.hid (HT3.out.mono N8.out.hb)
          have hop := hY.at_ hin
          obtain ⟨b, o, rfl, hi⟩ := im8.code.at_ hin
          have hlt := hi.lt
          have hx : atI l (k : Int) = l[k] := atI_nat hin
          generalize hxl : l[k] = x at *
          have Hx := Lib.hid hx
          clear hx hxl
          obtain ⟨c0, c1, c2, c3, c4⟩ := id hi
          obtain ⟨b0, b1, b2, bc⟩ := id im8
          have s8 := im8.lt
          clear bc q8
          go_wp2_with fail
          have ix := insAt_box wr 38 x.op x.a x.b x.c x.d
          have hbx := below_box wr (Obj.cells #[Value.int IntKind.u8 ↑x.op, Value.int IntKind.i64 x.a, Value.int IntKind.i64 x.b, Value.int IntKind.i64 x.c, Value.int IntKind.i64 x.d] 38)
          generalize wr.alloc _ = W9 at ix hbx ⊢
          have im9 := im8.mono hbx
          have HT9 := Lib.hid (HT8.out.mono hbx)
          have N9 := Lib.hid (N8.out.below hbx)
          clear c0 c1 c2 c3 c4 hi hlt b0 b1 b2 im8 HT8 hbx s8 N8
          refine (partner_any l _ _ _ _ _ _ im9.code hY HT9.out hl).mono ?_
          rintro e w10 ⟨rfl, hb10⟩
          have ix10 := ix.mono hb10
          have N10 := Lib.hid (N9.out.below hb10)
          clear im9 HT9 ix hb10 N9
          obtain ⟨c0, c1, c2, c3, c4, fz⟩ := id ix10
          cases hp : ptn l (k : Int) with
          | none =>
            simp only [ptnI, Option.getD_none, Option.isSome_none]
            clear hp
            go_wp2
            go_quiet (fail)
            go_wp2
            exact ⟨⟨k + 1, by omega, by go_num, Lib.hid (N10.out.below ⟨rfl, rfl, rfl, Nat.le_refl _, fun _ _ => rfl⟩)⟩, by simp [intOf]; omega⟩
          | some t =>
            have hrt := (ptn_range hp).2
            obtain ⟨p, rfl⟩ := Int.eq_ofNat_of_zero_le hrt.1
            have hpl2 : p < l.length := by omega
            have e0 := N10.out.cell hin
            have e1 := N10.out.cell hpl2
            simp only [ptnI, Option.getD_some, Option.isSome_some]
            have r1 : (0 : Int) ≤ k := by omega
            have r2 : (k : Int) < l.length := by omega
            have r3 : (0 : Int) ≤ p := by omega
            have r4 : (p : Int) < l.length := by omega
            by_cases hjl : (jmpB x.op || lndB x.op) = true
            · have hreg := reg_jump HST.out hp (by rw [Hx.out]; exact hjl)
              rw [hreg] at e0
              generalize regP l p = R at e0 e1
              have d0 := cell_regrown e0
              have d1 := cell_regrown e1
              have d2 := cell_regrown c0
              have hjj : jmpB x.op = true ∨ (jmpB x.op = false ∧ lndB x.op = true) := by
                cases h1 : jmpB x.op <;> simp [h1] at hjl ⊢; exact hjl
              clear hp hreg hjl hrt
              rcases hjj with j1 | ⟨j1, j2⟩
              all_goals
                go_wp2
                refine wp_region_quiet_below (by kernel_rfl) (by kernel_rfl) ?_
                repeat (first | go_big_quiet_step ((first | (go_at_call 22; exact Calls.regrown_of (isJump_bel x.op hop _)) | (go_at_call 23; exact Calls.regrown_of (isLanding_bel x.op hop _)))) | quiet_step ((first | (go_at_call 22; exact Calls.regrown_of (isJump_bel x.op hop _)) | (go_at_call 23; exact Calls.regrown_of (isLanding_bel x.op hop _)))))
                refine wpQuiet_nil ?_
                intro wq hw'
                obtain ⟨⟨dq, osq⟩, hw''⟩ := hw'
                have hbq := below_regrown w10 dq osq
                rw [← hw''] at hbq
                clear hw''
                go_wp2
                exact ⟨⟨k + 1, by omega, by go_num, Lib.hid (N10.out.below hbq)⟩, by simp [intOf]; omega⟩
            · have j1 : jmpB x.op = false := by simp at hjl; exact hjl.1
              have j2 : lndB x.op = false := by simp at hjl; exact hjl.2
              have d2 := cell_regrown c0
              clear hp hjl hrt
              go_wp2
              refine wp_region_quiet_below (by kernel_rfl) (by kernel_rfl) ?_
              repeat (first | go_big_quiet_step ((first | (go_at_call 22; exact Calls.regrown_of (isJump_bel x.op hop _)) | (go_at_call 23; exact Calls.regrown_of (isLanding_bel x.op hop _)))) | quiet_step ((first | (go_at_call 22; exact Calls.regrown_of (isJump_bel x.op hop _)) | (go_at_call 23; exact Calls.regrown_of (isLanding_bel x.op hop _)))))
              refine wpQuiet_nil ?_
              intro wq hw'
              obtain ⟨⟨dq, osq⟩, hw''⟩ := hw'
              have hbq := below_regrown w10 dq osq
              rw [← hw''] at hbq
              clear hw''
              go_wp2
              exact ⟨⟨k + 1, by omega, by go_num, Lib.hid (N10.out.below hbq)⟩, by simp [intOf]; omega⟩

end Go.Proofs.YthakiaicnhkfjaaDoor
