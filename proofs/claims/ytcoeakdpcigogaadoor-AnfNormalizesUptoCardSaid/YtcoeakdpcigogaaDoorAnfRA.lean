/-
  The reference's Decimal, names, temp.
  The reference's temporaries.
  The reference's Expr: its contract; a variable.
  The reference's Expr: types (plain); a temporary's type given late.
  The reference's Expr: a choice.
  The reference's Expr: the walk of a choice.
  The reference's Expr: a let.
  The reference's Expr: an operation's rows (plain).
  The reference's Expr: an operation's walk.
  The reference's Expr: every kind.
-/
import Derived.Test.YtcoeakdpcigogaaDoorAnfVd3
import Derived.Test.YtcoeakdpcigogaaDoorAnfVl4
import Derived.Test.YtcoeakdpcigogaaDoorAnfEx9
import Derived.Test.YtcoeakdpcigogaaDoorAnfPl
import Derived.Deep.RegionHeld3
namespace Go.Proofs.YtcoeakdpcigogaaDoor
open Go.ChangeShapes Go.WideShapes Go.ChangeAt Go.RowKit Go.Sort Go.Maps

def bsD (l : List UInt8) : ByteArray := ⟨l.toArray⟩
theorem bsD_app (a b : List UInt8) : bsD a ++ bsD b = bsD (a ++ b) := by
  unfold bsD
  rw [ByteArray.ext_iff]
  rw [ByteArray.data_append]
  simp
theorem bsD_size (l : List UInt8) : (bsD l).size = l.length := by unfold bsD; simp [ByteArray.size]
theorem ten_subD (d : Nat) (h : d < 10) : (⟨#[48, 49, 50, 51, 52, 53, 54, 55, 56, 57]⟩ : ByteArray).extract d (d + 1) = bsD [UInt8.ofNat (48 + d)] := by
  rcases (show d = 0 ∨ d = 1 ∨ d = 2 ∨ d = 3 ∨ d = 4 ∨ d = 5 ∨ d = 6 ∨ d = 7 ∨ d = 8 ∨ d = 9 by omega) with h | h | h | h | h | h | h | h | h | h <;> (subst h; decide +kernel)
theorem decLen : ∀ (N u : Nat), u ≤ N → (Lib.decDigits u).length ≤ u + 1
  | 0, u, h => by rw [show u = 0 by omega, td_small (by omega)]; simp
  | N + 1, u, h => by
    by_cases hu : u < 10
    · rw [td_small hu]; simp
    · rw [td_big hu, List.length_append]
      have := decLen N (u / 10) (by omega)
      simp
      omega
theorem tmpN_dec (n : Nat) : (⟨#[116]⟩ : ByteArray) ++ bsD (Lib.decDigits n) = tmpN n := by
  have e : Lib.itoa (n : Int) = Lib.decDigits n := by unfold Lib.itoa; rw [if_neg (by omega)]; simp
  have := tmpN_cat n
  rw [e] at this
  exact this

set_option maxRecDepth 100000 in
set_option maxHeartbeats 2000000 in
theorem rdecimal_any : ∀ (N n : Nat), n ≤ N → N ≤ 1000000 → ∀ (w : World),
    Calls Tryd.prog 68 #[.int .i64 n] w fun e w' => e = .returned (.string (bsD (Lib.decDigits n))) ∧ w' = w := by
  intro N
  induction N with
  | zero =>
    intro n hn hN w
    obtain rfl : n = 0 := by omega
    have HE := Lib.hid (show (⟨#[48, 49, 50, 51, 52, 53, 54, 55, 56, 57]⟩ : ByteArray).extract 0 1 = bsD (Lib.decDigits 0) by rw [td_small (by omega)]; exact ten_subD 0 (by omega))
    go_enter Tryd.func68, Tryd.ntmps68
    go_wp2_with fail
    go_ret
    exact ⟨by rw [← HE.out]; rfl, rfl⟩
  | succ N ih =>
    intro n hn hN w
    have HIH := Lib.hid ih
    have r2 : (0 : Int) ≤ (n : Int) % 10 := by omega
    have r3 : (n : Int) % 10 ≤ (n : Int) % 10 + 1 := by omega
    have r4 : (n : Int) % 10 + 1 ≤ 10 := by omega
    have r5 : ((n : Int) % 10).toNat = n % 10 := by omega
    have r6 : ((n : Int) % 10 + 1).toNat = n % 10 + 1 := by omega
    obtain ⟨d8, hd8⟩ : ∃ d, d = bsD [UInt8.ofNat (48 + n % 10)] := ⟨_, rfl⟩
    have hT := Lib.hid (show (⟨#[48, 49, 50, 51, 52, 53, 54, 55, 56, 57]⟩ : ByteArray).extract (n % 10) (n % 10 + 1) = d8 by rw [hd8]; exact ten_subD (n % 10) (by omega))
    have HD8 := Lib.hid hd8
    clear ih hd8
    by_cases h10 : n < 10
    · have HE := Lib.hid (show d8 = bsD (Lib.decDigits n) by rw [HD8.out, td_small h10, Nat.mod_eq_of_lt h10])
      have h10' : (n : Int) < 10 := by omega
      go_enter Tryd.func68, Tryd.ntmps68
      go_wp2_with fail
      rw [hT.out]
      go_wp2_with fail
      go_ret
      exact ⟨by rw [← HE.out]; rfl, rfl⟩
    · have HE := Lib.hid (show bsD (Lib.decDigits (n / 10)) ++ d8 = bsD (Lib.decDigits n) by rw [HD8.out, td_big h10, bsD_app])
      have h10' : ¬ (n : Int) < 10 := by omega
      have HC := Lib.hid (HIH.out (n / 10) (by omega) (by omega) w)
      have hsz : (bsD (Lib.decDigits (n / 10))).size ≤ 1000001 := by rw [bsD_size]; have := decLen (n / 10) (n / 10) (Nat.le_refl _); omega
      have hs1 : d8.size = 1 := by rw [HD8.out, bsD_size]; rfl
      have hdv : ((n / 10 : Nat) : Int) = (n : Int) / 10 := by omega
      rw [hdv] at HC
      have hcc : ¬ 9223372036854775807 < (bsD (Lib.decDigits (n / 10))).size + d8.size := by omega
      go_enter Tryd.func68, Tryd.ntmps68
      go_wp2_with fail
      rw [hT.out]
      go_wp2_with fail
      refine HC.out.mono ?_
      rintro e w' ⟨rfl, rfl⟩
      go_wp2_with fail
      go_ret
      exact ⟨by rw [← HE.out]; rfl, rfl⟩

set_option maxRecDepth 100000 in
set_option maxHeartbeats 2000000 in
theorem rnames_any : ∀ (N : Nat) (x : Nd), SizeOf.sizeOf x ≤ N → formT x = true → ∀ (Ak : Option Addr) (ck : Nat) (w : World), NdsAt w Ak x.kids →
    Calls Tryd.prog 53 #[.agg #[.int .u8 x.kind, .int .i64 x.num, .string x.name, .slice Ak x.kids.length ck]] w fun e w' => e = .returned (.bool (namesT x)) ∧ Below w.heap.size w w' := by
  intro N
  induction N with
  | zero =>
    intro x hx
    exfalso
    cases x
    simp at hx
  | succ N ih =>
    intro x hx hf Ak ck w hK
    have HIH := Lib.hid ih
    have HBX := Lib.hid (below_box w (Obj.cells #[.int .u8 x.kind, .int .i64 x.num, .string x.name, .slice Ak x.kids.length ck] 53))
    have HRX := Lib.hid (bx_new w #[.int .u8 x.kind, .int .i64 x.num, .string x.name, .slice Ak x.kids.length ck] 53)
    have HK := Lib.hid hK
    have HNM := Lib.hid (namesT_eq x)
    clear ih hK
    by_cases hk : x.kind = 84
    · have hlen := form_len2 hf hk
      obtain ⟨p, q, hpq⟩ : ∃ p q, x.kids = [p, q] := by
        match hy : x.kids, hlen with
        | [p, q], _ => exact ⟨p, q, rfl⟩
      obtain ⟨kb, ko, rfl, ho⟩ := (HK.out.mono HBX.out) 1 q (by rw [hpq]; rfl)
      obtain ⟨Aq, cq, e0, e1, e2, e3, e4⟩ := ho.open_
      simp only [Nat.one_mul] at e0 e1 e2 e3
      have hfq : formT q = true := formTL_kid (formT_kids hf).2 (k := 1) (show x.kids[1]? = some q by rw [hpq]; rfl)
      have HC := Lib.hid (fun (w' : World) (hb' : Below (w.alloc (Obj.cells #[.int .u8 x.kind, .int .i64 x.num, .string x.name, .slice (some ⟨kb, ko, none⟩) x.kids.length ck] 53)).heap.size (w.alloc (Obj.cells #[.int .u8 x.kind, .int .i64 x.num, .string x.name, .slice (some ⟨kb, ko, none⟩) x.kids.length ck] 53)) w') => HIH.out q (by
        cases x with
        | mk k1 n1 s1 l1 =>
          have e : l1 = [p, q] := hpq
          subst e
          simp at hx
          omega) hfq Aq cq w' (e4.mono hb'))
      have HNE := Lib.hid (show namesT q = namesT x by rw [HNM.out, if_pos hk, hpq]; rfl)
      have hltk : kb < (w.alloc (Obj.cells #[.int .u8 x.kind, .int .i64 x.num, .string x.name, .slice (some ⟨kb, ko, none⟩) x.kids.length ck] 53)).heap.size := block_lt_of_cell e0
      have r1 : (1 : Int) < x.kids.length := by omega
      have r2 : 1 < x.kids.length := by omega
      have hkk : ((x.kind : Int) == 84) = true := by rw [hk]; rfl
      clear ho e4 hpq hlen hk hf hx hfq
      go_enter Tryd.func53, Tryd.ntmps53
      go_upto_region 1 with fail
      generalize w.alloc _ = W at HBX HRX HC hltk e0 e1 e2 e3 ⊢
      obtain ⟨a0, a1, a2, a3, _⟩ := HRX.out.four
      have hlt := HRX.out.lt
      have HCW := Lib.hid (HC.out W (Below.refl _ _))
      clear HC
      go_wp2_with fail
      refine HCW.out.mono ?_
      rintro e w5 ⟨rfl, hb5⟩
      have HB5 := Lib.hid (below_step HBX.out HBX.out.size hb5)
      rw [HNE.out]
      clear hb5 a0 a1 a2 a3 e0 e1 e2 e3 hlt hltk
      go_wp2_with fail
      go_ret
      exact ⟨rfl, HB5.out⟩
    · have HNE := Lib.hid (show namesT x = decide (x.kind = 81) by rw [HNM.out, if_neg hk])
      have hkk : ((x.kind : Int) == 84) = false := beq_eq_false_iff_ne.2 (by omega)
      have hk81 : ((x.kind : Int) == 81) = decide (x.kind = 81) := by
        by_cases e : x.kind = 81
        · rw [e]; rfl
        · rw [decide_eq_false e]; exact beq_eq_false_iff_ne.2 (by omega)
      clear hk hf hx
      go_enter Tryd.func53, Tryd.ntmps53
      go_upto_region 1 with fail
      generalize w.alloc _ = W at HBX HRX ⊢
      obtain ⟨a0, a1, a2, a3, _⟩ := HRX.out.four
      have hlt := HRX.out.lt
      generalize decide (x.kind = 81) = b81 at *
      go_wp2_with fail
      go_ret
      exact ⟨ret_bool HNE.out.symm, HBX.out⟩

end Go.Proofs.YtcoeakdpcigogaaDoor

namespace Go.Proofs.YtcoeakdpcigogaaDoor
open Go.ChangeShapes Go.WideShapes Go.ChangeAt Go.RowKit Go.Sort Go.Maps

/-- The reference's temporaries: the block G holds their slice, which has a row of its own. -/
structure GnAt (w : World) (G BT : Nat) (ts : List Pm) (u : Value) : Prop where
  g : Bx w G #[u]
  own : w.ownsRow BT 65 2 u ts.length (pCells ts)
  lt : G < BT
  b : BT ≤ w.heap.size
/-- What may turn. -/
def Hs (G : Nat) (u : Value) : Nat → Prop := fun k => k = G ∨ some k = u.ownBlock
/-- The row stays, or is a new one. -/
def NwU (w : World) (u u' : Value) : Prop := ∀ g, u'.ownBlock = some g → u.ownBlock = some g ∨ w.heap.size ≤ g
theorem NwU.refl (w : World) (u : Value) : NwU w u u := fun _ h => .inl h
theorem NwU.trans {w w1 : World} {u u1 u2 : Value} (h : NwU w u u1) (h2 : NwU w1 u1 u2) (hs : w.heap.size ≤ w1.heap.size) : NwU w u u2 := fun g hg => by
  rcases h2 g hg with e | e
  · exact h g e
  · exact .inr (by omega)
theorem GnAt.fr {w w' : World} {G BT : Nat} {ts : List Pm} {u : Value} (h : GnAt w G BT ts u) {m : Nat → Prop} (hf : Fr w w' m) (hG : ¬ m G) (hu : ∀ g, u.ownBlock = some g → ¬ m g) : GnAt w' G BT ts u :=
  ⟨h.g.fr hf hG, hf.own h.own hu, h.lt, Nat.le_trans h.b hf.size⟩
theorem GnAt.below {w w' : World} {G BT : Nat} {ts : List Pm} {u : Value} (h : GnAt w G BT ts u) (hb : Below w.heap.size w w') : GnAt w' G BT ts u := h.fr (Fr.of_below hb fun _ => False) id fun _ _ => id
theorem GnAt.ge {w : World} {G BT : Nat} {ts : List Pm} {u : Value} (h : GnAt w G BT ts u) : ∀ g, u.ownBlock = some g → BT ≤ g ∧ g < w.heap.size := fun g hg => ⟨(own_ty h.own g hg).1, (h.own.lt g hg).2⟩
theorem GnAt.ne {w : World} {G BT : Nat} {ts : List Pm} {u : Value} (h : GnAt w G BT ts u) : u.ownBlock ≠ some G := fun e => by have := (h.ge G e).1; have := h.lt; omega
def RetTm (G BT : Nat) (ts : List Pm) (u : Value) (l : Bool) (w : World) (e : Ending) (w' : World) : Prop := e = .returned (.string (tmpN ts.length)) ∧ ∃ u', GnAt w' G BT (ts ++ [⟨tmpN ts.length, l⟩]) u' ∧ Fr w w' (Hs G u) ∧ NwU w u u'
theorem tm_made {w w9 : World} {G BT : Nat} {ts : List Pm} {u v' : Value} {l : Bool} {o : Obj} (h : GnAt w G BT ts u) (hown' : w9.ownsRow BT 65 2 v' (ts.length + 1) (pCells ts ++ [.string (tmpN ts.length), .bool l])) (hg : (w.alloc o).grownBy w9 u.ownBlock) (hat : v'.ownBlock = u.ownBlock ∨ v'.ownBlock = some (w.alloc o).heap.size) : ∃ u', GnAt (w9.setCell ⟨G, 0, none⟩ v') G BT (ts ++ [⟨tmpN ts.length, l⟩]) u' ∧ Fr w (w9.setCell ⟨G, 0, none⟩ v') (Hs G u) ∧ NwU w u u' := by
  have hlG := h.g.lt
  have hso : (w.alloc o).heap.size = w.heap.size + 1 := by simp
  have f9 : Fr w w9 (fun k => some k = u.ownBlock) := (Fr.of_below (below_box w o) _).trans (Fr.of_grown hg) fun _ _ e => e
  have hnv : ∀ g, v'.ownBlock = some g → ¬ g = G := fun g hg e => by
    subst e
    rcases hat with q | q
    · exact h.ne (q ▸ hg)
    · rw [q] at hg; cases hg; omega
  refine ⟨v', ⟨(h.g.fr f9 fun e => h.ne e.symm).set 0 v', ?_, h.lt, Nat.le_trans h.b (Nat.le_trans f9.size (by simp))⟩, (f9.mono fun _ _ e => .inr e).trans (Fr.of_set w9 ⟨G, 0, none⟩ v') fun k _ e => .inl e, fun g hg => ?_⟩
  · rw [List.length_append, pCells_snoc]
    exact (Fr.of_set w9 ⟨G, 0, none⟩ v').own hown' fun g hg e => hnv g hg e
  · rcases hat with q | q
    · exact .inl (q ▸ hg)
    · rw [q] at hg; cases hg; exact .inr (by omega)

set_option maxRecDepth 100000 in
set_option maxHeartbeats 4000000 in
theorem rtemp_any {w : World} {G BT : Nat} {ts : List Pm} {u : Value} (h : GnAt w G BT ts u) (l : Bool) (hl : ts.length ≤ 100000) :
    Calls Tryd.prog 52 #[.pointer (some ⟨G, 0, none⟩), .bool l] w (RetTm G BT ts u l w) := by
  obtain ⟨At, ct, rfl, hct, hqq⟩ := own_formB h.own
  clear hqq
  obtain ⟨i0, hi0, hz0, hz1, hz2⟩ := info_parts info_param
  have HI := Lib.hid (And.intro hi0 (And.intro hz0 (And.intro hz1 hz2)))
  have HG := Lib.hid h
  have HD := Lib.hid (rdecimal_any ts.length ts.length (Nat.le_refl _) (by omega) w)
  have HT := Lib.hid (tmpN_dec ts.length)
  have y0 := h.g.cell (j := 0) rfl
  have f0 := h.g.free 0
  have hlt := h.g.lt
  have hsz : (bsD (Lib.decDigits ts.length)).size ≤ 100001 := by rw [bsD_size]; have := decLen ts.length ts.length (Nat.le_refl _); omega
  have h45 : (⟨#[116]⟩ : ByteArray).size = 1 := rfl
  have hcc : ¬ 9223372036854775807 < 1 + (bsD (Lib.decDigits ts.length)).size := by omega
  clear h hi0 hz0 hz1 hz2
  go_enter Tryd.func52, Tryd.ntmps52
  go_wp2_with fail
  refine HD.out.mono ?_
  clear HD
  rintro e w' ⟨rfl, rfl⟩
  go_upto_region 2 with fail
  rw [HT.out]
  clear hcc h45 hsz HT
  generalize hnm : tmpN ts.length = nm at *
  go_wp2_with (at_builtin; go_loud (refine wpList_app _ rfl _ _ 36 rfl BT 65 i0 (.agg #[.string ⟨#[]⟩, .bool false]) 2 24 Tryd.underlying36 HI.out.1 HI.out.2.1 HI.out.2.2.1 HI.out.2.2.2 rfl (by decide) (.slice At ts.length ct) ts.length (pCells ts) rfl (HG.out.own.alloc _) (some ⟨_, 0, none⟩) 1 1 [.string nm, .bool l] rfl rfl (cells_newC _ rfl _ _) (fun v hv => by simp at hv; rcases hv with rfl | rfl <;> rfl) (by unfold maxLen; omega) (by omega) (by have := HG.out.b; simp; omega) ?_; intro v' w9 hown' hgrow hat; have HM := Lib.hid (tm_made (l := l) HG.out (by rw [hnm]; exact hown') hgrow hat); have z0 := (((HG.out.g.below (below_box _ _)).fr (Fr.of_grown hgrow) (fun e => HG.out.ne e.symm)).cell (j := 0) rfl); have z1 := (((HG.out.g.below (below_box _ _)).fr (Fr.of_grown hgrow) (fun e => HG.out.ne e.symm)).free 0); have hlt9 := block_lt_of_cell z0; obtain ⟨A9, c9, rfl, hc9, hqq⟩ := own_formB hown'; clear hqq hown' hgrow hat))
  clear y0 f0 z0 z1 hlt hlt9
  generalize World.setCell _ _ _ = W9 at HM ⊢
  go_ret
  exact ⟨by rw [hnm]; rfl, HM.out⟩

end Go.Proofs.YtcoeakdpcigogaaDoor

namespace Go.Proofs.YtcoeakdpcigogaaDoor
open Go.ChangeShapes Go.WideShapes Go.ChangeAt Go.RowKit Go.Sort Go.Maps

theorem RowG.app {α : Type} {C : List Value → α → Prop} {cs ds : List Value} {l m : List α} (h : RowG C cs l) (h2 : RowG C ds m) : RowG C (cs ++ ds) (l ++ m) := by
  induction h2 with
  | nil => simpa using h
  | snoc _ hc ih => rw [← List.append_assoc, ← List.append_assoc]; exact .snoc ih hc
/-! ### The reference's variables -/
abbrev Vr := ByteArray × Pm
def vrC (v : Vr) : List Value := [.string v.1, .string v.2.name, .bool v.2.list]
def vrCs (el : List Vr) : List Value := el.flatMap vrC
/-- The last variable of that name. -/
def lastE (el : List Vr) : ByteArray → Option Pm := el.foldl (fun e v => setP e v.1 (some v.2)) fun _ => none
theorem vrCs_len (el : List Vr) : (vrCs el).length = el.length * 3 := by
  unfold vrCs
  induction el with
  | nil => rfl
  | cons v r ih => rw [List.flatMap_cons, List.length_append, ih, List.length_cons]; simp [vrC]; omega
theorem vrCs_snoc (el : List Vr) (v : Vr) : vrCs (el ++ [v]) = vrCs el ++ vrC v := by unfold vrCs; rw [List.flatMap_append]; simp
theorem vrCs_one (el : List Vr) : ∀ u ∈ vrCs el, u.oneCell' = true := by
  intro u hu
  unfold vrCs at hu
  obtain ⟨v, _, h⟩ := List.mem_flatMap.1 hu
  unfold vrC at h
  simp at h
  rcases h with rfl | rfl | rfl <;> rfl
theorem vrCs_get {el : List Vr} {k : Nat} {v : Vr} (hk : el[k]? = some v) : (vrCs el)[k * 3]? = some (.string v.1) ∧ (vrCs el)[k * 3 + 1]? = some (.string v.2.name) ∧ (vrCs el)[k * 3 + 2]? = some (.bool v.2.list) := by
  induction el generalizing k with
  | nil => simp at hk
  | cons x r ih =>
    have e : vrCs (x :: r) = .string x.1 :: .string x.2.name :: .bool x.2.list :: vrCs r := by unfold vrCs; rw [List.flatMap_cons]; rfl
    rw [e]
    cases k with
    | zero => simp at hk; subst hk; exact ⟨rfl, rfl, rfl⟩
    | succ k =>
      simp at hk
      obtain ⟨h1, h2, h3⟩ := ih hk
      rw [show (k + 1) * 3 = k * 3 + 3 by omega]
      exact ⟨h1, h2, h3⟩
theorem lastE_snoc (el : List Vr) (v : Vr) : lastE (el ++ [v]) = setP (lastE el) v.1 (some v.2) := by unfold lastE; rw [List.foldl_append]; rfl
theorem lastE_step {el : List Vr} {k : Nat} (h : k < el.length) (s : ByteArray) : lastE (el.take (k + 1)) s = if el[k].1 = s then some el[k].2 else lastE (el.take k) s := by
  rw [List.take_succ_eq_append_getElem h, lastE_snoc]
  unfold setP
  by_cases e : el[k].1 = s
  · rw [if_pos e, if_pos e.symm]
  · rw [if_neg e, if_neg (fun h => e h.symm)]
/-- Cells outside of some blocks. -/
def CelX (w : World) (X : Nat → Prop) (A : Option Addr) (cs : List Value) : Prop := ∀ (j : Nat) (u : Value), cs[j]? = some u → ∃ b o, A = some ⟨b, o, none⟩ ∧ ¬ X b ∧ w.cell? ⟨b, o + j, none⟩ = some u
theorem CelX.le {w w' : World} {X X' : Nat → Prop} {A : Option Addr} {cs : List Value} (h : CelX w X A cs) (hl : Le w X w' X') : CelX w' X' A cs := fun j u hj => by
  obtain ⟨b, o, e, h1, c⟩ := h j u hj
  exact ⟨b, o, e, (hl _ _ c h1).2, (hl _ _ c h1).1⟩
theorem CelX.at_ {w : World} {X : Nat → Prop} {A : Option Addr} {cs : List Value} (h : CelX w X A cs) : CellsAt w A cs := fun j u hj => by
  obtain ⟨b, o, e, _, c⟩ := h j u hj
  exact ⟨b, o, e, c⟩

/-! ### The contract -/
structure RPre (W0 w : World) (G BT : Nat) (ts : List Pm) (u : Value) (Ae : Option Addr) (el : List Vr) : Prop where
  bw : Below W0.heap.size W0 w
  gn : GnAt w G BT ts u
  g0 : W0.heap.size ≤ G
  ev : CelX w (Hs G u) Ae (vrCs el)
theorem Hs.ge {W0 w : World} {G BT : Nat} {ts : List Pm} {u : Value} (h : GnAt w G BT ts u) (g0 : W0.heap.size ≤ G) : ∀ k, Hs G u k → W0.heap.size ≤ k := fun k e => by
  rcases e with e | e
  · omega
  · have := (h.ge k e.symm).1; have := h.lt; omega
theorem RPre.step {W0 w w' : World} {G BT : Nat} {ts ts' : List Pm} {u u' : Value} {Ae : Option Addr} {el : List Vr} (h : RPre W0 w G BT ts u Ae el) (hg : GnAt w' G BT ts' u') (hf : Fr w w' (Hs G u)) (hn : NwU w u u') : RPre W0 w' G BT ts' u' Ae el :=
  ⟨hf.toBelow h.bw h.bw.size (Hs.ge h.gn h.g0), hg, h.g0, h.ev.le (Le.of_fr hf (fun _ _ e => e) fun k hk e => by
    rcases e with e | e
    · exact .inl e
    · rcases hn k e.symm with q | q
      · exact .inr q.symm
      · omega)⟩
theorem RPre.below {W0 w w' : World} {G BT : Nat} {ts : List Pm} {u : Value} {Ae : Option Addr} {el : List Vr} (h : RPre W0 w G BT ts u Ae el) (hb : Below w.heap.size w w') : RPre W0 w' G BT ts u Ae el :=
  h.step (h.gn.below hb) (Fr.of_below hb _) (NwU.refl _ _)
/-- A row of binds, made since base. -/
def Bo (w : World) (base G : Nat) (u v : Value) (bs : List Bd) : Prop := ∃ cs, w.ownsRow base 92 8 v bs.length cs ∧ RowG (BdC w fun k => k < base ∨ Hs G u k ∨ some k = v.ownBlock) cs bs
theorem Bo.nil (w : World) (base G : Nat) (u : Value) : Bo w base G u (.slice none 0 0) [] := ⟨[], ⟨rfl, .inl ⟨rfl, rfl⟩⟩, .nil⟩
theorem Bo.ge {w : World} {base G : Nat} {u v : Value} {bs : List Bd} (h : Bo w base G u v bs) : ∀ g, v.ownBlock = some g → base ≤ g ∧ g < w.heap.size := fun g hg => by
  obtain ⟨cs, ho, _⟩ := h
  exact ⟨(own_ty ho g hg).1, (ho.lt g hg).2⟩
theorem Bo.far {w : World} {base G BT : Nat} {ts : List Pm} {u v : Value} {bs : List Bd} (h : Bo w base G u v bs) (hG : GnAt w G BT ts u) (hb : BT ≤ base) : ∀ g, v.ownBlock = some g → ¬ Hs G u g := fun g hg e => by
  have h1 := h.ge g hg
  obtain ⟨cs, ho, _⟩ := h
  rcases e with e | e
  · have := hG.lt; omega
  · obtain ⟨_, c1, t1⟩ := own_ty ho g hg
    obtain ⟨_, c2, t2⟩ := own_ty hG.own g e.symm
    rw [t1] at t2
    cases t2
/-- A call keeps the row. -/
theorem Bo.call {w w' : World} {base G BT : Nat} {ts : List Pm} {u u' v : Value} {bs : List Bd} (h : Bo w base G u v bs) (hG : GnAt w G BT ts u) (hb : BT ≤ base) (hf : Fr w w' (Hs G u)) (hn : NwU w u u') : Bo w' base G u' v bs := by
  have hfar := h.far hG hb
  obtain ⟨cs, ho, hr⟩ := h
  refine ⟨cs, hf.own ho hfar, hr.map fun c x hc => BdC.le (Le.of_fr hf (fun k _ e => .inr (.inl e)) fun k hk e => ?_) c x hc⟩
  rcases e with e | e | e
  · exact .inl e
  · rcases e with e | e
    · exact .inr (.inl (.inl e))
    · rcases hn k e.symm with q | q
      · exact .inr (.inl (.inr q.symm))
      · omega
  · exact .inr (.inr e)
theorem Bo.below {w w' : World} {base G : Nat} {u v : Value} {bs : List Bd} (h : Bo w base G u v bs) (hb : Below w.heap.size w w') : Bo w' base G u v bs := by
  obtain ⟨cs, ho, hr⟩ := h
  exact ⟨cs, own_below ho hb, hr.map fun c x hc => BdC.le (Le.belowA hb fun _ _ e => e) c x hc⟩
theorem Bo.form {w : World} {base G : Nat} {u v : Value} {bs : List Bd} (h : Bo w base G u v bs) : ∃ A c, v = .slice A bs.length c := by
  obtain ⟨cs, ho, _⟩ := h
  obtain ⟨A, c, e, _⟩ := own_formB ho
  exact ⟨A, c, e⟩
/-- Appending to a row. -/
theorem Bo.app {w5 w9 : World} {base base2 G : Nat} {u v v' : Value} {bs bs2 : List Bd} {cs cs2 : List Value} (hr : RowG (BdC w5 fun k => k < base ∨ Hs G u k ∨ some k = v.ownBlock) cs bs) (hr2 : RowG (BdC w5 fun k => k < base2 ∨ Hs G u k) cs2 bs2) (hbb : base ≤ base2) (hv : ∀ g, v.ownBlock = some g → g < base2)
    (hown' : w9.ownsRow base 92 8 v' (bs.length + bs2.length) (cs ++ cs2)) (hg : w5.grownBy w9 v.ownBlock) (hat : v'.ownBlock = v.ownBlock ∨ v'.ownBlock = some w5.heap.size) : Bo w9 base G u v' (bs ++ bs2) := by
  have f9 : Fr w5 w9 (fun k => some k = v.ownBlock) := Fr.of_grown hg
  have key : ∀ k, k < w5.heap.size → some k = v'.ownBlock → some k = v.ownBlock := fun k hk e => by
    rcases hat with q | q
    · rw [e, q]
    · rw [q] at e; cases e; omega
  refine ⟨cs ++ cs2, by rw [List.length_append]; exact hown', ?_⟩
  have h1 : RowG (BdC w9 fun k => k < base ∨ Hs G u k ∨ some k = v'.ownBlock) cs bs := hr.map fun c x hc => BdC.le (Le.of_fr f9 (fun k _ e => .inr (.inr e)) fun k hk e => by
    rcases e with e | e | e
    · exact .inl e
    · exact .inr (.inl e)
    · exact .inr (.inr (key k hk e))) c x hc
  have h2 : RowG (BdC w9 fun k => k < base ∨ Hs G u k ∨ some k = v'.ownBlock) cs2 bs2 := hr2.map fun c x hc => BdC.le (Le.of_fr f9 (fun k _ e => .inl (hv k e.symm)) fun k hk e => by
    rcases e with e | e | e
    · exact .inl (by omega)
    · exact .inr e
    · exact .inl (hv k (key k hk e).symm)) c x hc
  exact RowG.app h1 h2
/-- What Expr returns. -/
def RetXp (G BT : Nat) (r : Nr) (u : Value) (w : World) (e : Ending) (w' : World) : Prop :=
  ∃ u' v, e = .returned (.tuple #[v, .string r.p.name, .bool r.p.list]) ∧ GnAt w' G BT r.ts u' ∧ Fr w w' (Hs G u) ∧ NwU w u u' ∧ Bo w' w.heap.size G u' v r.bs
/-- The variables' types. -/
def TyE (te : ByteArray → Option Bool) (env : ByteArray → Option Pm) : Prop := ∀ s t, te s = some t → ∃ p, env s = some p ∧ p.list = t
theorem TyE.set {te : ByteArray → Option Bool} {env : ByteArray → Option Pm} (h : TyE te env) (s : ByteArray) (p : Pm) : TyE (setE te s (some p.list)) (setP env s (some p)) := fun q t ht => by
  unfold setE at ht
  unfold setP
  by_cases e : q = s
  · rw [if_pos e] at ht ⊢; cases ht; exact ⟨p, rfl, rfl⟩
  · rw [if_neg e] at ht ⊢; exact h q t ht
def RexC (W0 : World) (lib : List Fn1) (AL : Option Addr) (cL G BT : Nat) (x : Nd) : Prop :=
  ∀ (te : ByteArray → Option Bool) (ty : Bool) (el : List Vr) (ts : List Pm) (u : Value) (w : World) (Ae Ak : Option Addr) (ce ck : Nat), chkT lib x te = (ty, 0) → TyE te (lastE el) → RPre W0 w G BT ts u Ae el → NdsAt W0 Ak x.kids → ts.length + 3 * sizeT x ≤ 90000 → el.length + sizeT x ≤ 50000 →
    Calls Tryd.prog 31 #[.pointer (some ⟨G, 0, none⟩), .slice AL lib.length cL, .slice Ae el.length ce, .agg #[.int .u8 x.kind, .int .i64 x.num, .string x.name, .slice Ak x.kids.length ck]] w (RetXp G BT (nE lib x (lastE el) ts) u w)

set_option maxRecDepth 100000 in
set_option maxHeartbeats 4000000 in
theorem rex_81 {W0 : World} {lib : List Fn1} {AL : Option Addr} {cL G BT : Nat} {x : Nd} (hk : x.kind = 81) : RexC W0 lib AL cL G BT x := by
  intro te ty el ts u w Ae Ak ce ck _ _ h hK hts hel
  have HE := Lib.hid (nE_81 (lib := lib) hk (lastE el) ts)
  have HH := Lib.hid h
  have HBX := Lib.hid (below_box w (Obj.cells #[.int .u8 x.kind, .int .i64 x.num, .string x.name, .slice Ak x.kids.length ck] 53))
  have HRX := Lib.hid (bx_new w #[.int .u8 x.kind, .int .i64 x.num, .string x.name, .slice Ak x.kids.length ck] 53)
  have hkk : ((x.kind : Int) == 81) = true := by rw [hk]; rfl
  have hel' : el.length ≤ 50000 := by omega
  have HFIN := Lib.hid (fun (w' : World) (hb' : Below w.heap.size w w') (p : Pm) (hp : (lastE el x.name).getD ⟨eS, false⟩ = p) => show RetXp G BT (nE lib x (lastE el) ts) u w (.returned (.tuple #[.slice none 0 0, .string p.name, .bool p.list])) w' from ⟨u, .slice none 0 0, by rw [HE.out, hp], by rw [HE.out]; exact HH.out.gn.below hb', Fr.of_below hb' _, NwU.refl _ _, by rw [HE.out]; exact Bo.nil _ _ _ _⟩)
  clear h hK hk hts hel
  go_enter Tryd.func31, Tryd.ntmps31
  go_upto_region 1 with fail
  generalize w.alloc _ = W at HBX HRX ⊢
  obtain ⟨a0, a1, a2, a3, _⟩ := HRX.out.four
  have hlt := HRX.out.lt
  go_wp2_with fail
  clear a0 a1 a2 a3 hlt
  go_loopw [11] (fun i wr => ∃ k : Nat, k ≤ el.length ∧ i = .int .i64 ((k : Int) - 1) ∧ Hid (Below W.heap.size W wr ∧ lastE el x.name = lastE (el.take k) x.name)) (fun i _ => (intOf i + 1).toNat)
  case atStart => exact ⟨el.length, by omega, by go_num, Lib.hid ⟨Below.refl _ _, by rw [List.take_length]⟩⟩
  case round =>
    obtain ⟨k1, hk1, rfl, hR⟩ := hrel
    have HR := Lib.hid hR.out
    have HBr := Lib.hid (below_step HBX.out HBX.out.size hR.out.1)
    clear hR
    by_cases hk0 : k1 = 0
    · subst hk0
      have HE2 := Lib.hid (HFIN.out wr HBr.out ⟨eS, false⟩ (by rw [HR.out.2, List.take_zero]; rfl))
      rw [show (((0 : Nat) : Int) - 1) = -1 by omega]
      go_wp2_with fail
      go_ret3
      exact HE2.out
    · obtain ⟨k, rfl⟩ : ∃ k, k1 = k + 1 := ⟨k1 - 1, by omega⟩
      rw [show (((k + 1 : Nat) : Int) - 1) = (k : Int) by omega]
      have hin : k < el.length := by omega
      have HST := Lib.hid (HR.out.2.trans (lastE_step hin x.name))
      obtain ⟨g0, g1, g2⟩ := vrCs_get (List.getElem?_eq_getElem hin)
      obtain ⟨b, o, rfl, _, c0⟩ := (HH.out.below HBr.out).ev _ _ g0
      obtain ⟨b1, o1, e1, _, c1⟩ := (HH.out.below HBr.out).ev _ _ g1
      cases e1
      obtain ⟨b2, o2, e2, _, c2⟩ := (HH.out.below HBr.out).ev _ _ g2
      cases e2
      rw [← Nat.add_assoc] at c1 c2
      have HRXr := Lib.hid (HRX.out.below HR.out.1)
      obtain ⟨a0, a1, a2, a3, _⟩ := HRXr.out.four
      have hlt := HRXr.out.lt
      generalize el[k] = v at *
      have hlb := block_lt_of_cell c0
      have r0 : (0 : Int) ≤ k := by omega
      have r1 : (k : Int) < el.length := by omega
      have hse := strEq v.1 x.name
      have HBd := Lib.hid (belowDrawnP HR.out.1)
      clear g0 g1 g2
      by_cases hq : v.1 = x.name
      · rw [decide_eq_true hq] at hse
        have HE2 := Lib.hid (fun (w' : World) (hb' : Below w.heap.size w w') => HFIN.out w' hb' v.2 (by rw [HST.out, if_pos hq]; rfl))
        have HE3 := Lib.hid (HE2.out _ (belowDrawnP (belowDrawnP HBr.out)))
        clear hq
        go_wp2_with fail
        go_region
        go_wp2_with fail
        go_region
        go_wp2_with fail
        go_ret3
        exact HE3.out
      · rw [decide_eq_false hq] at hse
        have HS2 := Lib.hid (And.intro HBd.out (HST.out.trans (if_neg hq)))
        clear hq
        go_wp2_with fail
        go_region
        go_wp2_with fail
        exact ⟨⟨k, by omega, by go_num, HS2⟩, by first | (simp [intOf]; done) | (simp [intOf]; omega)⟩

end Go.Proofs.YtcoeakdpcigogaaDoor

namespace Go.Proofs.YtcoeakdpcigogaaDoor
open Go.ChangeShapes Go.WideShapes Go.ChangeAt Go.RowKit Go.Sort Go.Maps

/-- The variable with the value has the expression's type. -/
theorem nE_ty {lib : List Fn1} : ∀ (n : Nat) (x : Nd), SizeOf.sizeOf x ≤ n → formT x = true → ∀ (te : ByteArray → Option Bool) (ty : Bool), chkT lib x te = (ty, 0) → ∀ (env : ByteArray → Option Pm) (ts : List Pm), TyE te env → (nE lib x env ts).p.list = ty
  | 0, x, h, _, _, _, _, _, _, _ => by exfalso; cases x; simp at h
  | n + 1, x, h, hf, te, ty, hc, env, ts, he => by
    rw [formT_eq] at hf
    obtain ⟨hb, hkids⟩ := Bool.and_eq_true_iff.1 hf
    have hkid := formT_kid hkids
    obtain ⟨l82, l83, l84, hk⟩ := form_len hb
    obtain ⟨c1, c2, c3, c4⟩ := chkT_ok hc
    have hsz : ∀ y ∈ x.kids, SizeOf.sizeOf y ≤ n := fun y hy => by
      cases x with
      | mk k1 n1 s1 l1 =>
        have := List.sizeOf_lt_of_mem (show y ∈ l1 from hy)
        simp at h
        omega
    by_cases h81 : x.kind = 81
    · rw [nE_81 h81]
      unfold reachE at c1
      rw [if_pos h81] at c1
      have c3 := c3 h81
      cases ht : te x.name with
      | none => rw [ht] at c1; cases c1
      | some t =>
        rw [ht] at c3
        obtain ⟨p, e1, e2⟩ := he x.name t ht
        rw [e1, c3]; exact e2
    obtain ⟨c5, c6⟩ := c4 h81
    by_cases h83 : x.kind = 83
    · rw [nE_83 h83]
      obtain ⟨k1, k2⟩ := chkTL_ok (show x.kind ≠ 84 by omega) _ _ _ c2
      obtain ⟨y0, y1, y2, e⟩ := three (l83 h83)
      rw [k1] at c5 c6
      unfold wantR at c5 c6
      rw [if_neg (by omega), if_pos h83] at c5 c6
      rw [e] at c5 c6 k2 hkid hsz ⊢
      simp only [List.nil_append, List.map_cons, List.map_nil, List.getD_cons_succ, List.getD_cons_zero] at c5 c6
      have q2 : (chkT lib y2 te).1 = (chkT lib y1 te).1 := by injection c5 with _ q; injection q with _ q; injection q
      rw [nIf]
      exact nE_ty n y2 (hsz y2 (by simp)) (hkid y2 (by simp)) te ty (Prod.ext (by rw [q2, c6]) (k2 y2 (by simp))) env _ he
    by_cases h84 : x.kind = 84
    · obtain ⟨y0, y1, e⟩ := two (l84 h84)
      unfold wantR at c6
      rw [if_neg (by omega), if_neg (by omega), if_pos h84] at c6
      rw [e, h84] at c2 c6
      rw [e] at hkid hsz
      rw [chkTL] at c2 c6
      have e0 : envAt 84 x.name te 0 [] = te := by unfold envAt; rw [if_neg (by omega)]
      rw [e0] at c2 c6
      by_cases g0 : (chkT lib y0 te).2 = 0
      rotate_left
      · rw [if_pos g0] at c2; exact absurd c2 g0
      rw [if_neg (fun e => e g0)] at c2 c6
      rw [chkTL] at c2 c6
      have e1 : envAt 84 x.name te (0 + 1) ([] ++ [(chkT lib y0 te).1]) = setE te x.name (some (chkT lib y0 te).1) := by unfold envAt; rw [if_pos ⟨rfl, rfl⟩]; rfl
      rw [e1] at c2 c6
      by_cases g1 : (chkT lib y1 (setE te x.name (some (chkT lib y0 te).1))).2 = 0
      rotate_left
      · rw [if_pos g1] at c2; exact absurd c2 g1
      rw [if_neg (fun e => e g1), chkTL] at c6
      have c6 : ty = (chkT lib y1 (setE te x.name (some (chkT lib y0 te).1))).1 := c6
      rw [nE_84 h84, e, nLet]
      have h0 := nE_ty n y0 (hsz y0 (by simp)) (hkid y0 (by simp)) te _ (Prod.ext rfl g0) env ts he
      refine nE_ty n y1 (hsz y1 (by simp)) (hkid y1 (by simp)) (setE te x.name (some (chkT lib y0 te).1)) ty (Prod.ext c6.symm g1) _ _ ?_
      have := he.set x.name (nE lib y0 env ts).p
      rw [h0] at this
      exact this
    obtain ⟨k1, k2⟩ := chkTL_ok h84 _ _ _ c2
    rw [List.nil_append] at k1
    rw [k1] at c5 c6
    by_cases h85 : x.kind = 85
    · rw [nE_85 h85]
      obtain ⟨p1, p2⟩ := reach85 c1 h85
      have hi : ∃ g, lib[(findF lib x.name 0).toNat]? = some g := by
        rcases findF_range x.name lib 0 with e | ⟨i, i1, i2, _⟩
        · rw [e] at p1; omega
        · exact ⟨lib[i], by rw [show (findF lib x.name 0).toNat = i by rw [i2]; omega]; exact List.getElem?_eq_getElem i1⟩
      obtain ⟨g, hgi⟩ := hi
      unfold wantR at c6
      rw [if_neg (by omega), if_neg (by omega), if_neg (by omega), if_pos h85, hgi] at c6
      rw [hgi]
      exact c6.symm
    · rw [nE_op h81 h83 h84 h85]
      obtain ⟨w1, w2⟩ := want_op (lib := lib) (ts := x.kids.map fun y => (chkT lib y te).1) hk h81 h83 h84 h85
      rw [w1, w2] at c6
      exact c6.symm

/-- What a choice's parts are. -/
structure IfT (lib : List Fn1) (te : ByteArray → Option Bool) (c a b : Nd) (ty : Bool) : Prop where
  c : chkT lib c te = (false, 0)
  a : chkT lib a te = (ty, 0)
  b : chkT lib b te = (ty, 0)
theorem if_types {lib : List Fn1} {x : Nd} {te : ByteArray → Option Bool} {ty : Bool} (h83 : x.kind = 83) (hf : formT x = true) (hc : chkT lib x te = (ty, 0)) : ∃ c a b, x.kids = [c, a, b] ∧ formT c = true ∧ formT a = true ∧ formT b = true ∧ IfT lib te c a b ty := by
  rw [formT_eq] at hf
  obtain ⟨hb, hkids⟩ := Bool.and_eq_true_iff.1 hf
  have hkid := formT_kid hkids
  obtain ⟨l82, l83, l84, hk⟩ := form_len hb
  obtain ⟨c1, c2, c3, c4⟩ := chkT_ok hc
  obtain ⟨c5, c6⟩ := c4 (by omega)
  obtain ⟨k1, k2⟩ := chkTL_ok (show x.kind ≠ 84 by omega) _ _ _ c2
  obtain ⟨y0, y1, y2, e⟩ := three (l83 h83)
  rw [k1] at c5 c6
  unfold wantR at c5 c6
  rw [if_neg (by omega), if_pos h83] at c5 c6
  rw [e] at c5 c6 k2 hkid
  simp only [List.nil_append, List.map_cons, List.map_nil, List.getD_cons_succ, List.getD_cons_zero] at c5 c6
  have q0 : (chkT lib y0 te).1 = false := by injection c5
  have q2 : (chkT lib y2 te).1 = (chkT lib y1 te).1 := by injection c5 with _ q; injection q with _ q; injection q
  exact ⟨y0, y1, y2, e, hkid y0 (by simp), hkid y1 (by simp), hkid y2 (by simp), Prod.ext q0 (k2 y0 (by simp)), Prod.ext c6.symm (k2 y1 (by simp)), Prod.ext (by rw [q2, c6]) (k2 y2 (by simp))⟩
theorem let_types {lib : List Fn1} {x : Nd} {te : ByteArray → Option Bool} {ty : Bool} (h84 : x.kind = 84) (hf : formT x = true) (hc : chkT lib x te = (ty, 0)) : ∃ a b t, x.kids = [a, b] ∧ formT a = true ∧ formT b = true ∧ chkT lib a te = (t, 0) ∧ chkT lib b (setE te x.name (some t)) = (ty, 0) := by
  rw [formT_eq] at hf
  obtain ⟨hb, hkids⟩ := Bool.and_eq_true_iff.1 hf
  have hkid := formT_kid hkids
  obtain ⟨l82, l83, l84, hk⟩ := form_len hb
  obtain ⟨c1, c2, c3, c4⟩ := chkT_ok hc
  obtain ⟨c5, c6⟩ := c4 (by omega)
  obtain ⟨y0, y1, e⟩ := two (l84 h84)
  unfold wantR at c6
  rw [if_neg (by omega), if_neg (by omega), if_pos h84] at c6
  rw [e, h84] at c2 c6
  rw [e] at hkid
  rw [chkTL] at c2 c6
  have e0 : envAt 84 x.name te 0 [] = te := by unfold envAt; rw [if_neg (by omega)]
  rw [e0] at c2 c6
  by_cases g0 : (chkT lib y0 te).2 = 0
  rotate_left
  · rw [if_pos g0] at c2; exact absurd c2 g0
  rw [if_neg (fun e => e g0)] at c2 c6
  rw [chkTL] at c2 c6
  have e1 : envAt 84 x.name te (0 + 1) ([] ++ [(chkT lib y0 te).1]) = setE te x.name (some (chkT lib y0 te).1) := by unfold envAt; rw [if_pos ⟨rfl, rfl⟩]; rfl
  rw [e1] at c2 c6
  by_cases g1 : (chkT lib y1 (setE te x.name (some (chkT lib y0 te).1))).2 = 0
  rotate_left
  · rw [if_pos g1] at c2; exact absurd c2 g1
  rw [if_neg (fun e => e g1), chkTL] at c6
  have c6 : ty = (chkT lib y1 (setE te x.name (some (chkT lib y0 te).1))).1 := c6
  exact ⟨y0, y1, _, e, hkid y0 (by simp), hkid y1 (by simp), Prod.ext rfl g0, Prod.ext c6.symm g1⟩

/-- A temporary's type is given in the reference's row. -/
theorem GnAt.setL {w : World} {G BT : Nat} {ts : List Pm} {g c : Nat} (h : GnAt w G BT ts (.slice (some ⟨g, 0, none⟩) ts.length c)) {i : Nat} (hi : i < ts.length) (hn : ts[i].name = tmpN i) (l : Bool) : GnAt (w.setCell ⟨g, i * 2 + 1, none⟩ (.bool l)) G BT (setL ts i l) (.slice (some ⟨g, 0, none⟩) ts.length c) ∧ Fr w (w.setCell ⟨g, i * 2 + 1, none⟩ (.bool l)) (fun k => k = g) := by
  have hge := h.ge g rfl
  have hne := h.ne
  refine ⟨⟨h.g.fr (Fr.of_set w ⟨g, i * 2 + 1, none⟩ (.bool l)) (fun e => hne (by have e' : G = g := e; rw [e']; rfl)), ?_, h.lt, Nat.le_trans h.b (by simp)⟩, Fr.of_set w ⟨g, i * 2 + 1, none⟩ (.bool l)⟩
  rw [setL_len, setL_eq hi hn, pCells_set hi]
  exact (h.own.stored (i * 2 + 1) (.bool l)).1
theorem setL_same {ts : List Pm} {i : Nat} {l : Bool} (h : ts[i]? = some ⟨tmpN i, l⟩) : Go.Proofs.YtcoeakdpcigogaaDoor.setL ts i l = ts := by
  unfold Go.Proofs.YtcoeakdpcigogaaDoor.setL
  apply List.ext_getElem?
  intro j
  rw [List.getElem?_set]
  by_cases e : i = j
  · subst e
    have := (List.getElem?_eq_some_iff.1 h).1
    rw [if_pos rfl, if_pos this, h]
  · rw [if_neg e]

end Go.Proofs.YtcoeakdpcigogaaDoor

namespace Go.Proofs.YtcoeakdpcigogaaDoor
open Go.ChangeShapes Go.WideShapes Go.ChangeAt Go.RowKit Go.Sort Go.Maps

/-- A literal bind's cells. -/
theorem bd_lit {w : World} {X : Nat → Prop} (hX : ¬ X w.heap.size) (tq : ByteArray) (l : Bool) (op : Nat) (num : Int) (nm s : ByteArray) (T : TypeId) {At Ae : Option Addr} {ct ce : Nat} {th el : List Bd} (ht : BdsX w X At th) (he : BdsX w X Ae el) : BdC (w.alloc (Obj.cells #[.string s] T)) X [.string tq, .bool l, .int .u8 op, .int .i64 num, .string nm, .slice (some ⟨w.heap.size, 0, none⟩) 1 1, .slice At th.length ct, .slice Ae el.length ce] (.mk tq l op num nm [s] th el) :=
  ⟨_, 1, At, ct, Ae, ce, rfl, strsX_lit w X s T hX, ht.le (Le.belowA (below_box w _) fun _ _ e => e), he.le (Le.belowA (below_box w _) fun _ _ e => e)⟩
/-- One more bind in a row. -/
theorem Bo.push1 {w w9 : World} {base G : Nat} {u v v' : Value} {bs : List Bd} {cs c8 : List Value} {t : Bd} {o o2 : Obj} (hr : RowG (BdC w fun k => k < base ∨ Hs G u k ∨ some k = v.ownBlock) cs bs) (hc : BdC (w.alloc o) (fun k => k < base ∨ Hs G u k ∨ some k = v.ownBlock) c8 t)
    (hown' : w9.ownsRow base 92 8 v' (bs.length + 1) (cs ++ c8)) (hg : ((w.alloc o).alloc o2).grownBy w9 v.ownBlock) (hat : v'.ownBlock = v.ownBlock ∨ v'.ownBlock = some ((w.alloc o).alloc o2).heap.size) : Bo w9 base G u v' (bs ++ [t]) := by
  have f9 : Fr (w.alloc o) w9 (fun k => some k = v.ownBlock) := (Fr.of_below (below_box (w.alloc o) o2) _).trans (Fr.of_grown hg) fun _ _ e => e
  have f0 : Fr w w9 (fun k => some k = v.ownBlock) := (Fr.of_below (below_box w o) _).trans f9 fun _ _ e => e
  have key : ∀ k, k < (w.alloc o).heap.size → some k = v'.ownBlock → some k = v.ownBlock := fun k hk e => by
    rcases hat with q | q
    · rw [e, q]
    · rw [q] at e
      cases e
      have : ((w.alloc o).alloc o2).heap.size = (w.alloc o).heap.size + 1 := by simp
      omega
  have kx : ∀ k, k < (w.alloc o).heap.size → (k < base ∨ Hs G u k ∨ some k = v'.ownBlock) → (k < base ∨ Hs G u k ∨ some k = v.ownBlock) := fun k hk e => by
    rcases e with e | e | e
    · exact .inl e
    · exact .inr (.inl e)
    · exact .inr (.inr (key k hk e))
  exact ⟨cs ++ c8, by rw [List.length_append]; exact hown', .snoc (hr.map fun c x h => BdC.le (Le.of_fr f0 (fun k _ e => .inr (.inr e)) fun k hk e => kx k (by simp; omega) e) c x h) (BdC.le (Le.of_fr f9 (fun k _ e => .inr (.inr e)) kx) _ _ hc)⟩
/-- Temporaries beside an appended row. -/
theorem GnAt.push {w w9 : World} {base G BT : Nat} {ts : List Pm} {u v : Value} {bs : List Bd} (h : GnAt w G BT ts u) (hv : Bo w base G u v bs) (hb : BT ≤ base) {W : World} (hW : Below w.heap.size w W) (hg : W.grownBy w9 v.ownBlock) : GnAt w9 G BT ts u ∧ Fr w w9 (fun k => some k = v.ownBlock) := by
  have hfar := hv.far h hb
  have f9 : Fr w w9 (fun k => some k = v.ownBlock) := (Fr.of_below hW _).trans (Fr.of_grown hg) fun _ _ e => e
  refine ⟨h.fr f9 (fun e => hfar G e.symm (.inl rfl)) fun g hg2 e => hfar g e.symm (.inr hg2.symm), f9⟩
theorem Bo.lower {w : World} {base base' G : Nat} {u v : Value} {bs : List Bd} (h : Bo w base G u v bs) (hb : base' ≤ base) : Bo w base' G u v bs := by
  obtain ⟨cs, ho, hr⟩ := h
  refine ⟨cs, ⟨ho.1, ?_⟩, hr.map fun c x hc => BdC.le (Le.less fun k _ e => ?_) c x hc⟩
  · rcases ho.2 with e | ⟨g, cap, cur, e, h1, h2⟩
    · exact .inl e
    · exact .inr ⟨g, cap, cur, e, by omega, h2⟩
  · rcases e with e | e
    · exact .inl (by omega)
    · exact .inr e
/-- A row as a list of binds. -/
theorem Bo.bds {w : World} {base G : Nat} {u : Value} {A : Option Addr} {n c : Nat} {bs : List Bd} (h : Bo w base G u (.slice A n c) bs) {X : Nat → Prop} (hX : ∀ k, k < w.heap.size → X k → k < base ∨ Hs G u k) (hu : ∀ g, (Value.slice A n c).ownBlock = some g → ¬ Hs G u g) : BdsX w X A bs := by
  obtain ⟨cs, ho, hr⟩ := h
  obtain ⟨A', c', e, hb⟩ := bdsX_of_own (X := X) ho (hr.map fun c x hc => BdC.le (Le.less fun k hk e => by
    rcases hX k hk e with q | q
    · exact .inl q
    · exact .inr (.inl q)) c x hc) (fun g hg e => by
      have h1 := (ho.lt g hg).2
      have h2 := (own_ty ho g hg).1
      rcases hX g h1 e with q | q
      · omega
      · exact hu g hg q)
  cases e
  exact hb
theorem NwU.far {w : World} {u u' : Value} (h : NwU w u u') {b : Nat} (hb : b < w.heap.size) (hu : u.ownBlock ≠ some b) : u'.ownBlock ≠ some b := fun e => by
  rcases h b e with q | q
  · exact hu q
  · omega
theorem nE_len (lib : List Fn1) (x : Nd) (env : ByteArray → Option Pm) (ts : List Pm) : (nE lib x env ts).ts.length ≤ ts.length + (3 * sizeT x - 1) ∧ ts.length ≤ (nE lib x env ts).ts.length ∧ (nE lib x env ts).bs.length ≤ 3 * sizeT x - 1 := by
  have h := nE_ext lib x env ts
  obtain ⟨ex, e, hl⟩ := h.pre
  rw [e, List.length_append]
  exact ⟨by omega, by omega, h.bs⟩
/-- A choice, with types. -/
theorem nIf_eq {lib : List Fn1} {x c a b : Nd} {te : ByteArray → Option Bool} {ty : Bool} (hk : x.kind = 83) (hkk : x.kids = [c, a, b]) (fa : formT a = true) (fb : formT b = true) (ht : IfT lib te c a b ty) {env : ByteArray → Option Pm} (hT : TyE te env) (ts : List Pm) {r xa y : Nr} (hr : nE lib c env ts = r) (hx : nE lib a env (r.ts ++ [⟨tmpN r.ts.length, false⟩]) = xa) (hy : nE lib b env (setL xa.ts r.ts.length ty) = y) :
    xa.p.list = ty ∧ y.p.list = ty ∧ r.ts.length < xa.ts.length ∧ (∃ h : r.ts.length < xa.ts.length, xa.ts[r.ts.length].name = tmpN r.ts.length) ∧ nE lib x env ts = ⟨r.bs ++ [.mk (tmpN r.ts.length) ty 83 0 eS [r.p.name] (xa.bs ++ [.mk (tmpN r.ts.length) ty 81 0 eS [xa.p.name] [] []]) (y.bs ++ [.mk (tmpN r.ts.length) ty 81 0 eS [y.p.name] [] []])], ⟨tmpN r.ts.length, ty⟩, y.ts⟩ := by
  have h1 : xa.p.list = ty := by rw [← hx]; exact nE_ty _ a (Nat.le_refl _) fa te ty ht.a env _ hT
  have h2 : y.p.list = ty := by rw [← hy]; exact nE_ty _ b (Nat.le_refl _) fb te ty ht.b env _ hT
  obtain ⟨ex, e1, _⟩ := (nE_ext lib a env (r.ts ++ [⟨tmpN r.ts.length, false⟩])).pre
  rw [hx] at e1
  obtain ⟨ey, e2, _⟩ := (nE_ext lib b env (setL xa.ts r.ts.length ty)).pre
  rw [hy] at e2
  have hlt : r.ts.length < xa.ts.length := by rw [e1]; simp
  have hget : xa.ts[r.ts.length]? = some ⟨tmpN r.ts.length, false⟩ := by rw [e1]; simp
  refine ⟨h1, h2, hlt, ⟨hlt, by rw [List.getElem?_eq_getElem hlt] at hget; rw [Option.some.inj hget]⟩, ?_⟩
  rw [nE_83 hk, hkk, nIf, hr]
  rw [hx, h1]
  rw [hy, h2]
  rw [setL_same (by rw [e2, List.getElem?_append_left (by rw [setL_len]; exact hlt)]; unfold Go.Proofs.YtcoeakdpcigogaaDoor.setL; rw [List.getElem?_set_self hlt])]

end Go.Proofs.YtcoeakdpcigogaaDoor

namespace Go.Proofs.YtcoeakdpcigogaaDoor
open Go.ChangeShapes Go.WideShapes Go.ChangeAt Go.RowKit Go.Sort Go.Maps

/-- What is appended after a literal bind was made. -/
theorem lit_step {w w9 : World} {base G BT : Nat} {ts : List Pm} {u v v' : Value} {bs : List Bd} {cs c8 : List Value} {t : Bd} {o o2 : Obj} (hG : GnAt w G BT ts u) (hBT : BT ≤ base) (ho : w.ownsRow base 92 8 v bs.length cs) (hr : RowG (BdC w fun k => k < base ∨ Hs G u k ∨ some k = v.ownBlock) cs bs) (hc : BdC (w.alloc o) (fun k => k < base ∨ Hs G u k ∨ some k = v.ownBlock) c8 t)
    (hown' : w9.ownsRow base 92 8 v' (bs.length + 1) (cs ++ c8)) (hg : ((w.alloc o).alloc o2).grownBy w9 v.ownBlock) (hat : v'.ownBlock = v.ownBlock ∨ v'.ownBlock = some ((w.alloc o).alloc o2).heap.size) : Bo w9 base G u v' (bs ++ [t]) ∧ GnAt w9 G BT ts u ∧ Fr w w9 (fun k => some k = v.ownBlock) := by
  have hb2 : Below w.heap.size w ((w.alloc o).alloc o2) := below_step (below_box w o) (below_box w o).size (below_box _ o2)
  exact ⟨Bo.push1 hr hc hown' hg hat, hG.push ⟨cs, ho, hr⟩ hBT hb2 hg⟩
/-- The hidden blocks lie below. -/
theorem hid_lt {w : World} {base G BT : Nat} {ts : List Pm} {u v : Value} {n : Nat} {cs : List Value} (hG : GnAt w G BT ts u) (hb : base ≤ w.heap.size) (ho : w.ownsRow base 92 8 v n cs) : ¬ (w.heap.size < base ∨ Hs G u w.heap.size ∨ some w.heap.size = v.ownBlock) := fun e => by
  rcases e with e | e | e
  · omega
  · rcases e with e | e
    · have := hG.g.lt; omega
    · have := (hG.ge _ e.symm).2; omega
  · have := (ho.lt _ e.symm).2; omega

theorem hs_trans {w w1 w2 : World} {G : Nat} {u u1 : Value} (h1 : Fr w w1 (Hs G u)) (n1 : NwU w u u1) (h2 : Fr w1 w2 (Hs G u1)) : Fr w w2 (Hs G u) := h1.trans h2 fun k hk e => by
  rcases e with e | e
  · exact .inl e
  · rcases n1 k e.symm with q | q
    · exact .inr q.symm
    · omega
set_option maxRecDepth 100000 in
set_option maxHeartbeats 8000000 in
theorem rex_83 {W0 : World} {lib : List Fn1} {AL : Option Addr} {cL G BT : Nat} {x : Nd} (hk : x.kind = 83) (hf : formT x = true) (ih : ∀ y, SizeOf.sizeOf y < SizeOf.sizeOf x → formT y = true → RexC W0 lib AL cL G BT y) : RexC W0 lib AL cL G BT x := by
  intro te ty el ts u w Ae Ak ce ck hc hT h hK hts hel
  obtain ⟨c, a, b, hkk, fc, fa, fb, hty⟩ := if_types hk hf hc
  have hz : sizeT x = 1 + sizeT c + sizeT a + sizeT b := by rw [sizeT_eq, hkk]; simp only [sizeTL]; omega
  have hsz : ∀ y ∈ [c, a, b], SizeOf.sizeOf y < SizeOf.sizeOf x := fun y hy => by
    cases x with
    | mk k1 n1 s1 l1 =>
      have e : l1 = [c, a, b] := hkk
      have := List.sizeOf_lt_of_mem (show y ∈ l1 from e ▸ hy)
      simp
      omega
  have ihc := ih c (hsz c (by simp)) fc
  have iha := ih a (hsz a (by simp)) fa
  have ihb := ih b (hsz b (by simp)) fb
  obtain ⟨r, hr⟩ : ∃ r, nE lib c (lastE el) ts = r := ⟨_, rfl⟩
  obtain ⟨xa, hx⟩ : ∃ r', nE lib a (lastE el) (r.ts ++ [⟨tmpN r.ts.length, false⟩]) = r' := ⟨_, rfl⟩
  obtain ⟨y, hy⟩ : ∃ r', nE lib b (lastE el) (setL xa.ts r.ts.length ty) = r' := ⟨_, rfl⟩
  obtain ⟨p1, p2, p3, ⟨_, p4⟩, HEQ0⟩ := nIf_eq hk hkk fa fb hty hT ts hr hx hy
  have HEQ := Lib.hid HEQ0
  have n1 := nE_len lib c (lastE el) ts
  have n2 := nE_len lib a (lastE el) (r.ts ++ [⟨tmpN r.ts.length, false⟩])
  have n3 := nE_len lib b (lastE el) (setL xa.ts r.ts.length ty)
  rw [hr] at n1
  rw [hx, List.length_append, List.length_singleton] at n2
  rw [hy, setL_len] at n3
  have hsc := sizeT_eq c
  have hsa := sizeT_eq a
  have hsb := sizeT_eq b
  have HP := Lib.hid h
  have HBX := Lib.hid (below_box w (Obj.cells #[.int .u8 x.kind, .int .i64 x.num, .string x.name, .slice Ak x.kids.length ck] 53))
  have HRX := Lib.hid (bx_new w #[.int .u8 x.kind, .int .i64 x.num, .string x.name, .slice Ak x.kids.length ck] 53)
  have hszW : (w.alloc (Obj.cells #[.int .u8 x.kind, .int .i64 x.num, .string x.name, .slice Ak x.kids.length ck] 53)).heap.size = w.heap.size + 1 := by simp
  obtain ⟨kb, ko, hkA, ho0⟩ := hK 0 c (by rw [hkk]; rfl)
  obtain ⟨kb1, ko1, e1, ho1⟩ := hK 1 a (by rw [hkk]; rfl)
  obtain ⟨kb2, ko2, e2, ho2⟩ := hK 2 b (by rw [hkk]; rfl)
  subst hkA
  cases e1
  cases e2
  obtain ⟨K0, q0, s0, s1, s2, s3, hk0⟩ := ho0.open_
  obtain ⟨K1, q1, s4, s5, s6, s7, hk1⟩ := ho1.open_
  obtain ⟨K2, q2, s8, s9, s10, s11, hk2⟩ := ho2.open_
  simp only [Nat.zero_mul, Nat.add_zero, Nat.one_mul] at s0 s1 s2 s3 s4 s5 s6 s7 s8 s9 s10 s11
  have HN := Lib.hid (fun (w' : World) (hb' : Below W0.heap.size W0 w') => And.intro (And.intro (below_cell hb' s0) (And.intro (below_cell hb' s1) (And.intro (below_cell hb' s2) (below_cell hb' s3)))) (And.intro (And.intro (below_cell hb' s4) (And.intro (below_cell hb' s5) (And.intro (below_cell hb' s6) (below_cell hb' s7)))) (And.intro (below_cell hb' s8) (And.intro (below_cell hb' s9) (And.intro (below_cell hb' s10) (below_cell hb' s11))))))
  have hkl : x.kids.length = 3 := by rw [hkk]; rfl
  rw [hk, hkl] at HRX HBX hszW ⊢
  have hGb := h.gn.b
  have HFR := Lib.hid (show ∀ u', (∃ W : World, w.heap.size < W.heap.size ∧ NwU W u u') → ¬ Hs G u' w.heap.size from fun u' ⟨W, hW, hn⟩ e => by
    rcases e with e | e
    · have := h.gn.g.lt; omega
    · exact hn.far hW (fun q => by have := (h.gn.ge _ q).2; omega) e.symm)
  have HKD := Lib.hid (And.intro hk0 (And.intro hk1 hk2))
  have HIH := Lib.hid (And.intro ihc (And.intro iha ihb))
  have HTY := Lib.hid (And.intro hT hty)
  have HP14 := Lib.hid (And.intro p1 (And.intro p2 p4))
  have hxl := p3
  have HR3 := Lib.hid (And.intro hr (And.intro hx hy))
  clear hx hy hr p1 p2 p3 p4 HEQ0 ho0 ho1 ho2 s0 s1 s2 s3 s4 s5 s6 s7 s8 s9 s10 s11 hk0 hk1 hk2 ihc iha ihb ih h hK hkk fc fa fb hty hT hc hf hk hkl hsz
  go_enter Tryd.func31, Tryd.ntmps31
  go_upto_region 1 with fail
  generalize w.alloc _ = W at HBX HRX hszW ⊢
  have HPW := Lib.hid (HP.out.below HBX.out)
  have HBT := Lib.hid (show BT ≤ W.heap.size by omega)
  have HC := Lib.hid (HIH.out.1 te false el ts u W Ae K0 ce q0 HTY.out.2.c HTY.out.1 HPW.out HKD.out.1 (by omega) (by omega))
  rw [HR3.out.1] at HC
  obtain ⟨y0, y1, y2, y3, _⟩ := HRX.out.four
  have hlt := HRX.out.lt
  obtain ⟨⟨k0, k1, k2, k3⟩, _, _⟩ := HN.out W HPW.out.bw
  have hlk := block_lt_of_cell k0
  go_wp2_with fail
  refine HC.out.mono ?_
  clear HC y0 y1 y2 y3 hlt k0 k1 k2 k3 hlk
  rintro e w1 ⟨u1, v1, rfl, hg1, hf1, hn1, hb1⟩
  obtain ⟨A1, c1, rfl⟩ := hb1.form
  have HP1 := Lib.hid (HPW.out.step hg1 hf1 hn1)
  have HT1 := Lib.hid (rtemp_any hg1 false (by omega))
  have HB1 := Lib.hid (And.intro hg1 (And.intro hb1 (And.intro hf1 hn1)))
  clear hg1 hf1 hn1 hb1
  go_wp2_with fail
  refine HT1.out.mono ?_
  clear HT1
  rintro e w2 ⟨rfl, u2, hg2, hf2, hn2⟩
  have HP2 := Lib.hid (HP1.out.step hg2 hf2 hn2)
  have HB2 := Lib.hid (HB1.out.2.1.call HB1.out.1 HBT.out hf2 hn2)
  have HFW2 := Lib.hid (hs_trans HB1.out.2.2.1 HB1.out.2.2.2 hf2)
  have HNW2 := Lib.hid (HB1.out.2.2.2.trans hn2 HB1.out.2.2.1.size)
  obtain ⟨T2, d2, rfl, _, _⟩ := own_formB hg2.own
  have HX2 := Lib.hid (HRX.out.fr HFW2.out (HFR.out u ⟨W, by omega, NwU.refl _ _⟩))
  have HCa := Lib.hid (HIH.out.2.1 te ty el (r.ts ++ [⟨tmpN r.ts.length, false⟩]) _ w2 Ae K1 ce q1 HTY.out.2.a HTY.out.1 HP2.out HKD.out.2.1 (by simp; omega) (by omega))
  rw [HR3.out.2.1] at HCa
  have yG := hg2.g.cell (j := 0) rfl
  have hlG := hg2.g.lt
  rw [show (r.ts ++ [(⟨tmpN r.ts.length, false⟩ : Pm)]).length = r.ts.length + 1 by simp] at yG
  have hrt : r.ts.length ≤ 90000 := by omega
  have hwr : IntKind.i64.wrap (r.ts.length : Int) = r.ts.length := by rw [IntKind.wrap_i64] <;> omega
  have HG2 := Lib.hid hg2
  obtain ⟨y0, y1, y2, y3, _⟩ := HX2.out.four
  have hlt := HX2.out.lt
  obtain ⟨_, ⟨k0, k1, k2, k3⟩, _⟩ := HN.out w2 HP2.out.bw
  have hlk := block_lt_of_cell k0
  clear hg2 hf2 hn2 HP1 HB1
  go_wp2_with fail
  refine HCa.out.mono ?_
  clear HCa y0 y1 y2 y3 hlt k0 k1 k2 k3 hlk yG hlG
  rintro e w3 ⟨u3, v3, rfl, hg3, hf3, hn3, hb3⟩
  obtain ⟨A3, c3, rfl⟩ := hb3.form
  obtain ⟨g3, d3, rfl, hg3b, hg3l⟩ := hg3.own.form (by omega)
  rw [HP14.out.1]
  have HSL := Lib.hid (hg3.setL hxl HP14.out.2.2 ty)
  have y1 : w3.cell? ⟨g3, r.ts.length * 2 + 1, none⟩ = some (.bool xa.ts[r.ts.length].list) := by
    rw [hg3.own.cellAt _ (by omega)]; exact (pCells_get xa.ts r.ts.length _ (List.getElem?_eq_getElem hxl)).2
  have y2 := hg3.own.frozenAt (r.ts.length * 2 + 1)
  have yG := hg3.g.cell (j := 0) rfl
  have hlG := hg3.g.lt
  have hlg : g3 < w3.heap.size := hg3l
  have r0 : (0 : Int) ≤ r.ts.length := by omega
  have r1 : (r.ts.length : Int) < xa.ts.length := by omega
  have HW2 := Lib.hid (show W.heap.size ≤ w2.heap.size from HFW2.out.size)
  have HB3 := Lib.hid (And.intro hg3 (And.intro hb3 (And.intro hf3 hn3)))
  obtain ⟨i0, hi0, hz0, hz1, hz2⟩ := info_parts info_rb
  have HI := Lib.hid (And.intro hi0 (And.intro hz0 (And.intro hz1 hz2)))
  clear hg3 hb3 hf3 hn3 hi0 hz0 hz1 hz2 hg3b hg3l
  go_upto_region 19 with fail
  clear y1 y2 yG hlG hlg
  generalize World.setCell _ _ _ = w4 at HSL ⊢
  have HF34 := Lib.hid (HSL.out.2.mono (m' := Hs G (.slice (some ⟨g3, 0, none⟩) xa.ts.length d3)) fun k _ e => .inr (by have e' : k = g3 := e; rw [e']; rfl))
  have HB4 := Lib.hid (HB3.out.2.1.call HB3.out.1 (Nat.le_trans HBT.out HW2.out) HF34.out (NwU.refl _ _))
  have HF24 := Lib.hid (hs_trans HB3.out.2.2.1 HB3.out.2.2.2 HF34.out)
  have HN24 := Lib.hid HB3.out.2.2.2
  have HG4 := Lib.hid HSL.out.1
  obtain ⟨cs4, ho4, hr4⟩ := HB4.out
  have HO4 := Lib.hid (And.intro ho4 hr4)
  have hxb : xa.bs.length ≤ 90000 := by omega
  have hyb : y.bs.length ≤ 90000 := by omega
  have hrb : r.bs.length ≤ 90000 := by omega
  have HS4 := Lib.hid (show w2.heap.size ≤ w4.heap.size from HF24.out.size)
  clear HSL ho4 hr4 HB4 HB3
  go_upto_region 20 with (at_builtin; go_loud (refine wpList_app _ rfl _ _ 56 rfl w2.heap.size 92 i0 (.agg #[.string ⟨#[]⟩, .bool false, .int .u8 0, .int .i64 0, .string ⟨#[]⟩, .slice none 0 0, .slice none 0 0, .slice none 0 0]) 8 120 Tryd.underlying56 HI.out.1 HI.out.2.1 HI.out.2.2.1 HI.out.2.2.2 rfl (by decide) (.slice A3 xa.bs.length c3) xa.bs.length cs4 rfl ((HO4.out.1.alloc _).alloc _) (some ⟨w4.heap.size + 1, 0, none⟩) 1 1 [.string (tmpN r.ts.length), .bool ty, .int .u8 81, .int .i64 0, .string ⟨#[]⟩, .slice (some ⟨w4.heap.size, 0, none⟩) 1 1, .slice none 0 0, .slice none 0 0] rfl rfl (cells_newC _ (by simp) _ _) (fun v hv => by simp at hv; rcases hv with rfl | rfl | rfl | rfl | rfl | rfl | rfl | rfl <;> rfl) (by unfold maxLen; omega) (by omega) (by have := HS4.out; simp; omega) ?_; intro v5 w5 hown5 hgrow5 hat5; have HL5 := Lib.hid (lit_step (t := .mk (tmpN r.ts.length) ty 81 0 eS [xa.p.name] [] []) HG4.out (Nat.le_trans HBT.out HW2.out) HO4.out.1 HO4.out.2 (bd_lit (hid_lt HG4.out HS4.out HO4.out.1) (tmpN r.ts.length) ty 81 0 eS xa.p.name 9 (BdsX.nil _ _ none) (BdsX.nil _ _ none)) hown5 hgrow5 hat5); obtain ⟨A5, c5, rfl, _, _⟩ := own_formB hown5; clear hown5 hgrow5 hat5))
  have F25 := Lib.hid (HF24.out.trans HL5.out.2.2 fun k hk e => by have := (own_ty HO4.out.1 k e.symm).1; omega)
  have HP5 := Lib.hid (HP2.out.step HL5.out.2.1 F25.out HN24.out)
  have HX5 := Lib.hid (HRX.out.fr (hs_trans HFW2.out HNW2.out F25.out) (HFR.out u ⟨W, by omega, NwU.refl _ _⟩))
  have HCb := Lib.hid (HIH.out.2.2 te ty el (setL xa.ts r.ts.length ty) _ w5 Ae K2 ce q2 HTY.out.2.b HTY.out.1 HP5.out HKD.out.2.2 (by rw [setL_len]; omega) (by omega))
  rw [HR3.out.2.2] at HCb
  have HS25 := Lib.hid (show w2.heap.size ≤ w5.heap.size from F25.out.size)
  obtain ⟨y0, y1, y2, y3, _⟩ := HX5.out.four
  have hlt := HX5.out.lt
  obtain ⟨_, _, k0, k1, k2, k3⟩ := HN.out w5 HP5.out.bw
  have hlk := block_lt_of_cell k0
  clear HO4 HF34 HF24 HG4 HX2
  go_wp2_with fail
  refine HCb.out.mono ?_
  clear HCb y0 y1 y2 y3 hlt k0 k1 k2 k3 hlk
  rintro e w6 ⟨u6, v6, rfl, hg6, hf6, hn6, hb6⟩
  obtain ⟨A6, c6, rfl⟩ := hb6.form
  rw [HP14.out.2.1]
  have F26 := Lib.hid (hs_trans F25.out HN24.out hf6)
  have N26 := Lib.hid (HN24.out.trans hn6 HS25.out)
  have H6 := Lib.hid (And.intro hg6 (And.intro hb6 (And.intro hf6 hn6)))
  have HBT5 := Lib.hid (Nat.le_trans (Nat.le_trans HBT.out HW2.out) HS25.out)
  have HS6 := Lib.hid (show w5.heap.size ≤ w6.heap.size from hf6.size)
  obtain ⟨cs6, ho6, hr6⟩ := hb6
  have HO6 := Lib.hid (And.intro ho6 hr6)
  clear ho6 hr6 hg6 hf6 hn6
  go_upto_region 22 with (at_builtin; go_loud (refine wpList_app _ rfl _ _ 56 rfl w5.heap.size 92 i0 (.agg #[.string ⟨#[]⟩, .bool false, .int .u8 0, .int .i64 0, .string ⟨#[]⟩, .slice none 0 0, .slice none 0 0, .slice none 0 0]) 8 120 Tryd.underlying56 HI.out.1 HI.out.2.1 HI.out.2.2.1 HI.out.2.2.2 rfl (by decide) (.slice A6 y.bs.length c6) y.bs.length cs6 rfl ((HO6.out.1.alloc _).alloc _) (some ⟨w6.heap.size + 1, 0, none⟩) 1 1 [.string (tmpN r.ts.length), .bool ty, .int .u8 81, .int .i64 0, .string ⟨#[]⟩, .slice (some ⟨w6.heap.size, 0, none⟩) 1 1, .slice none 0 0, .slice none 0 0] rfl rfl (cells_newC _ (by simp) _ _) (fun v hv => by simp at hv; rcases hv with rfl | rfl | rfl | rfl | rfl | rfl | rfl | rfl <;> rfl) (by unfold maxLen; omega) (by omega) (by have := HS6.out; simp; omega) ?_; intro v7 w7 hown7 hgrow7 hat7; have HL7 := Lib.hid (lit_step (t := .mk (tmpN r.ts.length) ty 81 0 eS [y.p.name] [] []) H6.out.1 HBT5.out HO6.out.1 HO6.out.2 (bd_lit (hid_lt H6.out.1 HS6.out HO6.out.1) (tmpN r.ts.length) ty 81 0 eS y.p.name 9 (BdsX.nil _ _ none) (BdsX.nil _ _ none)) hown7 hgrow7 hat7); obtain ⟨A7, c7, rfl, _, _⟩ := own_formB hown7; clear hown7 hgrow7 hat7))
  have F27 := Lib.hid (F26.out.trans HL7.out.2.2 fun k hk e => by have := (own_ty HO6.out.1 k e.symm).1; have := HS25.out; omega)
  have HB7 := Lib.hid (HB2.out.call HG2.out HBT.out F27.out N26.out)
  have F57 := Lib.hid (H6.out.2.2.1.trans HL7.out.2.2 fun k hk e => by have := (own_ty HO6.out.1 k e.symm).1; omega)
  have HB5 := Lib.hid (HL5.out.1.call HL5.out.2.1 (Nat.le_trans HBT.out HW2.out) F57.out H6.out.2.2.2)
  have hbx := HB7.out.ge
  obtain ⟨csr, hor, hrr⟩ := HB7.out
  have HOR := Lib.hid (And.intro hor hrr)
  have HS7 := Lib.hid (show W.heap.size ≤ w7.heap.size from Nat.le_trans HW2.out F27.out.size)
  have hv1 : ∀ k, some k = (Value.slice A1 r.bs.length c1).ownBlock → k < w2.heap.size := fun k e => (HB2.out.ge k e.symm).2
  have HXN : ¬ (w7.heap.size < W.heap.size ∨ Hs G u6 w7.heap.size ∨ some w7.heap.size = (Value.slice A1 r.bs.length c1).ownBlock) := hid_lt HL7.out.2.1 HS7.out HOR.out.1
  have HSZ7 := Lib.hid (And.intro HW2.out HS25.out)
  have HTH := Lib.hid (HB5.out.bds (X := fun k => k < W.heap.size ∨ Hs G u6 k ∨ some k = (Value.slice A1 r.bs.length c1).ownBlock) (fun k _ e => by
    rcases e with e | e | e
    · have := HSZ7.out.1; exact .inl (by omega)
    · exact .inr e
    · exact .inl (hv1 k e)) (HB5.out.far HL7.out.2.1 (Nat.le_trans HBT.out HSZ7.out.1)))
  have HEL := Lib.hid (HL7.out.1.bds (X := fun k => k < W.heap.size ∨ Hs G u6 k ∨ some k = (Value.slice A1 r.bs.length c1).ownBlock) (fun k _ e => by
    have h1 := HSZ7.out.1
    have h2 := HSZ7.out.2
    rcases e with e | e | e
    · exact .inl (by omega)
    · exact .inr e
    · have := hv1 k e; exact .inl (by omega)) (HL7.out.1.far HL7.out.2.1 HBT5.out))
  have HLIT := Lib.hid (bd_lit (ct := c5) (ce := c7) HXN (tmpN r.ts.length) ty 83 0 eS r.p.name 9 HTH.out HEL.out)
  simp only [List.length_append, List.length_singleton] at HLIT
  clear HXN HTH HEL hv1 hor hrr hbx
  go_wp2_with (at_builtin; go_loud (refine wpList_app _ rfl _ _ 56 rfl W.heap.size 92 i0 (.agg #[.string ⟨#[]⟩, .bool false, .int .u8 0, .int .i64 0, .string ⟨#[]⟩, .slice none 0 0, .slice none 0 0, .slice none 0 0]) 8 120 Tryd.underlying56 HI.out.1 HI.out.2.1 HI.out.2.2.1 HI.out.2.2.2 rfl (by decide) (.slice A1 r.bs.length c1) r.bs.length csr rfl ((HOR.out.1.alloc _).alloc _) (some ⟨w7.heap.size + 1, 0, none⟩) 1 1 [.string (tmpN r.ts.length), .bool ty, .int .u8 83, .int .i64 0, .string ⟨#[]⟩, .slice (some ⟨w7.heap.size, 0, none⟩) 1 1, .slice A5 (xa.bs.length + 1) c5, .slice A7 (y.bs.length + 1) c7] rfl rfl (cells_newC _ (by simp) _ _) (fun v hv => by simp at hv; rcases hv with rfl | rfl | rfl | rfl | rfl | rfl | rfl | rfl <;> rfl) (by unfold maxLen; omega) (by omega) (by have := HS7.out; simp; omega) ?_; intro v9 w9 hown9 hgrow9 hat9; have HL9 := Lib.hid (lit_step HL7.out.2.1 HBT.out HOR.out.1 HOR.out.2 HLIT.out hown9 hgrow9 hat9); clear hown9 hgrow9 hat9))
  go_ret3
  have F17 := hs_trans HFW2.out HNW2.out F27.out
  have F19 := F17.trans HL9.out.2.2 fun k hk e => by have := (own_ty HOR.out.1 k e.symm).1; omega
  rw [HEQ.out]
  exact ⟨u6, v9, rfl, HL9.out.2.1, (Fr.of_below HBX.out _).trans F19 fun _ _ e => e, (NwU.refl w u).trans (HNW2.out.trans N26.out HFW2.out.size) (by omega), HL9.out.1.lower (by omega)⟩


end Go.Proofs.YtcoeakdpcigogaaDoor

namespace Go.Proofs.YtcoeakdpcigogaaDoor
open Go.ChangeShapes Go.WideShapes Go.ChangeAt Go.RowKit Go.Sort Go.Maps

theorem own_emptyRl {w W : World} {B C : Nat} (hB : W.heap.size = C) (hC : B ≤ C) (e : TypeId) (hw : w = (W.alloc (Obj.cells #[] e))) {size : Nat} : w.ownsRow B e size (.slice (some ⟨C, 0, none⟩) 0 0) 0 [] := by
  subst hB hw
  exact ⟨by simp, .inr ⟨W.heap.size, 0, #[], rfl, hC, heap_alloc_new W _, Nat.le_refl _, by simp [maxLen], by simp, by simp⟩⟩
theorem cells_newRl (w : World) {C : Nat} (hC : w.heap.size = C) (cs : List Value) (T : TypeId) : CellsAt (w.alloc (Obj.cells cs.toArray T)) (some ⟨C, 0, none⟩) cs := fun j u hu => ⟨C, 0, rfl, by
  subst hC
  rw [Nat.zero_add]
  exact (show Bx (w.alloc (Obj.cells cs.toArray T)) w.heap.size cs.toArray from bx_new w _ T).cell (by simpa using hu)⟩
theorem cellsAt_drewRl {w : World} {A : Option Addr} {cs : List Value} (h : CellsAt w A cs) : CellsAt w.drew A cs := h
theorem cellsAt_grownRl {w w' : World} {C : Nat} {cs : List Value} {r : Option Nat} (h : CellsAt w (some ⟨C, 0, none⟩) cs) (hg : w.grownBy w' r) (hn : ∀ g, r = some g → g ≠ C) : CellsAt w' (some ⟨C, 0, none⟩) cs := fun j u hu => by
  obtain ⟨b, o, e, h1⟩ := h j u hu
  cases e
  exact ⟨C, 0, rfl, (Fr.of_grown hg).cell h1 (fun e => hn _ e.symm rfl)⟩
theorem two_boxRl (w : World) (o1 o2 : Obj) : Below w.heap.size w ((w.alloc o1).alloc o2) := ((Below.refl _ _).alloc (Nat.le_refl _) _).alloc (by simp) _
theorem belowDrewRl {B : Nat} {W w : World} (h : Below B W w) : Below B W w.drew := ⟨h.os, h.tape, h.output, h.size, h.block⟩
theorem info_rv38 : (Tryd.prog.info? 79).map (fun i => (i.zero, i.size, i.bytes)) = some (some (.agg #[.string ⟨#[]⟩, .string ⟨#[]⟩, .bool false]), 3, 40) := by kernel_rfl
/-- A row of the call's own, as cells. -/
theorem rcells_own {w : World} {base : Nat} {e : TypeId} {size n : Nat} {v : Value} {xs : List Value} (h : w.ownsRow base e size v n xs) (hx : xs.length = n * size) : ∃ A c, v = .slice A n c ∧ n ≤ c ∧ ∀ (j : Nat) (u : Value), xs[j]? = some u → ∃ b o, A = some ⟨b, o, none⟩ ∧ base ≤ b ∧ w.cell? ⟨b, o + j, none⟩ = some u := by
  rcases id h.2 with ⟨rfl, h0⟩ | ⟨g, cap, cur, rfl, hg, hh, hc1, hc2, hc3, hc4⟩
  · refine ⟨none, 0, by rw [h0], by omega, fun k x hk => ?_⟩
    have : xs = [] := List.length_eq_zero_iff.1 (by rw [hx, h0]; simp)
    subst this; simp at hk
  · refine ⟨some ⟨g, 0, none⟩, cap, rfl, hc1, fun k x hk => ⟨g, 0, rfl, hg, ?_⟩⟩
    have := h.cells (g := g) rfl k x hk
    rw [add0] at this
    rw [Nat.zero_add]; exact this
theorem env_snoc {w w9 w10 : World} {v5 v6 : Value} {cs : List Value} {n : Nat} {e : TypeId} {X : Nat → Prop} (hX : ∀ k, X k → k < w.heap.size) (hb : Below w.heap.size w w9) (hown : w10.ownsRow w.heap.size e 3 v6 (n + 1) cs) (hg : w9.grownBy w10 v5.ownBlock) (ho : ∀ k, v5.ownBlock = some k → w.heap.size ≤ k) (hl : cs.length = (n + 1) * 3) : ∃ A c, v6 = .slice A (n + 1) c ∧ CelX w10 X A cs ∧ Below w.heap.size w w10 := by
  have hb2 := hb.grown hg hb.size ho
  obtain ⟨A, c, e, _, h⟩ := rcells_own hown hl
  exact ⟨A, c, e, fun j u hu => by
    obtain ⟨b, o, e1, h0, h1⟩ := h j u hu
    exact ⟨b, o, e1, fun q => by have := hX b q; omega, h1⟩, hb2⟩
/-- A let, with types. -/
theorem nLet_eq {lib : List Fn1} {x a b : Nd} (hk : x.kind = 84) (hkk : x.kids = [a, b]) {env : ByteArray → Option Pm} (ts : List Pm) {r y : Nr} (hr : nE lib a env ts = r) (hy : nE lib b (setP env x.name (some r.p)) r.ts = y) : nE lib x env ts = ⟨r.bs ++ y.bs, y.p, y.ts⟩ := by
  rw [nE_84 hk, hkk, nLet, hr]
  rw [hy]
def CutL (G BT : Nat) (y : Nr) (u1 : Value) (w1 : World) (v : Value) (wc : World) : Prop := ∃ u2, GnAt wc G BT y.ts u2 ∧ Fr w1 wc (Hs G u1) ∧ NwU w1 u1 u2 ∧ Bo wc w1.heap.size G u2 v y.bs
set_option maxRecDepth 100000 in
set_option maxHeartbeats 8000000 in
theorem rex_84 {W0 : World} {lib : List Fn1} {AL : Option Addr} {cL G BT : Nat} {x : Nd} (hk : x.kind = 84) (hf : formT x = true) (ih : ∀ y, SizeOf.sizeOf y < SizeOf.sizeOf x → formT y = true → RexC W0 lib AL cL G BT y) : RexC W0 lib AL cL G BT x := by
  intro te ty el ts u w Ae Ak ce ck hc hT h hK hts hel
  obtain ⟨a, b, t, hkk, fa, fb, hta, htb⟩ := let_types hk hf hc
  have hz : sizeT x = 1 + sizeT a + sizeT b := by rw [sizeT_eq, hkk]; simp only [sizeTL]; omega
  have hsz : ∀ y ∈ [a, b], SizeOf.sizeOf y < SizeOf.sizeOf x := fun y hy => by
    cases x with
    | mk k1 n1 s1 l1 =>
      have e : l1 = [a, b] := hkk
      have := List.sizeOf_lt_of_mem (show y ∈ l1 from e ▸ hy)
      simp
      omega
  have iha := ih a (hsz a (by simp)) fa
  have ihb := ih b (hsz b (by simp)) fb
  obtain ⟨r, hr⟩ : ∃ r, nE lib a (lastE el) ts = r := ⟨_, rfl⟩
  have hrt : r.p.list = t := by rw [← hr]; exact nE_ty _ a (Nat.le_refl _) fa te t hta (lastE el) _ hT
  obtain ⟨y, hy⟩ : ∃ r', nE lib b (setP (lastE el) x.name (some r.p)) r.ts = r' := ⟨_, rfl⟩
  have HEQ := Lib.hid (nLet_eq hk hkk ts hr hy)
  have n1 := nE_len lib a (lastE el) ts
  have n3 := nE_len lib b (setP (lastE el) x.name (some r.p)) r.ts
  rw [hr] at n1
  rw [hy] at n3
  have hT2 : TyE (setE te x.name (some t)) (lastE (el ++ [(x.name, r.p)])) := by
    rw [lastE_snoc]
    have := hT.set x.name r.p
    rw [hrt] at this
    exact this
  rw [show setP (lastE el) x.name (some r.p) = lastE (el ++ [(x.name, r.p)]) from (lastE_snoc el (x.name, r.p)).symm] at hy
  have hsa := sizeT_eq a
  have hsb := sizeT_eq b
  have HP := Lib.hid h
  have HBX := Lib.hid (below_box w (Obj.cells #[.int .u8 x.kind, .int .i64 x.num, .string x.name, .slice Ak x.kids.length ck] 53))
  have HRX := Lib.hid (bx_new w #[.int .u8 x.kind, .int .i64 x.num, .string x.name, .slice Ak x.kids.length ck] 53)
  have hszW : (w.alloc (Obj.cells #[.int .u8 x.kind, .int .i64 x.num, .string x.name, .slice Ak x.kids.length ck] 53)).heap.size = w.heap.size + 1 := by simp
  obtain ⟨kb, ko, hkA, ho0⟩ := hK 0 a (by rw [hkk]; rfl)
  obtain ⟨kb1, ko1, e1, ho1⟩ := hK 1 b (by rw [hkk]; rfl)
  subst hkA
  cases e1
  obtain ⟨K0, q0, s0, s1, s2, s3, hk0⟩ := ho0.open_
  obtain ⟨K1, q1, s4, s5, s6, s7, hk1⟩ := ho1.open_
  simp only [Nat.zero_mul, Nat.add_zero, Nat.one_mul] at s0 s1 s2 s3 s4 s5 s6 s7
  have HN := Lib.hid (fun (w' : World) (hb' : Below W0.heap.size W0 w') => And.intro (And.intro (below_cell hb' s0) (And.intro (below_cell hb' s1) (And.intro (below_cell hb' s2) (below_cell hb' s3)))) (And.intro (below_cell hb' s4) (And.intro (below_cell hb' s5) (And.intro (below_cell hb' s6) (below_cell hb' s7)))))
  have hkl : x.kids.length = 2 := by rw [hkk]; rfl
  rw [hk, hkl] at HRX HBX hszW ⊢
  have hGb := h.gn.b
  have HFR := Lib.hid (show ∀ u', (∃ W : World, w.heap.size < W.heap.size ∧ NwU W u u') → ¬ Hs G u' w.heap.size from fun u' ⟨W, hW, hn⟩ e => by
    rcases e with e | e
    · have := h.gn.g.lt; omega
    · exact hn.far hW (fun q => by have := (h.gn.ge _ q).2; omega) e.symm)
  have HKD := Lib.hid (And.intro hk0 hk1)
  have HIH := Lib.hid (And.intro iha ihb)
  have HTY := Lib.hid (And.intro hT (And.intro hta (And.intro htb hT2)))
  have HR3 := Lib.hid (And.intro hr hy)
  clear hy hr ho0 ho1 s0 s1 s2 s3 s4 s5 s6 s7 hk0 hk1 iha ihb ih h hK hkk fa fb hT hc hf hk hkl hsz hrt hta htb hT2
  go_enter Tryd.func31, Tryd.ntmps31
  go_upto_region 1 with fail
  generalize w.alloc _ = W at HBX HRX hszW ⊢
  have HPW := Lib.hid (HP.out.below HBX.out)
  have HBT := Lib.hid (show BT ≤ W.heap.size by omega)
  have HC := Lib.hid (HIH.out.1 te t el ts u W Ae K0 ce q0 HTY.out.2.1 HTY.out.1 HPW.out HKD.out.1 (by omega) (by omega))
  rw [HR3.out.1] at HC
  obtain ⟨y0, y1, y2, y3, _⟩ := HRX.out.four
  have hlt := HRX.out.lt
  obtain ⟨⟨k0, k1, k2, k3⟩, _⟩ := HN.out W HPW.out.bw
  have hlk := block_lt_of_cell k0
  go_wp2_with fail
  refine HC.out.mono ?_
  clear HC y0 y1 y2 y3 hlt k0 k1 k2 k3 hlk
  rintro e w1 ⟨u1, v1, rfl, hg1, hf1, hn1, hb1⟩
  obtain ⟨A1, c1, rfl⟩ := hb1.form
  have HP1 := Lib.hid (HPW.out.step hg1 hf1 hn1)
  have HX1 := Lib.hid (HRX.out.fr hf1 (HFR.out u ⟨W, by omega, NwU.refl _ _⟩))
  have hnx := HFR.out u1 ⟨W, by omega, hn1⟩
  have HNX := Lib.hid hnx
  have HW1 := Lib.hid hf1.size
  have HB1 := Lib.hid (And.intro hg1 (And.intro hb1 (And.intro hf1 hn1)))
  have HSX := Lib.hid (fun k (e : Hs G u1 k) => show k < w1.heap.size by
    rcases e with e | e
    · have := hg1.lt; have := hg1.b; omega
    · exact (hg1.ge k e.symm).2)
  clear hg1 hf1 hn1 hb1 hnx
  go_upto_region 11 with fail
  obtain ⟨i0, hi0, hz0, hz1, hz2⟩ := info_parts info_rb
  have HI := Lib.hid (And.intro hi0 (And.intro hz0 (And.intro hz1 hz2)))
  clear hi0 hz0 hz1 hz2
  obtain ⟨j0, hi0, hz0, hz1, hz2⟩ := info_parts info_rv38
  have HI2 := Lib.hid (And.intro hi0 (And.intro hz0 (And.intro hz1 hz2)))
  clear hi0 hz0 hz1 hz2
  have hbP := Below.refl w1.heap.size w1
  have HCL := Lib.hid (fun (Y : World) (hY : Below w1.heap.size w1 Y) => (HP1.out.below hY).ev.at_)
  have KS := Lib.hid (fun (Y : World) (hY : Below w1.heap.size w1 Y) => show Y.cell? ⟨w.heap.size, 2, none⟩ = some (.string x.name) ∧ Y.cell? ⟨w.heap.size, 3, none⟩ = some (.slice (some ⟨kb, ko, none⟩) 2 ck) ∧ Y.cell? ⟨kb, ko + 4, none⟩ = some (.int .u8 b.kind) ∧ Y.cell? ⟨kb, ko + 4 + 1, none⟩ = some (.int .i64 b.num) ∧ Y.cell? ⟨kb, ko + 4 + 2, none⟩ = some (.string b.name) ∧ Y.cell? ⟨kb, ko + 4 + 3, none⟩ = some (.slice K1 b.kids.length q1) from ⟨(HX1.out.below hY).cell rfl, (HX1.out.below hY).cell rfl, (HN.out Y (HP1.out.below hY).bw).2⟩)
  have hgx := HX1.out.lt
  have hlk : kb < w1.heap.size := block_lt_of_cell (KS.out w1 hbP).2.2.1
  have HLEN := Lib.hid (vrCs_len el)
  have HRL1 := Lib.hid (vrCs_one el)
  have HONE : Hid (∀ u ∈ ([.string x.name, .string r.p.name, .bool r.p.list] : List Value), u.oneCell' = true) := Lib.hid (fun v hv => by simp at hv; rcases hv with rfl | rfl | rfl <;> rfl)
  have HLL : Hid ((vrCs el ++ ([.string x.name, .string r.p.name, .bool r.p.list] : List Value)).length = (el.length + 1) * 3) := Lib.hid (by rw [List.length_append, vrCs_len]; simp; omega)
  have HE1 := Lib.hid (show (w1.alloc (Obj.cells #[] 79)).drew.ownsRow w1.heap.size 79 3 (.slice (some ⟨w1.heap.size, 0, none⟩) 0 0) 0 [] from own_emptyRl rfl (Nat.le_refl _) _ rfl)
  have HE2 := Lib.hid (fun (c : Obj) => show ((w1.alloc (Obj.cells #[] 79)).alloc c).drew.ownsRow w1.heap.size 79 3 (.slice (some ⟨w1.heap.size, 0, none⟩) 0 0) 0 [] from (own_emptyRl (W := w1) rfl (Nat.le_refl _) _ rfl).alloc c)
  have HE3 := Lib.hid (fun (c : Obj) => show ((w1.alloc c).alloc (Obj.cells #[] 79)).drew.ownsRow w1.heap.size 79 3 (.slice (some ⟨w1.heap.size + 1, 0, none⟩) 0 0) 0 [] from own_emptyRl (W := w1.alloc c) (by simp) (Nat.le_succ _) _ rfl)
  have HCB := Lib.hid (fun (W' : World) (A20 : Option Addr) (c20 : Nat) (hv : CelX W' (Hs G u1) A20 (vrCs el ++ [.string x.name, .string r.p.name, .bool r.p.list])) (hb : Below w1.heap.size w1 W') => show Calls Tryd.prog 31 #[.pointer (some ⟨G, 0, none⟩), .slice AL lib.length cL, .slice A20 (el.length + 1) c20, .agg #[.int .u8 b.kind, .int .i64 b.num, .string b.name, .slice K1 b.kids.length q1]] W' (RetXp G BT y u1 W') by
    have h1 := HP1.out.below hb
    have h2 := HIH.out.2 (setE te x.name (some t)) ty (el ++ [(x.name, r.p)]) r.ts u1 W' A20 K1 c20 q1 HTY.out.2.2.1 HTY.out.2.2.2 ⟨h1.bw, h1.gn, h1.g0, by rw [vrCs_snoc]; exact hv⟩ HKD.out.2 (by omega) (by rw [List.length_append, List.length_singleton]; omega)
    rw [HR3.out.2, List.length_append, List.length_singleton] at h2
    exact h2)
  have HCU := Lib.hid (fun (W' w6 : World) (u6 : Value) (A6 : Option Addr) (c6 : Nat) (hb : Below w1.heap.size w1 W') (hg6 : GnAt w6 G BT y.ts u6) (hf6 : Fr W' w6 (Hs G u1)) (hn6 : NwU W' u1 u6) (hb6 : Bo w6 W'.heap.size G u6 (.slice A6 y.bs.length c6) y.bs) => show CutL G BT y u1 w1 (.slice A6 y.bs.length c6) w6 ∧ (w6.cell? ⟨w.heap.size, 2, none⟩ = some (.string x.name) ∧ w6.cell? ⟨w.heap.size, 3, none⟩ = some (.slice (some ⟨kb, ko, none⟩) 2 ck) ∧ w6.cell? ⟨kb, ko + 4, none⟩ = some (.int .u8 b.kind) ∧ w6.cell? ⟨kb, ko + 4 + 1, none⟩ = some (.int .i64 b.num) ∧ w6.cell? ⟨kb, ko + 4 + 2, none⟩ = some (.string b.name) ∧ w6.cell? ⟨kb, ko + 4 + 3, none⟩ = some (.slice K1 b.kids.length q1)) from ⟨⟨u6, hg6, (Fr.of_below hb _).trans hf6 (fun _ _ e => e), (NwU.refl w1 u1).trans hn6 hb.size, hb6.lower hb.size⟩, by
    have hx := (HX1.out.below hb).fr hf6 HNX.out
    have hn := (HN.out w6 ((HP1.out.below hb).step hg6 hf6 hn6).bw).2
    exact ⟨hx.cell rfl, hx.cell rfl, hn⟩⟩)
  go_cut [15, 16, 17] (fun p q s wc => ∃ A6 c6, p = .slice A6 y.bs.length c6 ∧ q = .string y.p.name ∧ s = .bool y.p.list ∧ Hid (CutL G BT y u1 w1 (.slice A6 y.bs.length c6) wc))
  case first =>
    go_region_held3 (fun w' => w'.cell? ⟨w.heap.size, 2, none⟩ = some (.string x.name) ∧ w'.cell? ⟨w.heap.size, 3, none⟩ = some (.slice (some ⟨kb, ko, none⟩) 2 ck) ∧ w'.cell? ⟨kb, ko + 4, none⟩ = some (.int .u8 b.kind) ∧ w'.cell? ⟨kb, ko + 4 + 1, none⟩ = some (.int .i64 b.num) ∧ w'.cell? ⟨kb, ko + 4 + 2, none⟩ = some (.string b.name) ∧ w'.cell? ⟨kb, ko + 4 + 3, none⟩ = some (.slice K1 b.kids.length q1))
      (first | (refine KS.out _ ?_; (repeat first | exact hbP | refine belowDrewRl ?_ | refine Below.alloc ?_ (by first | exact Nat.le_refl _ | exact hbP.size | simp) _); done) | exact HC6.out.2)
      (first
      | (refine step_app _ (by rfl) (.tmp 84) (.tmp 85) 77 (by rfl) w1.heap.size 79 j0 (.agg #[.string ⟨#[]⟩, .string ⟨#[]⟩, .bool false]) 3 40 Tryd.underlying77 HI2.out.1 HI2.out.2.1 HI2.out.2.2.1 HI2.out.2.2.2 rfl (by decide) (.slice (some ⟨w1.heap.size, 0, none⟩) 0 0) 0 [] (by simp [Act.eval]) (HE1.out) Ae el.length ce (vrCs el) (by simp [Act.eval]) HLEN.out (HCL.out _ (belowDrewRl (below_box w1 (Obj.cells #[] 79)))) HRL1.out (by unfold maxLen; omega) (by omega) (((belowDrewRl (below_box w1 (Obj.cells #[] 79)))).size) ?_; intro v5 w9 hown5 hgrow5 hat5; have q9 := Lib.hid (Below.grown (belowDrewRl (below_box w1 (Obj.cells #[] 79))) hgrow5 (((belowDrewRl (below_box w1 (Obj.cells #[] 79)))).size) (fun j hj => ((HE1.out).lt j hj).1)); rw [Nat.zero_add, List.nil_append] at hown5; have HO5 := Lib.hid hown5; have hbP := q9.out; clear hown5 hgrow5 hat5)
      | (refine step_app _ (by rfl) (.tmp 84) (.tmp 85) 77 (by rfl) w1.heap.size 79 j0 (.agg #[.string ⟨#[]⟩, .string ⟨#[]⟩, .bool false]) 3 40 Tryd.underlying77 HI2.out.1 HI2.out.2.1 HI2.out.2.2.1 HI2.out.2.2.2 rfl (by decide) (.slice (some ⟨w1.heap.size, 0, none⟩) 0 0) 0 [] (by simp [Act.eval]) (HE2.out (Obj.cells #[.string x.name, .string r.p.name, .bool r.p.list] 79)) Ae el.length ce (vrCs el) (by simp [Act.eval]) HLEN.out (HCL.out _ (belowDrewRl (two_boxRl w1 (Obj.cells #[] 79) (Obj.cells #[.string x.name, .string r.p.name, .bool r.p.list] 79)))) HRL1.out (by unfold maxLen; omega) (by omega) (((belowDrewRl (two_boxRl w1 (Obj.cells #[] 79) (Obj.cells #[.string x.name, .string r.p.name, .bool r.p.list] 79)))).size) ?_; intro v5 w9 hown5 hgrow5 hat5; have q9 := Lib.hid (Below.grown (belowDrewRl (two_boxRl w1 (Obj.cells #[] 79) (Obj.cells #[.string x.name, .string r.p.name, .bool r.p.list] 79))) hgrow5 (((belowDrewRl (two_boxRl w1 (Obj.cells #[] 79) (Obj.cells #[.string x.name, .string r.p.name, .bool r.p.list] 79)))).size) (fun j hj => ((HE2.out (Obj.cells #[.string x.name, .string r.p.name, .bool r.p.list] 79)).lt j hj).1)); rw [Nat.zero_add, List.nil_append] at hown5; have HO5 := Lib.hid hown5; have hbP := q9.out; have HS5 := Lib.hid (cellsAt_grownRl (C := w1.heap.size + 1) (cellsAt_drewRl <| cells_newRl (w1.alloc (Obj.cells #[] 79)) (by simp) [.string x.name, .string r.p.name, .bool r.p.list] _) hgrow5 (fun g hg => by simp [Value.ownBlock] at hg; omega)); clear hown5 hgrow5 hat5)
      | (refine step_app _ (by rfl) (.tmp 84) (.tmp 85) 77 (by rfl) w1.heap.size 79 j0 (.agg #[.string ⟨#[]⟩, .string ⟨#[]⟩, .bool false]) 3 40 Tryd.underlying77 HI2.out.1 HI2.out.2.1 HI2.out.2.2.1 HI2.out.2.2.2 rfl (by decide) (.slice (some ⟨w1.heap.size + 1, 0, none⟩) 0 0) 0 [] (by simp [Act.eval]) (HE3.out (Obj.cells #[.string x.name, .string r.p.name, .bool r.p.list] 79)) Ae el.length ce (vrCs el) (by simp [Act.eval]) HLEN.out (HCL.out _ (belowDrewRl (two_boxRl w1 (Obj.cells #[.string x.name, .string r.p.name, .bool r.p.list] 79) (Obj.cells #[] 79)))) HRL1.out (by unfold maxLen; omega) (by omega) (((belowDrewRl (two_boxRl w1 (Obj.cells #[.string x.name, .string r.p.name, .bool r.p.list] 79) (Obj.cells #[] 79)))).size) ?_; intro v5 w9 hown5 hgrow5 hat5; have q9 := Lib.hid (Below.grown (belowDrewRl (two_boxRl w1 (Obj.cells #[.string x.name, .string r.p.name, .bool r.p.list] 79) (Obj.cells #[] 79))) hgrow5 (((belowDrewRl (two_boxRl w1 (Obj.cells #[.string x.name, .string r.p.name, .bool r.p.list] 79) (Obj.cells #[] 79)))).size) (fun j hj => ((HE3.out (Obj.cells #[.string x.name, .string r.p.name, .bool r.p.list] 79)).lt j hj).1)); rw [Nat.zero_add, List.nil_append] at hown5; have HO5 := Lib.hid hown5; have hbP := q9.out; have HS5 := Lib.hid (cellsAt_grownRl (C := w1.heap.size) (cellsAt_drewRl <| (cells_newRl w1 rfl [.string x.name, .string r.p.name, .bool r.p.list] 79).mono (below_box _ (Obj.cells #[] 79))) hgrow5 (fun g hg => by simp [Value.ownBlock] at hg; omega)); clear hown5 hgrow5 hat5)
      | (refine step_app _ (by rfl) (.tmp 86) (.tmp 92) 77 (by rfl) w1.heap.size 79 j0 (.agg #[.string ⟨#[]⟩, .string ⟨#[]⟩, .bool false]) 3 40 Tryd.underlying77 HI2.out.1 HI2.out.2.1 HI2.out.2.2.1 HI2.out.2.2.2 rfl (by decide) v5 el.length (vrCs el) (by simp [Act.eval]) (HO5.out) _ 1 1 [.string x.name, .string r.p.name, .bool r.p.list] (by simp [Act.eval]) rfl (HS5.out) HONE.out (by unfold maxLen; omega) (by omega) (by have := q9.out.size; first | exact this | (simp; omega)) ?_; intro v6 w10 hown6 hgrow6 hat6; obtain ⟨A20, c20, rfl, n1, n2⟩ := env_snoc HSX.out (by first | exact q9.out | exact q9.out.alloc q9.out.size _) hown6 hgrow6 (fun k hk => (HO5.out.lt k hk).1) HLL.out; have hbP := n2; have NX := Lib.hid (And.intro n1 n2); clear hown6 hgrow6 hat6 n1 n2)
      | (refine step_app _ (by rfl) (.tmp 86) (.tmp 92) 77 (by rfl) w1.heap.size 79 j0 (.agg #[.string ⟨#[]⟩, .string ⟨#[]⟩, .bool false]) 3 40 Tryd.underlying77 HI2.out.1 HI2.out.2.1 HI2.out.2.2.1 HI2.out.2.2.2 rfl (by decide) v5 el.length (vrCs el) (by simp [Act.eval]) (HO5.out.alloc _) (some ⟨w9.heap.size, 0, none⟩) 1 1 [.string x.name, .string r.p.name, .bool r.p.list] (by simp [Act.eval]) rfl (cells_newRl w9 rfl [.string x.name, .string r.p.name, .bool r.p.list] _) HONE.out (by unfold maxLen; omega) (by omega) (by have := q9.out.size; first | exact this | (simp; omega)) ?_; intro v6 w10 hown6 hgrow6 hat6; obtain ⟨A20, c20, rfl, n1, n2⟩ := env_snoc HSX.out (by first | exact q9.out | exact q9.out.alloc q9.out.size _) hown6 hgrow6 (fun k hk => (HO5.out.lt k hk).1) HLL.out; have hbP := n2; have NX := Lib.hid (And.intro n1 n2); clear hown6 hgrow6 hat6 n1 n2)
      | (go_simp; go_at_call 31; (with_reducible refine Calls.mono (HCB.out _ A20 c20 NX.out.1 NX.out.2) ?_); rintro e w6 ⟨u6, v6, rfl, hg6, hf6, hn6, hb6⟩; obtain ⟨A6, c6, rfl⟩ := hb6.form; have HC6 := Lib.hid (HCU.out _ w6 u6 A6 c6 NX.out.2 hg6 hf6 hn6 hb6); clear hg6 hf6 hn6 hb6; dsimp only)
      | fail)
    all_goals
      go_wp2_with fail
      go_meet
      exact ⟨A6, c6, rfl, rfl, rfl, Lib.hid HC6.out.1⟩
  case rest =>
    obtain ⟨A2, c2, rfl, rfl, rfl, hca⟩ := hcut
    obtain ⟨u2, hg2, hf2, hn2, hb2⟩ := hca.out
    have HB2 := Lib.hid (HB1.out.2.1.call HB1.out.1 HBT.out hf2 hn2)
    have HFW := Lib.hid (hs_trans HB1.out.2.2.1 HB1.out.2.2.2 hf2)
    have HNW := Lib.hid (HB1.out.2.2.2.trans hn2 HB1.out.2.2.1.size)
    have HG2 := Lib.hid hg2
    have HY2 := Lib.hid hb2
    have hv1 := (HB1.out.2.1).ge
    obtain ⟨cs1, ho1, hr1⟩ := HB2.out
    obtain ⟨cs2, ho2, hr2⟩ := hb2
    have HO1 := Lib.hid (And.intro ho1 hr1)
    have hlen2 := hr2.len BdC.len
    have hone2 := hr2.one BdC.one
    obtain ⟨A2', c2', eA, _, hcl2⟩ := rcells_own ho2 hlen2
    cases eA
    have HS2 := Lib.hid (show W.heap.size ≤ wc.heap.size from HFW.out.size)
    have HCL2 := Lib.hid (show CellsAt wc A2 cs2 from fun j u hu => by obtain ⟨b, o, e1, _, h1⟩ := hcl2 j u hu; exact ⟨b, o, e1, h1⟩)
    have HL2 := Lib.hid (And.intro hlen2 hone2)
    have HR2 := Lib.hid (show RowG (BdC wc fun k => k < w1.heap.size ∨ Hs G u2 k) cs2 y.bs from hr2.map fun c x h => BdC.le (Le.less fun k _ e => e.elim .inl fun e => .inr (.inl e)) c x h)
    have HV1 := Lib.hid (fun g hg => (hv1 g hg).2)
    clear hca hg2 hf2 hn2 hv1 ho1 hr1 ho2 hr2 hlen2 hone2 hcl2 HE1 HE2 HE3 HCB HCU KS HCL
    have hrb : r.bs.length ≤ 90000 := by omega
    have hyb : y.bs.length ≤ 90000 := by omega
    go_wp2_with (at_builtin; go_loud (refine wpList_app _ rfl _ _ 56 rfl W.heap.size 92 i0 (.agg #[.string ⟨#[]⟩, .bool false, .int .u8 0, .int .i64 0, .string ⟨#[]⟩, .slice none 0 0, .slice none 0 0, .slice none 0 0]) 8 120 Tryd.underlying56 HI.out.1 HI.out.2.1 HI.out.2.2.1 HI.out.2.2.2 rfl (by decide) (.slice A1 r.bs.length c1) r.bs.length cs1 rfl HO1.out.1 A2 y.bs.length c2 cs2 rfl HL2.out.1 HCL2.out HL2.out.2 (by unfold maxLen; omega) (by omega) HS2.out ?_; intro v9 w9 hown9 hgrow9 hat9; have HL9 := Lib.hid (And.intro (Bo.app HO1.out.2 HR2.out HW1.out HV1.out hown9 hgrow9 hat9) (HG2.out.push HB2.out HBT.out (Below.refl _ _) hgrow9)); clear hown9 hgrow9 hat9))
    go_ret3
    have F19 := HFW.out.trans HL9.out.2.2 fun k hk e => by have := (own_ty HO1.out.1 k e.symm).1; omega
    rw [HEQ.out]
    exact ⟨u2, v9, rfl, HL9.out.2.1, (Fr.of_below HBX.out _).trans F19 fun _ _ e => e, (NwU.refl w u).trans HNW.out (by omega), HL9.out.1.lower (by omega)⟩

end Go.Proofs.YtcoeakdpcigogaaDoor

namespace Go.Proofs.YtcoeakdpcigogaaDoor
open Go.ChangeShapes Go.WideShapes Go.ChangeAt Go.RowKit Go.Sort Go.Maps

/-- An operation's bind. -/
theorem op_eq {lib : List Fn1} {x : Nd} (hf : formT x = true) (h81 : x.kind ≠ 81) (h83 : x.kind ≠ 83) (h84 : x.kind ≠ 84) (env : ByteArray → Option Pm) (ts : List Pm) : nE lib x env ts = .put (nArgs lib (decide (x.kind = 85)) x.kids env ts).bs (if x.kind = 85 then (((lib[(findF lib x.name 0).toNat]?).map Fn1.list).getD false) else listK x.kind) (nArgs lib (decide (x.kind = 85)) x.kids env ts).ts x.kind x.num x.name (nArgs lib (decide (x.kind = 85)) x.kids env ts).args := by
  rw [formT_eq] at hf
  have hb := (Bool.and_eq_true_iff.1 hf).1
  by_cases h85 : x.kind = 85
  · have hn : x.num = 0 := by
      unfold formB at hb
      rw [if_neg (by omega), if_neg (by omega), if_neg (by omega), if_neg (by omega), if_pos h85] at hb
      simpa using hb
    rw [nE_85 h85, if_pos h85, decide_eq_true h85, hn, h85]
  · have he : x.name = eS := by
      unfold formB at hb
      simp only [nameE, if_neg h81, if_neg h84, if_neg h85] at hb
      split at hb
      · simp at hb; exact hb.1.2
      · split at hb
        · simp at hb; exact hb.1.2
        · simp at hb; exact hb.1.2
    rw [nE_op h81 h83 h84 h85, if_neg h85, decide_eq_false h85, he]
/-- The rows while arguments are gathered. -/
structure Op5 (G BT : Nat) (u : Value) (W : World) (ts' : List Pm) (bs' : List Bd) (args : List ByteArray) (u' v s : Value) (w : World) : Prop where
  gn : GnAt w G BT ts' u'
  fr : Fr W w (Hs G u)
  nu : NwU W u u'
  hb : BT ≤ W.heap.size
  st : w.ownsRow W.heap.size 9 1 s args.length (args.map Value.string)
  bo : ∃ cs, w.ownsRow W.heap.size 92 8 v bs'.length cs ∧ RowG (BdC w fun k => k < W.heap.size ∨ Hs G u' k ∨ some k = v.ownBlock ∨ some k = s.ownBlock) cs bs'
variable {G BT : Nat} {u : Value} {W : World} {ts' ts2 : List Pm} {bs' bs2 : List Bd} {args : List ByteArray} {u' u2 v v' s s' : Value} {w w2 w5 w9 : World}
theorem Op5.start {ts : List Pm} (h : GnAt W G BT ts u) : Op5 G BT u W ts [] [] u (.slice none 0 0) (.slice none 0 0) W := ⟨h, Fr.refl _ _, NwU.refl _ _, h.b, ⟨rfl, .inl ⟨rfl, rfl⟩⟩, ⟨[], ⟨rfl, .inl ⟨rfl, rfl⟩⟩, .nil⟩⟩
theorem Op5.stFar (h : Op5 G BT u W ts' bs' args u' v s w) : ∀ g, s.ownBlock = some g → W.heap.size ≤ g ∧ g < w.heap.size ∧ ¬ Hs G u' g ∧ v.ownBlock ≠ some g := fun g hg => by
  obtain ⟨h1, c1, t1⟩ := own_ty h.st g hg
  refine ⟨h1, (h.st.lt g hg).2, fun e => ?_, fun e => ?_⟩
  · rcases e with e | e
    · have := h.gn.lt; have := h.hb; omega
    · obtain ⟨_, c2, t2⟩ := own_ty h.gn.own g e.symm
      rw [t1] at t2; cases t2
  · obtain ⟨cs, ho, _⟩ := h.bo
    obtain ⟨_, c2, t2⟩ := own_ty ho g e
    rw [t1] at t2; cases t2
theorem Op5.boFar (h : Op5 G BT u W ts' bs' args u' v s w) : ∀ g, v.ownBlock = some g → W.heap.size ≤ g ∧ g < w.heap.size ∧ ¬ Hs G u' g ∧ s.ownBlock ≠ some g := fun g hg => by
  obtain ⟨cs, ho, _⟩ := h.bo
  obtain ⟨h1, c1, t1⟩ := own_ty ho g hg
  refine ⟨h1, (ho.lt g hg).2, fun e => ?_, fun e => ?_⟩
  · rcases e with e | e
    · have := h.gn.lt; have := h.hb; omega
    · obtain ⟨_, c2, t2⟩ := own_ty h.gn.own g e.symm
      rw [t1] at t2; cases t2
  · obtain ⟨_, c2, t2⟩ := own_ty h.st g e
    rw [t1] at t2; cases t2
theorem Op5.call (h : Op5 G BT u W ts' bs' args u' v s w) (hg : GnAt w2 G BT ts2 u2) (hf : Fr w w2 (Hs G u')) (hn : NwU w u' u2) : Op5 G BT u W ts2 bs' args u2 v s w2 := by
  have f1 := h.boFar
  have f2 := h.stFar
  obtain ⟨cs, ho, hr⟩ := h.bo
  refine ⟨hg, hs_trans h.fr h.nu hf, h.nu.trans hn h.fr.size, h.hb, hf.own h.st fun g e => (f2 g e).2.2.1, cs, hf.own ho fun g e => (f1 g e).2.2.1, hr.map fun c x hc => BdC.le (Le.of_fr hf (fun k _ e => .inr (.inl e)) fun k hk e => ?_) c x hc⟩
  rcases e with e | e | e
  · exact .inl e
  · rcases e with e | e
    · exact .inr (.inl (.inl e))
    · rcases hn k e.symm with q | q
      · exact .inr (.inl (.inr q.symm))
      · omega
  · exact .inr (.inr e)
theorem Op5.below (h : Op5 G BT u W ts' bs' args u' v s w) (hb : Below w.heap.size w w2) : Op5 G BT u W ts' bs' args u' v s w2 := h.call (h.gn.below hb) (Fr.of_below hb _) (NwU.refl _ _)
/-- More binds at the end. -/
theorem Op5.app (h : Op5 G BT u W ts' bs' args u' v s w) {cs cs2 : List Value} {wm : World} (hr : RowG (BdC w fun k => k < W.heap.size ∨ Hs G u' k ∨ some k = v.ownBlock ∨ some k = s.ownBlock) cs bs') (hr2 : RowG (BdC w5 fun k => k < W.heap.size ∨ Hs G u' k ∨ some k = v.ownBlock ∨ some k = s.ownBlock) cs2 bs2) (hb5 : Below w.heap.size w w5) (hb9 : Below w5.heap.size w5 wm)
    (hown' : w9.ownsRow W.heap.size 92 8 v' (bs'.length + bs2.length) (cs ++ cs2)) (hg : wm.grownBy w9 v.ownBlock) (hat : v'.ownBlock = v.ownBlock ∨ v'.ownBlock = some wm.heap.size) : Op5 G BT u W ts' (bs' ++ bs2) args u' v' s w9 := by
  have f1 := h.boFar
  have f2 := h.stFar
  have F9 : Fr w5 w9 (fun k => some k = v.ownBlock) := (Fr.of_below hb9 _).trans (Fr.of_grown hg) fun _ _ e => e
  have F0 : Fr w w9 (fun k => some k = v.ownBlock) := (Fr.of_below hb5 _).trans F9 fun _ _ e => e
  have key : ∀ k, k < w5.heap.size → some k = v'.ownBlock → some k = v.ownBlock := fun k hk e => by
    rcases hat with q | q
    · rw [e, q]
    · rw [q] at e; cases e; have := hb9.size; omega
  have kx : ∀ k, k < w5.heap.size → (k < W.heap.size ∨ Hs G u' k ∨ some k = v'.ownBlock ∨ some k = s.ownBlock) → (k < W.heap.size ∨ Hs G u' k ∨ some k = v.ownBlock ∨ some k = s.ownBlock) := fun k hk e => by
    rcases e with e | e | e | e
    · exact .inl e
    · exact .inr (.inl e)
    · exact .inr (.inr (.inl (key k hk e)))
    · exact .inr (.inr (.inr e))
  refine ⟨h.gn.fr F0 (fun e => (f1 G e.symm).2.2.1 (.inl rfl)) fun g e e2 => (f1 g e2.symm).2.2.1 (.inr e.symm), h.fr.trans F0 fun k hk e => by have := (f1 k e.symm).1; omega, h.nu, h.hb, F0.own h.st fun g e e2 => (f2 g e).2.2.2 e2.symm, cs ++ cs2, by rw [List.length_append]; exact hown', ?_⟩
  exact (hr.map fun c x hc => BdC.le (Le.of_fr F0 (fun k _ e => .inr (.inr (.inl e))) fun k hk e => kx k (by have := hb5.size; omega) e) c x hc).app (hr2.map fun c x hc => BdC.le (Le.of_fr F9 (fun k _ e => .inr (.inr (.inl e))) kx) c x hc)
/-- One more name. -/
theorem Op5.str (h : Op5 G BT u W ts' bs' args u' v s w) {a : ByteArray} {wm : World} (hbm : Below w.heap.size w wm) (hown' : w9.ownsRow W.heap.size 9 1 s' (args.length + 1) (args.map Value.string ++ [.string a])) (hg : wm.grownBy w9 s.ownBlock) (hat : s'.ownBlock = s.ownBlock ∨ s'.ownBlock = some wm.heap.size) : Op5 G BT u W ts' bs' (args ++ [a]) u' v s' w9 := by
  have f1 := h.boFar
  have f2 := h.stFar
  have F0 : Fr w w9 (fun k => some k = s.ownBlock) := (Fr.of_below hbm _).trans (Fr.of_grown hg) fun _ _ e => e
  have key : ∀ k, k < w.heap.size → some k = s'.ownBlock → some k = s.ownBlock := fun k hk e => by
    rcases hat with q | q
    · rw [e, q]
    · rw [q] at e; cases e; have := hbm.size; omega
  obtain ⟨cs, ho, hr⟩ := h.bo
  refine ⟨h.gn.fr F0 (fun e => (f2 G e.symm).2.2.1 (.inl rfl)) fun g e e2 => (f2 g e2.symm).2.2.1 (.inr e.symm), h.fr.trans F0 fun k hk e => by have := (f2 k e.symm).1; omega, h.nu, h.hb, by rw [List.length_append, List.map_append]; exact hown', cs, F0.own ho fun g e e2 => (f1 g e).2.2.2 e2.symm, hr.map fun c x hc => BdC.le (Le.of_fr F0 (fun k _ e => .inr (.inr (.inr e))) fun k hk e => ?_) c x hc⟩
  rcases e with e | e | e | e
  · exact .inl e
  · exact .inr (.inl e)
  · exact .inr (.inr (.inl e))
  · exact .inr (.inr (.inr (key k hk e)))
/-- A new block is not hidden. -/
theorem Op5.hid (h : Op5 G BT u W ts' bs' args u' v s w) : ¬ (w.heap.size < W.heap.size ∨ Hs G u' w.heap.size ∨ some w.heap.size = v.ownBlock ∨ some w.heap.size = s.ownBlock) := fun e => by
  have hs := h.fr.size
  rcases e with e | e | e | e
  · omega
  · rcases e with e | e
    · have := h.gn.g.lt; omega
    · have := (h.gn.ge _ e.symm).2; omega
  · have := (h.boFar _ e.symm).2.1; omega
  · have := (h.stFar _ e.symm).2.1; omega
/-- The names as a bind's arguments, and the bind at the end. -/
theorem Op5.fin (h : Op5 G BT u W ts' bs' args u' v s w) {cs : List Value} {wm : World} {A : Option Addr} {c : Nat} (hs : s = .slice A args.length c) (l : Bool) (op : Nat) (num : Int) (nm tq : ByteArray) (hr : RowG (BdC w fun k => k < W.heap.size ∨ Hs G u' k ∨ some k = v.ownBlock ∨ some k = s.ownBlock) cs bs') (hbm : Below w.heap.size w wm)
    (hown' : w9.ownsRow W.heap.size 92 8 v' (bs'.length + 1) (cs ++ [.string tq, .bool l, .int .u8 op, .int .i64 num, .string nm, .slice A args.length c, .slice none 0 0, .slice none 0 0])) (hg : wm.grownBy w9 v.ownBlock) (hat : v'.ownBlock = v.ownBlock ∨ v'.ownBlock = some wm.heap.size) : GnAt w9 G BT ts' u' ∧ Fr W w9 (Hs G u) ∧ Bo w9 W.heap.size G u' v' (bs' ++ [.mk tq l op num nm args [] []]) := by
  have f1 := h.boFar
  have f2 := h.stFar
  have F0 : Fr w w9 (fun k => some k = v.ownBlock) := (Fr.of_below hbm _).trans (Fr.of_grown hg) fun _ _ e => e
  have key : ∀ k, k < w.heap.size → some k = v'.ownBlock → some k = v.ownBlock := fun k hk e => by
    rcases hat with q | q
    · rw [e, q]
    · rw [q] at e; cases e; have := hbm.size; omega
  have kx : ∀ k, k < w.heap.size → (k < W.heap.size ∨ Hs G u' k ∨ some k = v'.ownBlock) → (k < W.heap.size ∨ Hs G u' k ∨ some k = v.ownBlock) := fun k hk e => by
    rcases e with e | e | e
    · exact .inl e
    · exact .inr (.inl e)
    · exact .inr (.inr (key k hk e))
  obtain ⟨A', c', e, hstr⟩ := strsX_of_own (X := fun k => k < W.heap.size ∨ Hs G u' k ∨ some k = v.ownBlock) h.st (fun g hg e => by
    obtain ⟨q1, q2, q3, q4⟩ := f2 g hg
    rcases e with e | e | e
    · omega
    · exact q3 e
    · exact q4 e.symm)
  rw [hs] at e
  cases e
  refine ⟨h.gn.fr F0 (fun e => (f1 G e.symm).2.2.1 (.inl rfl)) fun g e e2 => (f1 g e2.symm).2.2.1 (.inr e.symm), h.fr.trans F0 fun k hk e => by have := (f1 k e.symm).1; omega, _, by rw [List.length_append]; exact hown', .snoc (hr.map fun c x hc => BdC.le (Le.of_fr F0 (fun k _ e => .inr (.inr (.inl e))) fun k hk e => (kx k hk e).elim .inl fun e => .inr (e.elim .inl fun e => .inr (.inl e))) c x hc) (BdC.le (Le.of_fr F0 (fun k _ e => .inr (.inr e)) kx) _ _ ?_)⟩
  exact ⟨A, c, none, 0, none, 0, rfl, hstr, BdsX.nil _ _ _, BdsX.nil _ _ _⟩

end Go.Proofs.YtcoeakdpcigogaaDoor

namespace Go.Proofs.YtcoeakdpcigogaaDoor
open Go.ChangeShapes Go.WideShapes Go.ChangeAt Go.RowKit Go.Sort Go.Maps

theorem kid_lt {x y : Nd} {k : Nat} (h : x.kids[k]? = some y) : SizeOf.sizeOf y < SizeOf.sizeOf x := by
  obtain ⟨h1, h2⟩ := List.getElem?_eq_some_iff.1 h
  have h3 := List.sizeOf_lt_of_mem (List.getElem_mem h1)
  rw [h2] at h3
  cases x with
  | mk k1 n1 s1 l1 =>
    have h2 : SizeOf.sizeOf (Nd.mk k1 n1 s1 l1).kids = SizeOf.sizeOf l1 := rfl
    simp at h3 ⊢
    omega
theorem beqF {a : Nat} {b : Nat} (h : a ≠ b) : ((a : Int) == (b : Int)) = false := beq_eq_false_iff_ne.2 (by omega)
theorem beqD (a b : Nat) : ((a : Int) == (b : Int)) = decide (a = b) := by
  by_cases e : a = b
  · rw [e, decide_eq_true rfl]; simp
  · rw [decide_eq_false e]; exact beqF e
set_option maxRecDepth 100000 in
set_option maxHeartbeats 8000000 in
theorem rex_op {W0 : World} {lib : List Fn1} {AL : Option Addr} {cL G BT : Nat} {x : Nd} (hLW : LibAt W0 AL lib) (hll : lib.length ≤ 9223372036854775807) (h81 : x.kind ≠ 81) (h83 : x.kind ≠ 83) (h84 : x.kind ≠ 84) (hf : formT x = true) (ih : ∀ y, SizeOf.sizeOf y < SizeOf.sizeOf x → formT y = true → RexC W0 lib AL cL G BT y) : RexC W0 lib AL cL G BT x := by
  intro te ty el ts u w Ae Ak ce ck hc hT h hK hts hel
  have HEQ0 := op_eq (lib := lib) hf h81 h83 h84 (lastE el) ts
  rw [formT_eq] at hf
  obtain ⟨hb, hkids⟩ := Bool.and_eq_true_iff.1 hf
  have hkid := formT_kid hkids
  obtain ⟨c1, c2, c3, c4⟩ := chkT_ok hc
  obtain ⟨_, k2⟩ := chkTL_ok h84 _ _ _ c2
  have HR85 := Lib.hid (fun h85 : x.kind = 85 => (reach85 c1 h85).1)
  have hz := sizeT_eq x
  obtain ⟨Z, hZ⟩ : ∃ Z : Nat → Na, Z = fun k => nArgs lib (decide (x.kind = 85)) (x.kids.take k) (lastE el) ts := ⟨_, rfl⟩
  have HZ0 := Lib.hid (show Z 0 = ⟨[], [], ts⟩ by rw [hZ]; show nArgs lib _ (x.kids.take 0) _ _ = _; rw [List.take_zero, nArgs])
  have HZN := show nArgs lib (decide (x.kind = 85)) x.kids (lastE el) ts = Z x.kids.length by rw [hZ]; show _ = nArgs lib _ (x.kids.take x.kids.length) _ _; rw [List.take_length]
  rw [HZN] at HEQ0
  have HEQ := Lib.hid HEQ0
  have HZS := Lib.hid (fun (k : Nat) (y : Nd) (hy : x.kids[k]? = some y) (r : Nr) (hr : nE lib y (lastE el) (Z k).ts = r) => show Z (k + 1) = ⟨(Z k).bs ++ (Nr.arg (decide (x.kind = 85)) y r).bs, (Z k).args ++ [(Nr.arg (decide (x.kind = 85)) y r).p.name], (Nr.arg (decide (x.kind = 85)) y r).ts⟩ by
    obtain ⟨h1, h2⟩ := List.getElem?_eq_some_iff.1 hy
    rw [← hr, hZ]
    show nArgs lib _ (x.kids.take (k + 1)) _ _ = _
    rw [List.take_succ_eq_append_getElem h1, h2, nArgs_snoc])
  have HZB := Lib.hid (fun (k : Nat) => show (Z k).bs.length ≤ 3 * sizeTL (x.kids.take k) ∧ (Z k).ts.length ≤ ts.length + 3 * sizeTL (x.kids.take k) ∧ sizeTL (x.kids.take k) ≤ sizeTL x.kids ∧ (Z k).args.length ≤ x.kids.length by
    have h1 := nArgs_ext lib (decide (x.kind = 85)) (x.kids.take k) (lastE el) ts
    obtain ⟨ex, e, hl⟩ := h1.pre
    have h2 := nArgs_len lib (decide (x.kind = 85)) (lastE el) (x.kids.take k) ts
    have h3 : sizeTL (x.kids.take k) + sizeTL (x.kids.drop k) = sizeTL x.kids := by rw [← sizeTL_append, List.take_append_drop]
    rw [hZ]
    show (nArgs lib (decide (x.kind = 85)) (x.kids.take k) (lastE el) ts).bs.length ≤ _ ∧ (nArgs lib (decide (x.kind = 85)) (x.kids.take k) (lastE el) ts).ts.length ≤ _ ∧ _ ∧ (nArgs lib (decide (x.kind = 85)) (x.kids.take k) (lastE el) ts).args.length ≤ _
    rw [e, List.length_append, h2, List.length_take]
    exact ⟨h1.bs, by omega, by omega, by omega⟩)
  have HZK := Lib.hid (fun (k : Nat) (y : Nd) (hy : x.kids[k]? = some y) => show sizeTL (x.kids.take k) + sizeT y ≤ sizeTL x.kids by
    obtain ⟨h1, h2⟩ := List.getElem?_eq_some_iff.1 hy
    have := size_take h1
    rw [h2] at this
    exact this)
  have hkl : x.kids.length ≤ sizeTL x.kids := by
    have h3 : ∀ l : List Nd, l.length ≤ sizeTL l := fun l => by
      induction l with
      | nil => exact Nat.zero_le _
      | cons z r ihz => rw [sizeTL, List.length_cons]; have := sizeT_eq z; omega
    exact h3 _
  have HIH := Lib.hid (fun (k : Nat) (y : Nd) (hy : x.kids[k]? = some y) => show RexC W0 lib AL cL G BT y ∧ (chkT lib y te).2 = 0 ∧ formT y = true from by
    obtain ⟨h1, h2⟩ := List.getElem?_eq_some_iff.1 hy
    have hm : y ∈ x.kids := h2 ▸ List.getElem_mem h1
    exact ⟨ih y (kid_lt hy) (hkid y hm), k2 y hm, hkid y hm⟩)
  have HK := Lib.hid hK
  have HP := Lib.hid h
  have HT := Lib.hid hT
  have HLW := Lib.hid hLW
  have HBX := Lib.hid (below_box w (Obj.cells #[.int .u8 x.kind, .int .i64 x.num, .string x.name, .slice Ak x.kids.length ck] 53))
  have HRX := Lib.hid (bx_new w #[.int .u8 x.kind, .int .i64 x.num, .string x.name, .slice Ak x.kids.length ck] 53)
  have hszW : (w.alloc (Obj.cells #[.int .u8 x.kind, .int .i64 x.num, .string x.name, .slice Ak x.kids.length ck] 53)).heap.size = w.heap.size + 1 := by simp
  have hGb := h.gn.b
  have HFR := Lib.hid (show ∀ u', (∃ W : World, w.heap.size < W.heap.size ∧ NwU W u u') → ¬ Hs G u' w.heap.size from fun u' ⟨W, hW, hn⟩ e => by
    rcases e with e | e
    · have := h.gn.g.lt; omega
    · exact hn.far hW (fun q => by have := (h.gn.ge _ q).2; omega) e.symm)
  have q81 : ((x.kind : Int) == 81) = false := beqF h81
  have q83 : ((x.kind : Int) == 83) = false := beqF h83
  have q84 : ((x.kind : Int) == 84) = false := beqF h84
  clear HZN HEQ0 hZ hLW h81 h83 h84 hf ih hc hT h hK hb hkids hkid c1 c2 c3 c4 k2
  obtain ⟨i0, hi0, hz0, hz1, hz2⟩ := info_parts info_rb
  have HI := Lib.hid (And.intro hi0 (And.intro hz0 (And.intro hz1 hz2)))
  clear hi0 hz0 hz1 hz2
  obtain ⟨j0, hi0, hz0, hz1, hz2⟩ := info_parts info_str
  have HI2 := Lib.hid (And.intro hi0 (And.intro hz0 (And.intro hz1 hz2)))
  clear hi0 hz0 hz1 hz2
  go_enter Tryd.func31, Tryd.ntmps31
  go_upto_region 1 with fail
  generalize w.alloc _ = W at HBX HRX hszW ⊢
  have HPW := Lib.hid (HP.out.below HBX.out)
  have HNX := Lib.hid (HFR.out u ⟨W, by omega, NwU.refl _ _⟩)
  have HZ1 := Lib.hid (show Op5 G BT u W (Z 0).ts (Z 0).bs (Z 0).args u (.slice none (Z 0).bs.length 0) (.slice none (Z 0).args.length 0) W by rw [HZ0.out]; exact Op5.start HPW.out.gn)
  obtain ⟨y0, y1, y2, y3, _⟩ := HRX.out.four
  have hlt := HRX.out.lt
  go_wp2_with fail
  clear y0 y1 y2 y3 hlt
  go_loopw [29, 30, 31] (fun a b i wr => ∃ (k : Nat) (A : Option Addr) (c : Nat) (S : Option Addr) (sc : Nat) (u1 : Value), k ≤ x.kids.length ∧ a = .slice A (Z k).bs.length c ∧ b = .slice S (Z k).args.length sc ∧ i = .int .i64 k ∧ Hid (Op5 G BT u W (Z k).ts (Z k).bs (Z k).args u1 (.slice A (Z k).bs.length c) (.slice S (Z k).args.length sc) wr)) (fun _ _ i _ => x.kids.length - (intOf i).toNat)
  case atStart => exact ⟨0, none, 0, none, 0, u, by omega, by rw [HZ0.out]; rfl, by rw [HZ0.out]; rfl, rfl, HZ1⟩
  case round =>
    obtain ⟨k, A, c, S, sc, u1, hk, rfl, rfl, rfl, HR⟩ := hrel
    have HPr := Lib.hid (HPW.out.step HR.out.gn HR.out.fr HR.out.nu)
    have HXr := Lib.hid (HRX.out.fr HR.out.fr HNX.out)
    obtain ⟨zb, zn, zs, za⟩ := HZB.out k
    by_cases hin : k < x.kids.length
    · obtain ⟨y, hyk⟩ : ∃ y, x.kids[k]? = some y := ⟨_, List.getElem?_eq_getElem hin⟩
      obtain ⟨kb, ko, rfl, hoo⟩ := HK.out k y hyk
      obtain ⟨Ay, cy, s0, s1, s2, s3, e4⟩ := hoo.open_
      have HN := Lib.hid (fun (w' : World) (hb' : Below W0.heap.size W0 w') => And.intro (below_cell hb' s0) (And.intro (below_cell hb' s1) (And.intro (below_cell hb' s2) (below_cell hb' s3))))
      obtain ⟨hih, hch, hfy⟩ := HIH.out k y hyk
      have hzk := HZK.out k y hyk
      have hsn := HZS.out k y hyk _ rfl
      have n1 := nE_len lib y (lastE el) (Z k).ts
      have hsy := sizeT_eq y
      have HCk := Lib.hid (hih te _ el (Z k).ts u1 wr Ae Ay ce cy (Prod.ext rfl hch) HT.out HPr.out e4 (by omega) (by omega))
      obtain ⟨r, hr⟩ : ∃ r, nE lib y (lastE el) (Z k).ts = r := ⟨_, rfl⟩
      rw [hr] at HCk hsn n1
      have HSN := Lib.hid hsn
      have HY := Lib.hid (And.intro e4 hfy)
      obtain ⟨y0, y1, y2, y3, _⟩ := HXr.out.four
      have hlt := HXr.out.lt
      obtain ⟨k0, k1, k2, k3⟩ := HN.out wr HPr.out.bw
      have hlk := block_lt_of_cell k0
      have r0 : (0 : Int) ≤ k := by omega
      have r1 : (k : Int) < x.kids.length := by omega
      have r2 : decide ((k : Int) < x.kids.length) = true := decide_eq_true r1
      clear hr hsn hih hch hfy e4 s0 s1 s2 s3 hoo hyk
      generalize Z k = zk at *
      go_wp2_with fail
      refine HCk.out.mono ?_
      clear HCk y0 y1 y2 y3 hlt k0 k1 k2 k3 hlk
      rintro e w5 ⟨u5, v5, rfl, hg5, hf5, hn5, hb5⟩
      obtain ⟨A5, c5, rfl⟩ := hb5.form
      have HO5 := Lib.hid (HR.out.call hg5 hf5 hn5)
      have hbf := HR.out.boFar
      have hsf := HR.out.stFar
      have HWr := Lib.hid (show W.heap.size ≤ wr.heap.size from HR.out.fr.size)
      obtain ⟨cs, hos, hrs⟩ := HO5.out.bo
      obtain ⟨cs2, ho2, hr2⟩ := hb5
      have hlen2 := hr2.len BdC.len
      have hone2 := hr2.one BdC.one
      obtain ⟨A5', c5', eA, _, hcl2⟩ := rcells_own ho2 hlen2
      cases eA
      have HCL2 := Lib.hid (show CellsAt w5 A5 cs2 from fun j u hu => by obtain ⟨b, o, e1, _, h1⟩ := hcl2 j u hu; exact ⟨b, o, e1, h1⟩)
      have HL2 := Lib.hid (And.intro hlen2 hone2)
      have HRS := Lib.hid (And.intro hos hrs)
      have HR2 := Lib.hid (show RowG (BdC w5 fun k => k < W.heap.size ∨ Hs G u5 k ∨ some k = (Value.slice A zk.bs.length c).ownBlock ∨ some k = (Value.slice S zk.args.length sc).ownBlock) cs2 r.bs from hr2.map fun c x h => BdC.le (Le.less fun k _ e => by
        rcases e with e | e | e | e
        · have := HWr.out; exact .inl (by omega)
        · exact .inr (.inl e)
        · exact .inl (hbf k e.symm).2.1
        · exact .inl (hsf k e.symm).2.1) c x h)
      clear hg5 hf5 hn5 hbf hsf hos hrs ho2 hr2 hlen2 hone2 hcl2
      go_upto_region 30 with (at_builtin; go_loud (refine wpList_app _ rfl _ _ 56 rfl W.heap.size 92 i0 (.agg #[.string ⟨#[]⟩, .bool false, .int .u8 0, .int .i64 0, .string ⟨#[]⟩, .slice none 0 0, .slice none 0 0, .slice none 0 0]) 8 120 Tryd.underlying56 HI.out.1 HI.out.2.1 HI.out.2.2.1 HI.out.2.2.2 rfl (by decide) (.slice A zk.bs.length c) zk.bs.length cs rfl HRS.out.1 A5 r.bs.length c5 cs2 rfl HL2.out.1 HCL2.out HL2.out.2 (by unfold maxLen; omega) (by omega) (by have := HO5.out.fr.size; omega) ?_; intro v6 w6 hown6 hgrow6 hat6; have HO6 := Lib.hid (HO5.out.app HRS.out.2 HR2.out (Below.refl _ _) (Below.refl _ _) hown6 hgrow6 hat6); obtain ⟨A6, c6, rfl, _, _⟩ := own_formB hown6; clear hown6 hgrow6 hat6))
      have HP6 := Lib.hid (HPW.out.step HO6.out.gn HO6.out.fr HO6.out.nu)
      have HX6 := Lib.hid (HRX.out.fr HO6.out.fr HNX.out)
      obtain ⟨y0, y1, y2, y3, _⟩ := HX6.out.four
      have hlt := HX6.out.lt
      obtain ⟨k0, k1, k2, k3⟩ := HN.out w6 HP6.out.bw
      have hlk := block_lt_of_cell k0
      clear HRS HR2 HCL2 HL2 HO5
      by_cases h85 : x.kind = 85
      · have q85 : ((x.kind : Int) == 85) = true := by rw [h85]; rfl
        have H85 := Lib.hid h85
        clear h85
        have HNM := Lib.hid (rnames_any (SizeOf.sizeOf y) y (Nat.le_refl _) HY.out.2 Ay cy w6 (HY.out.1.mono HP6.out.bw))
        go_wp2_with fail
        refine HNM.out.mono ?_
        clear HNM y0 y1 y2 y3 hlt k0 k1 k2 k3 hlk
        rintro e w7 ⟨rfl, hb7⟩
        have HO7 := Lib.hid (HO6.out.below hb7)
        clear hb7
        by_cases hnm : namesT y = true
        · have HSN2 := Lib.hid (show Z (k + 1) = ⟨zk.bs ++ r.bs ++ [.mk (tmpN r.ts.length) r.p.list 81 0 eS [r.p.name] [] []], zk.args ++ [tmpN r.ts.length], r.ts ++ [⟨tmpN r.ts.length, r.p.list⟩]⟩ by rw [HSN.out]; unfold Nr.arg; rw [if_pos ⟨decide_eq_true H85.out, hnm⟩]; unfold Nr.put; rw [List.append_assoc])
          rw [hnm]
          have HT7 := Lib.hid (rtemp_any HO7.out.gn r.p.list (by omega))
          go_wp2_with fail
          refine HT7.out.mono ?_
          clear HT7
          rintro e w8 ⟨rfl, u8, hg8, hf8, hn8⟩
          have HO8 := Lib.hid (HO7.out.call hg8 hf8 hn8)
          clear hg8 hf8 hn8
          obtain ⟨cs8, ho8, hr8⟩ := HO8.out.bo
          rw [List.length_append] at ho8
          have HRS := Lib.hid (And.intro ho8 hr8)
          have HBL := Lib.hid (bd_lit (ct := 0) (ce := 0) (w := w8) (X := fun k => k < W.heap.size ∨ Hs G u8 k ∨ some k = (Value.slice A6 (zk.bs.length + r.bs.length) c6).ownBlock ∨ some k = (Value.slice S zk.args.length sc).ownBlock) HO8.out.hid (tmpN r.ts.length) r.p.list 81 0 eS r.p.name 9 (BdsX.nil _ _ none) (BdsX.nil _ _ none))
          clear ho8 hr8
          go_upto_region 33 with (at_builtin; go_loud (refine wpList_app _ rfl _ _ 56 rfl W.heap.size 92 i0 (.agg #[.string ⟨#[]⟩, .bool false, .int .u8 0, .int .i64 0, .string ⟨#[]⟩, .slice none 0 0, .slice none 0 0, .slice none 0 0]) 8 120 Tryd.underlying56 HI.out.1 HI.out.2.1 HI.out.2.2.1 HI.out.2.2.2 rfl (by decide) (.slice A6 (zk.bs.length + r.bs.length) c6) (zk.bs.length + r.bs.length) cs8 rfl ((HRS.out.1.alloc _).alloc _) (some ⟨w8.heap.size + 1, 0, none⟩) 1 1 [.string (tmpN r.ts.length), .bool r.p.list, .int .u8 81, .int .i64 0, .string ⟨#[]⟩, .slice (some ⟨w8.heap.size, 0, none⟩) 1 1, .slice none 0 0, .slice none 0 0] rfl rfl (cells_newC _ (by simp) _ _) (fun v hv => by simp at hv; rcases hv with rfl | rfl | rfl | rfl | rfl | rfl | rfl | rfl <;> rfl) (by unfold maxLen; omega) (by omega) (by have := HO8.out.fr.size; simp; omega) ?_; intro v9 w9 hown9 hgrow9 hat9; have HO9 := Lib.hid (HO8.out.app (bs2 := [.mk (tmpN r.ts.length) r.p.list 81 0 eS [r.p.name] [] []]) HRS.out.2 (RowG.snoc .nil HBL.out) (below_box _ _) (below_box _ _) (by rw [List.length_append]; exact hown9) hgrow9 hat9); obtain ⟨A9, c9, rfl, _, _⟩ := own_formB hown9; clear hown9 hgrow9 hat9))
          clear HRS HBL
          go_wp2_with (at_builtin; go_loud (refine wpList_app _ rfl _ _ 58 rfl W.heap.size 9 j0 (.string ⟨#[]⟩) 1 16 Tryd.underlying58 HI2.out.1 HI2.out.2.1 HI2.out.2.2.1 HI2.out.2.2.2 rfl (by decide) (.slice S zk.args.length sc) zk.args.length (zk.args.map Value.string) rfl (HO9.out.st.alloc _) (some ⟨w9.heap.size, 0, none⟩) 1 1 [.string (tmpN r.ts.length)] rfl rfl (cells_newC _ (by simp) _ _) (fun v hv => by simp at hv; subst hv; rfl) (by unfold maxLen; omega) (by omega) (by have := HO9.out.fr.size; simp; omega) ?_; intro v10 w10 hown10 hgrow10 hat10; have HO10 := Lib.hid (HO9.out.str (a := (tmpN r.ts.length)) (below_box _ _) hown10 hgrow10 hat10); obtain ⟨A10, c10, rfl, _, _⟩ := own_formB hown10; clear hown10 hgrow10 hat10))
          have LB : (Z (k + 1)).bs.length = zk.bs.length + r.bs.length + 1 := by rw [HSN2.out]; simp only [List.length_append, List.length_singleton]
          have LA : (Z (k + 1)).args.length = zk.args.length + 1 := by rw [HSN2.out]; simp only [List.length_append, List.length_singleton]
          refine ⟨⟨k + 1, A9, c9, A10, c10, u8, by omega, by rw [LB], by rw [LA], by go_num, ?_⟩, by first | (simp [intOf]; done) | (simp [intOf]; omega)⟩
          rw [LB, LA, HSN2.out]
          exact HO10

        · have HSN2 := Lib.hid (show Z (k + 1) = ⟨zk.bs ++ r.bs, zk.args ++ [r.p.name], r.ts⟩ by rw [HSN.out]; unfold Nr.arg; rw [if_neg fun e => hnm e.2])
          rw [show namesT y = false by simpa using hnm]
          go_wp2_with (at_builtin; go_loud (refine wpList_app _ rfl _ _ 58 rfl W.heap.size 9 j0 (.string ⟨#[]⟩) 1 16 Tryd.underlying58 HI2.out.1 HI2.out.2.1 HI2.out.2.2.1 HI2.out.2.2.2 rfl (by decide) (.slice S zk.args.length sc) zk.args.length (zk.args.map Value.string) rfl (HO7.out.st.alloc _) (some ⟨w7.heap.size, 0, none⟩) 1 1 [.string r.p.name] rfl rfl (cells_newC _ (by simp) _ _) (fun v hv => by simp at hv; subst hv; rfl) (by unfold maxLen; omega) (by omega) (by have := HO7.out.fr.size; simp; omega) ?_; intro v10 w10 hown10 hgrow10 hat10; have HO10 := Lib.hid (HO7.out.str (a := r.p.name) (below_box _ _) hown10 hgrow10 hat10); obtain ⟨A10, c10, rfl, _, _⟩ := own_formB hown10; clear hown10 hgrow10 hat10))
          have LB : (Z (k + 1)).bs.length = zk.bs.length + r.bs.length := by rw [HSN2.out]; simp only [List.length_append]
          have LA : (Z (k + 1)).args.length = zk.args.length + 1 := by rw [HSN2.out]; simp only [List.length_append, List.length_singleton]
          refine ⟨⟨k + 1, A6, c6, A10, c10, u5, by omega, by rw [LB], by rw [LA], by go_num, ?_⟩, by first | (simp [intOf]; done) | (simp [intOf]; omega)⟩
          rw [LB, LA, HSN2.out]
          exact HO10

      · have q85 : ((x.kind : Int) == 85) = false := beqF h85
        have HSN2 := Lib.hid (show Z (k + 1) = ⟨zk.bs ++ r.bs, zk.args ++ [r.p.name], r.ts⟩ by rw [HSN.out]; unfold Nr.arg; rw [if_neg fun e => h85 (of_decide_eq_true e.1)])
        go_wp2_with (at_builtin; go_loud (refine wpList_app _ rfl _ _ 58 rfl W.heap.size 9 j0 (.string ⟨#[]⟩) 1 16 Tryd.underlying58 HI2.out.1 HI2.out.2.1 HI2.out.2.2.1 HI2.out.2.2.2 rfl (by decide) (.slice S zk.args.length sc) zk.args.length (zk.args.map Value.string) rfl (HO6.out.st.alloc _) (some ⟨w6.heap.size, 0, none⟩) 1 1 [.string r.p.name] rfl rfl (cells_newC _ (by simp) _ _) (fun v hv => by simp at hv; subst hv; rfl) (by unfold maxLen; omega) (by omega) (by have := HO6.out.fr.size; simp; omega) ?_; intro v10 w10 hown10 hgrow10 hat10; have HO10 := Lib.hid (HO6.out.str (a := r.p.name) (below_box _ _) hown10 hgrow10 hat10); obtain ⟨A10, c10, rfl, _, _⟩ := own_formB hown10; clear hown10 hgrow10 hat10))
        have LB : (Z (k + 1)).bs.length = zk.bs.length + r.bs.length := by rw [HSN2.out]; simp only [List.length_append]
        have LA : (Z (k + 1)).args.length = zk.args.length + 1 := by rw [HSN2.out]; simp only [List.length_append, List.length_singleton]
        refine ⟨⟨k + 1, A6, c6, A10, c10, u5, by omega, by rw [LB], by rw [LA], by go_num, ?_⟩, by first | (simp [intOf]; done) | (simp [intOf]; omega)⟩
        rw [LB, LA, HSN2.out]
        exact HO10

    · have r2 : decide ((k : Int) < x.kids.length) = false := decide_eq_false (by omega)
      obtain rfl : k = x.kids.length := by omega
      obtain ⟨y0, y1, y2, y3, _⟩ := HXr.out.four
      have hlt := HXr.out.lt
      generalize Z x.kids.length = zk at *
      obtain ⟨L, hL⟩ : ∃ L, (if x.kind = 85 then (((lib[(findF lib x.name 0).toNat]?).map Fn1.list).getD false) else listK x.kind) = L := ⟨_, rfl⟩
      rw [hL] at HEQ
      have HL := Lib.hid hL
      have q86 : ((x.kind : Int) == 86) = decide (x.kind = 86) := beqD _ _
      have q87 : ((x.kind : Int) == 87) = decide (x.kind = 87) := beqD _ _
      have q89 : ((x.kind : Int) == 89) = decide (x.kind = 89) := beqD _ _
      have hlk : listK x.kind = (decide (x.kind = 86) || decide (x.kind = 87) || decide (x.kind = 89)) := by unfold listK; simp [Bool.or_assoc]
      generalize listK x.kind = lk at hlk HL
      have HLK := Lib.hid hlk
      clear hL hlk
      generalize decide (x.kind = 86) = b86 at q86 HLK
      generalize decide (x.kind = 87) = b87 at q87 HLK
      generalize decide (x.kind = 89) = b89 at q89 HLK
      go_upto_region 35 with fail
      go_cut [36] (fun p wc => p = .bool lk ∧ Hid (wc = wr))
      case first =>
        cases b86 <;> cases b87 <;> cases b89 <;> (go_wp2_with fail; go_meet; exact ⟨by rw [HLK.out]; rfl, Lib.hid rfl⟩)
      case rest =>
        obtain ⟨rfl, hwc⟩ := hcut
        obtain rfl := hwc.out
        clear hwc q86 q87 q89 HLK
        have HT8 := Lib.hid (rtemp_any HR.out.gn L (by omega))
        by_cases h85 : x.kind = 85
        · have q85 : ((x.kind : Int) == 85) = true := by rw [h85]; rfl
          have h0 := HR85.out h85
          have hl2 := HL.out
          rw [if_pos h85] at hl2
          obtain ⟨i, hi1, hi2⟩ : ∃ i, i < lib.length ∧ findF lib x.name 0 = (i : Nat) := by
            rcases findF_range x.name lib 0 with e | ⟨i, i1, i2, _⟩
            · omega
            · exact ⟨i, i1, by omega⟩
          have HLr := HLW.out.mono HPr.out.bw
          have HFD := Lib.hid (rfind_any lib AL cL x.name wc HLr hll)
          rw [hi2] at HFD hl2
          obtain ⟨b, o, rfl, hfo⟩ := HLr i lib[i] (List.getElem?_eq_getElem hi1)
          have cl := hfo.c2
          have hlb := hfo.lt
          have hl3 : lib[i].list = L := by
            rw [← hl2, Int.toNat_natCast, List.getElem?_eq_getElem hi1]; rfl
          rw [hl3] at cl
          have r0 : (0 : Int) ≤ i := by omega
          have r1 : (i : Int) < lib.length := by omega
          clear h85 h0 hl2 hi2 hfo HLr hl3
          go_wp2_with fail
          refine HFD.out.mono ?_
          rintro e w' ⟨rfl, rfl⟩
          go_wp2_with fail
          refine HT8.out.mono ?_
          clear HT8 y0 y1 y2 y3 hlt
          rintro e w8 ⟨rfl, u8, hg8, hf8, hn8⟩
          have HO8 := Lib.hid (HR.out.call hg8 hf8 hn8)
          have HX8 := Lib.hid (HRX.out.fr HO8.out.fr HNX.out)
          clear hg8 hf8 hn8
          obtain ⟨cs8, ho8, hr8⟩ := HO8.out.bo
          have HRS := Lib.hid (And.intro ho8 hr8)
          clear ho8 hr8
          obtain ⟨y0, y1, y2, y3, _⟩ := HX8.out.four
          have hlt := HX8.out.lt
          go_wp2_with (at_builtin; go_loud (refine wpList_app _ rfl _ _ 56 rfl W.heap.size 92 i0 (.agg #[.string ⟨#[]⟩, .bool false, .int .u8 0, .int .i64 0, .string ⟨#[]⟩, .slice none 0 0, .slice none 0 0, .slice none 0 0]) 8 120 Tryd.underlying56 HI.out.1 HI.out.2.1 HI.out.2.2.1 HI.out.2.2.2 rfl (by decide) (.slice A zk.bs.length c) zk.bs.length cs8 rfl (HRS.out.1.alloc _) (some ⟨w8.heap.size, 0, none⟩) 1 1 [.string (tmpN zk.ts.length), .bool L, .int .u8 x.kind, .int .i64 x.num, .string x.name, .slice S zk.args.length sc, .slice none 0 0, .slice none 0 0] rfl rfl (cells_newC _ (by simp) _ _) (fun v hv => by simp at hv; rcases hv with rfl | rfl | rfl | rfl | rfl | rfl | rfl | rfl <;> rfl) (by unfold maxLen; omega) (by omega) (by have := HO8.out.fr.size; simp; omega) ?_; intro v9 w9 hown9 hgrow9 hat9; have HF9 := Lib.hid (HO8.out.fin rfl L x.kind x.num x.name (tmpN zk.ts.length) HRS.out.2 (below_box _ _) hown9 hgrow9 hat9); clear hown9 hgrow9 hat9))
          go_ret3
          rw [HEQ.out]
          exact ⟨u8, v9, rfl, HF9.out.1, (Fr.of_below HBX.out _).trans HF9.out.2.1 fun _ _ e => e, (NwU.refl w u).trans HO8.out.nu (by omega), HF9.out.2.2.lower (by omega)⟩
        · have q85 : ((x.kind : Int) == 85) = false := beqF h85
          have hl2 := HL.out
          rw [if_neg h85] at hl2
          subst hl2
          go_wp2_with fail
          refine HT8.out.mono ?_
          clear HT8 y0 y1 y2 y3 hlt
          rintro e w8 ⟨rfl, u8, hg8, hf8, hn8⟩
          have HO8 := Lib.hid (HR.out.call hg8 hf8 hn8)
          have HX8 := Lib.hid (HRX.out.fr HO8.out.fr HNX.out)
          clear hg8 hf8 hn8
          obtain ⟨cs8, ho8, hr8⟩ := HO8.out.bo
          have HRS := Lib.hid (And.intro ho8 hr8)
          clear ho8 hr8
          obtain ⟨y0, y1, y2, y3, _⟩ := HX8.out.four
          have hlt := HX8.out.lt
          go_wp2_with (at_builtin; go_loud (refine wpList_app _ rfl _ _ 56 rfl W.heap.size 92 i0 (.agg #[.string ⟨#[]⟩, .bool false, .int .u8 0, .int .i64 0, .string ⟨#[]⟩, .slice none 0 0, .slice none 0 0, .slice none 0 0]) 8 120 Tryd.underlying56 HI.out.1 HI.out.2.1 HI.out.2.2.1 HI.out.2.2.2 rfl (by decide) (.slice A zk.bs.length c) zk.bs.length cs8 rfl (HRS.out.1.alloc _) (some ⟨w8.heap.size, 0, none⟩) 1 1 [.string (tmpN zk.ts.length), .bool lk, .int .u8 x.kind, .int .i64 x.num, .string x.name, .slice S zk.args.length sc, .slice none 0 0, .slice none 0 0] rfl rfl (cells_newC _ (by simp) _ _) (fun v hv => by simp at hv; rcases hv with rfl | rfl | rfl | rfl | rfl | rfl | rfl | rfl <;> rfl) (by unfold maxLen; omega) (by omega) (by have := HO8.out.fr.size; simp; omega) ?_; intro v9 w9 hown9 hgrow9 hat9; have HF9 := Lib.hid (HO8.out.fin rfl lk x.kind x.num x.name (tmpN zk.ts.length) HRS.out.2 (below_box _ _) hown9 hgrow9 hat9); clear hown9 hgrow9 hat9))
          go_ret3
          rw [HEQ.out]
          exact ⟨u8, v9, rfl, HF9.out.1, (Fr.of_below HBX.out _).trans HF9.out.2.1 fun _ _ e => e, (NwU.refl w u).trans HO8.out.nu (by omega), HF9.out.2.2.lower (by omega)⟩

end Go.Proofs.YtcoeakdpcigogaaDoor

namespace Go.Proofs.YtcoeakdpcigogaaDoor
open Go.ChangeShapes Go.WideShapes Go.ChangeAt Go.RowKit Go.Sort Go.Maps

theorem rex_any {W0 : World} {lib : List Fn1} {AL : Option Addr} {cL G BT : Nat} (hLW : LibAt W0 AL lib) (hll : lib.length ≤ 9223372036854775807) : ∀ (N : Nat) (x : Nd), SizeOf.sizeOf x ≤ N → formT x = true → RexC W0 lib AL cL G BT x := by
  intro N
  induction N with
  | zero => intro x hx; exfalso; cases x; simp at hx
  | succ N ih =>
    intro x hx hf
    have ih' : ∀ y, SizeOf.sizeOf y < SizeOf.sizeOf x → formT y = true → RexC W0 lib AL cL G BT y := fun y hy hfy => ih y (by omega) hfy
    by_cases h81 : x.kind = 81
    · exact rex_81 h81
    by_cases h83 : x.kind = 83
    · exact rex_83 h83 hf ih'
    by_cases h84 : x.kind = 84
    · exact rex_84 h84 hf ih'
    exact rex_op hLW hll h81 h83 h84 hf ih'

end Go.Proofs.YtcoeakdpcigogaaDoor
