/-
  Type checking: the plain function, and the contract of the closure in fun.check.
-/
import Derived.Test.YtcoeakdpcigogaaDoorFunReach
import Derived.Deep.RegionHeld3
namespace Go.Proofs.YtcoeakdpcigogaaDoor
open Go.ChangeShapes Go.WideShapes Go.ChangeAt Go.RowKit Go.Sort

/-- What is visible in the i-th child. -/
def envAt (kind : Nat) (name : ByteArray) (env : ByteArray → Option Bool) (i : Nat) (ts : List Bool) : ByteArray → Option Bool :=
  if kind = 84 ∧ i = 1 then setE env name (some (ts.getD 0 false)) else env
mutual
def chkT (lib : List Fn1) : Nd → (ByteArray → Option Bool) → Bool × Int
  | .mk kind num name kids, env =>
    if reachE lib env (.mk kind num name kids) ≠ 0 then (false, reachE lib env (.mk kind num name kids))
    else if (chkTL lib kids env kind name 0 []).2 ≠ 0 then (false, (chkTL lib kids env kind name 0 []).2)
    else if kind = 81 then ((env name).getD false, 0)
    else resR lib (.mk kind num name kids) (chkTL lib kids env kind name 0 []).1
def chkTL (lib : List Fn1) : List Nd → (ByteArray → Option Bool) → Nat → ByteArray → Nat → List Bool → List Bool × Int
  | [], _, _, _, _, ts => (ts, 0)
  | y :: r, env, kind, name, i, ts =>
    if (chkT lib y (envAt kind name env i ts)).2 ≠ 0 then (ts, (chkT lib y (envAt kind name env i ts)).2)
    else chkTL lib r env kind name (i + 1) (ts ++ [(chkT lib y (envAt kind name env i ts)).1])
end
theorem chkT_eq (lib : List Fn1) (x : Nd) (env : ByteArray → Option Bool) : chkT lib x env =
    if reachE lib env x ≠ 0 then (false, reachE lib env x)
    else if (chkTL lib x.kids env x.kind x.name 0 []).2 ≠ 0 then (false, (chkTL lib x.kids env x.kind x.name 0 []).2)
    else if x.kind = 81 then ((env x.name).getD false, 0)
    else resR lib x (chkTL lib x.kids env x.kind x.name 0 []).1 := by cases x; rw [chkT]; rfl
theorem chkTL_step {lib : List Fn1} {l : List Nd} {k : Nat} (h : k < l.length) (env : ByteArray → Option Bool) (kind : Nat) (name : ByteArray) (ts : List Bool) : chkTL lib (l.drop k) env kind name k ts =
    if (chkT lib l[k] (envAt kind name env k ts)).2 ≠ 0 then (ts, (chkT lib l[k] (envAt kind name env k ts)).2)
    else chkTL lib (l.drop (k + 1)) env kind name (k + 1) (ts ++ [(chkT lib l[k] (envAt kind name env k ts)).1]) := by
  rw [List.drop_eq_getElem_cons h, chkTL]

def MapN (w : World) (b n : Nat) (env : ByteArray → Option Bool) : Prop := ∃ sz, MapB w b n sz env

/-- What the closure finds in memory. -/
structure CkAt (W0 w : World) (A : Option Addr) (cap : Nat) (lib : List Fn1) (bl bv bf bm : Nat) : Prop where
  hb : Below W0.heap.size W0 w
  gm : W0.heap.size ≤ bm
  cl : w.cell? ⟨bl, 0, none⟩ = some (.slice A lib.length cap)
  cv : w.cell? ⟨bv, 0, none⟩ = some (.map (some bm))
  cf : w.cell? ⟨bf, 0, none⟩ = some (.func (.func 65) #[] #[.pointer (some ⟨bl, 0, none⟩), .pointer (some ⟨bv, 0, none⟩), .pointer (some ⟨bf, 0, none⟩)])
  n1 : bl ≠ bm
  n2 : bv ≠ bm
  n3 : bf ≠ bm
theorem grown_of_below {w w' : World} (h : Below w.heap.size w w') (r : Option Nat) : w.grownBy w' r :=
  ⟨h.os, h.tape, h.output, h.size, fun k hk _ => h.block k hk⟩
theorem grown_trans {w w1 w2 : World} {r : Option Nat} (h : w.grownBy w1 r) (h2 : w1.grownBy w2 r) : w.grownBy w2 r :=
  ⟨h2.os.trans h.os, h2.tape.trans h.tape, h2.output.trans h.output, Nat.le_trans h.size h2.size, fun k hk hne => (h2.block k (Nat.lt_of_lt_of_le hk h.size) hne).trans (h.block k hk hne)⟩
theorem grown_cell {w w' : World} {r : Option Nat} (h : w.grownBy w' r) {a : Addr} {v : Value} (hc : w.cell? a = some v) (hne : some a.block ≠ r) : w'.cell? a = some v := by
  rw [h.cell_far a (block_lt_of_cell hc) hne]; exact hc
theorem CkAt.grown {W0 w w' : World} {A : Option Addr} {cap : Nat} {lib : List Fn1} {bl bv bf bm : Nat} (h : CkAt W0 w A cap lib bl bv bf bm) (hg : w.grownBy w' (some bm)) : CkAt W0 w' A cap lib bl bv bf bm :=
  ⟨h.hb.grown hg h.hb.size (fun k hk => by cases hk; exact h.gm), h.gm, grown_cell hg h.cl (by simpa using h.n1), grown_cell hg h.cv (by simpa using h.n2), grown_cell hg h.cf (by simpa using h.n3), h.n1, h.n2, h.n3⟩
theorem MapN.below {w w' : World} {b n : Nat} {env : ByteArray → Option Bool} (h : MapN w b n env) (hb : Below w.heap.size w w') : MapN w' b n env := by
  obtain ⟨sz, h⟩ := h; exact ⟨sz, h.below hb⟩
theorem MapN.lt {w : World} {b n : Nat} {env : ByteArray → Option Bool} (h : MapN w b n env) : b < w.heap.size := by
  obtain ⟨sz, h⟩ := h; exact h.lt

/-- What the closure returns. -/
def RetCk (lib : List Fn1) (x : Nd) (env : ByteArray → Option Bool) (bm n : Nat) (w : World) (e : Ending) (w' : World) : Prop :=
  e = .returned (.tuple #[.bool (chkT lib x env).1, .int .i64 (chkT lib x env).2]) ∧ w.grownBy w' (some bm) ∧ ((chkT lib x env).2 = 0 → ∃ n', n' ≤ n + sizeT x ∧ MapN w' bm n' env)

theorem formT_kids {x : Nd} (h : formT x = true) : formB x.kind x.num x.name x.kids.length = true ∧ formTL x.kids = true := by
  rw [formT_eq] at h; simpa using h
theorem formTL_kid : ∀ {l : List Nd}, formTL l = true → ∀ {k : Nat} {y : Nd}, l[k]? = some y → formT y = true
  | [], _, k, y, hy => by simp at hy
  | x :: r, h, 0, y, hy => by
    rw [formTL] at h; simp at h hy; rw [← hy]; exact h.1
  | x :: r, h, k + 1, y, hy => by
    rw [formTL] at h; simp at h hy; exact formTL_kid h.2 hy
theorem form_two {x : Nd} (h : formB x.kind x.num x.name x.kids.length = true) : (x.kind = 84 → x.kids.length = 2) ∧ (x.kind = 83 → x.kids.length = 3) := by
  constructor
  · intro e; rw [e] at h; simp [formB] at h; omega
  · intro e; rw [e] at h; simp [formB] at h; omega

mutual
theorem sizeT_pos : ∀ x : Nd, 1 ≤ sizeT x
  | .mk _ _ _ l => by rw [sizeT]; omega
theorem len_le_sizeTL : ∀ l : List Nd, l.length ≤ sizeTL l
  | [] => by simp [sizeTL]
  | x :: r => by rw [sizeTL]; have := sizeT_pos x; have := len_le_sizeTL r; simp; omega
end
/-- Behind an append onto a row of the frame's own. -/
theorem grown_own {w1 w5 w6 : World} {o : Obj} {v : Value} {bm base : Nat} {e : TypeId} {size n : Nat} {xs : List Value} (h : w1.grownBy w5 (some bm)) (hown : w5.ownsRow w1.heap.size e size v n xs) (hg : (w5.alloc o).grownBy w6 v.ownBlock) (_hb : base = base) : w1.grownBy w6 (some bm) := by
  have hs := h.size
  refine ⟨hg.os.trans h.os, hg.tape.trans h.tape, hg.output.trans h.output, by have := hg.size; simp at this; omega, fun k hk hne => ?_⟩
  rw [hg.block k (by simp; omega) (fun e => by have := own_block_geB hown k e.symm; omega)]
  rw [Below.heap_alloc _ _ _ (by omega)]
  exact h.block k hk hne
theorem own_formB {w : World} {base : Nat} {e : TypeId} {size n : Nat} {v : Value} {xs : List Value} (h : w.ownsRow base e size v n xs) : ∃ A c, v = .slice A n c ∧ n ≤ c ∧ (0 < n → ∃ g, A = some ⟨g, 0, none⟩ ∧ base ≤ g) := by
  rcases h.2 with ⟨rfl, rfl⟩ | ⟨g, cap, cur, rfl, hg, _, hc, _⟩
  · exact ⟨none, 0, rfl, Nat.le_refl _, fun h => absurd h (by omega)⟩
  · exact ⟨_, cap, rfl, hc, fun _ => ⟨g, rfl, hg⟩⟩
theorem own_keep {w w' : World} {base : Nat} {e : TypeId} {size n : Nat} {v : Value} {xs : List Value} {bm : Nat} (h : w.ownsRow base e size v n xs) (hg : w.grownBy w' (some bm)) (hlt : bm < base) : w'.ownsRow base e size v n xs := by
  by_cases hn : v.ownBlock = none
  · exact h.kept hg (.inl hn)
  · refine h.kept hg (.inr fun e => ?_)
    have := own_block_geB h bm e; omega

set_option maxRecDepth 100000 in
set_option maxHeartbeats 4000000 in
theorem check1_any (lib : List Fn1) (A : Option Addr) (cap : Nat) (bl bv bf bm : Nat) (W0 : World) (hL : LibAt W0 A lib) (hF : LibFit lib) (hP : FewParams lib) (N : Nat) : ∀ (x : Nd), SizeOf.sizeOf x ≤ N → NdFit x → formT x = true → ∀ (env : ByteArray → Option Bool) (n : Nat) (Ak : Option Addr) (ck : Nat) (w : World), CkAt W0 w A cap lib bl bv bf bm → NdsAt W0 Ak x.kids → MapN w bm n env → n + sizeT x ≤ 1000000 →
    Calls Tryd.prog 65 #[.agg #[.int .u8 x.kind, .int .i64 x.num, .string x.name, .slice Ak x.kids.length ck], .pointer (some ⟨bl, 0, none⟩), .pointer (some ⟨bv, 0, none⟩), .pointer (some ⟨bf, 0, none⟩)] w (RetCk lib x env bm n w) := by
  induction N with
  | zero => intro x hx; exfalso; cases x; simp at hx
  | succ N ih =>
    intro x hx hfit hform env n Ak ck w hC hK hM hn
    obtain ⟨hf1, hf2, hf3, hf4⟩ := hfit.facts
    obtain ⟨hfb, hfl⟩ := formT_kids hform
    obtain ⟨h84, h83⟩ := form_two hfb
    have hse := sizeT_eq x
    have hkl := len_le_sizeTL x.kids
    have hbW := below_box w (Obj.cells #[.int .u8 x.kind, .int .i64 x.num, .string x.name, .slice Ak x.kids.length ck] 53)
    have bx := ndB_box w 53 x Ak ck (hK.mono hC.hb)
    have hgW := grown_of_below hbW (some bm)
    have hC1 := hC.grown hgW
    have hM1 := hM.below hbW
    have hmw := hM.lt
    have HE := Lib.hid (chkT_eq lib x env)
    obtain ⟨i0, hi0, hz0, hz1, hz2⟩ := info_parts info_bool
    have HI := Lib.hid (And.intro hi0 (And.intro hz0 (And.intro hz1 hz2)))
    clear hi0 hz0 hz1 hz2 hM hbW
    obtain ⟨_, _, p1, p2, p3, _, _, _⟩ := id hC1
    go_enter Tryd.func65, Tryd.ntmps65
    go_wp2_with fail
    generalize w.alloc _ = W at bx hgW hC1 hM1 p1 p2 p3 ⊢
    obtain ⟨sz1, hMB⟩ := hM1
    refine (reach_any lib A cap bm n sz1 env x Ak ck W (hL.mono hC1.hb) hF hMB bx.kids hfit).mono ?_
    rintro e w1 ⟨rfl, hb1⟩
    have g1 := Lib.hid (grown_trans hgW (grown_of_below hb1 (some bm)))
    have hC2 := Lib.hid (hC1.grown (grown_of_below hb1 (some bm)))
    have hM2 := Lib.hid (show MapN w1 bm n env from ⟨sz1, hMB.below hb1⟩)
    have bx1 := bx.mono hb1
    have hmw1 : bm < w1.heap.size := hM2.out.lt
    have hw1 : w.heap.size < w1.heap.size := bx1.lt
    clear bx hgW hC1 hMB hb1 p1 p2 p3
    by_cases hre : reachE lib env x = 0
    rotate_left
    · have hR := Lib.hid (HE.out.trans (if_pos hre))
      have hre' : (reachE lib env x != 0) = true := by simpa using hre
      generalize reachE lib env x = re at *
      go_wp2_with fail
      go_ret2
      exact ⟨by rw [hR.out]; rfl, g1.out, fun h0 => by rw [hR.out] at h0; exact absurd h0 hre⟩
    have HE2 := Lib.hid (HE.out.trans (if_neg (fun h => h hre)))
    rw [hre]
    clear HE
    obtain ⟨b0, b1, b2, b3, bk⟩ := id bx1
    clear bk
    go_wp2_with fail
    clear b0 b1 b2 b3
    go_loopw [8, 24] (fun v i wr => ∃ (k : Nat) (ts : List Bool) (nk : Nat), k ≤ x.kids.length ∧ ts.length = k ∧ i = .int .i64 k ∧ Hid (chkTL lib x.kids env x.kind x.name 0 [] = chkTL lib (x.kids.drop k) env x.kind x.name k ts) ∧ Hid (wr.ownsRow w1.heap.size 4 1 v k (ts.map Value.bool)) ∧ Hid (CkAt W0 wr A cap lib bl bv bf bm) ∧ Hid (MapN wr bm nk env) ∧ nk ≤ n + sizeTL (x.kids.take k) + (if 2 ≤ k then 1 else 0) ∧ Hid (w1.grownBy wr (some bm))) (fun _ i _ => x.kids.length - (intOf i).toNat)
    case atStart => exact ⟨0, [], n, by omega, rfl, rfl, rfl, ⟨rfl, .inl ⟨rfl, rfl⟩⟩, hC2, hM2, by simp [sizeTL], Lib.hid (grown_of_below (Below.refl _ _) _)⟩
    case round =>
      obtain ⟨k, ts, nk, hk, hts, rfl, hz, hown, hCr, hMr, hnk, hgr⟩ := hrel
      clear hM2
      have hsr := hgr.out.size
      have b0 := grown_cell hgr.out bx1.b0 (by simp; omega)
      have b1 := grown_cell hgr.out bx1.b1 (by simp; omega)
      have b2 := grown_cell hgr.out bx1.b2 (by simp; omega)
      have b3 := grown_cell hgr.out bx1.b3 (by simp; omega)
      by_cases hin : k < x.kids.length
      · have hz1 := Lib.hid (hz.out.trans (chkTL_step hin env x.kind x.name ts))
        have hst := sizeTL_step hin
        have hsl := sizeTL_le (l := x.kids) (k + 1)
        obtain ⟨b, o, A', cap', rfl, hlt, c0', c1', c2', c3', hK0⟩ := hK.kid hin
        have c0 := below_cell hCr.out.hb c0'
        have c1 := below_cell hCr.out.hb c1'
        have c2 := below_cell hCr.out.hb c2'
        have c3 := below_cell hCr.out.hb c3'
        clear c0' c1' c2' c3'
        have hget : x.kids[k]? = some x.kids[k] := List.getElem?_eq_getElem hin
        have hfy := hfit.kid hget
        have hoy := formTL_kid hfl hget
        have hszy := Nd.kid_lt hget
        generalize x.kids[k] = y at *
        have HST := Lib.hid hst
        clear hget hz hst
        have hbx := below_box wr (Obj.cells #[.int .u8 y.kind, .int .i64 y.num, .string y.name, .slice A' y.kids.length cap'] 53)
        have hgb := grown_of_below hbx (some bm)
        have hCb := Lib.hid (hCr.out.grown hgb)
        have hMb := Lib.hid (hMr.out.below hbx)
        have y0 : (wr.alloc (Obj.cells #[.int .u8 y.kind, .int .i64 y.num, .string y.name, .slice A' y.kids.length cap'] 53)).cell? ⟨wr.heap.size, 0, none⟩ = some (.int .u8 y.kind) := by simp [go_sem]
        have y1 : (wr.alloc (Obj.cells #[.int .u8 y.kind, .int .i64 y.num, .string y.name, .slice A' y.kids.length cap'] 53)).cell? ⟨wr.heap.size, 1, none⟩ = some (.int .i64 y.num) := by simp [go_sem]
        have y2 : (wr.alloc (Obj.cells #[.int .u8 y.kind, .int .i64 y.num, .string y.name, .slice A' y.kids.length cap'] 53)).cell? ⟨wr.heap.size, 2, none⟩ = some (.string y.name) := by simp [go_sem]
        have y3 : (wr.alloc (Obj.cells #[.int .u8 y.kind, .int .i64 y.num, .string y.name, .slice A' y.kids.length cap'] 53)).cell? ⟨wr.heap.size, 3, none⟩ = some (.slice A' y.kids.length cap') := by simp [go_sem]
        by_cases hbd : x.kind = 84 ∧ k = 1
        · obtain ⟨hk84, rfl⟩ := hbd
          obtain ⟨t0, rfl⟩ : ∃ t0, ts = [t0] := by
            match ts, hts with
            | [a], _ => exact ⟨a, rfl⟩
          have hno : env x.name = none := by
            unfold reachE at hre
            rw [if_neg (by omega), if_pos hk84] at hre
            cases he : env x.name with
            | none => rfl
            | some v => rw [he] at hre; cases hre
          have hea : envAt x.kind x.name env 1 [t0] = setE env x.name (some t0) := by unfold envAt; rw [if_pos ⟨hk84, rfl⟩]; rfl
          rw [hea] at hz1
          have hback := Lib.hid (show ∀ s, setE (setE env x.name (some t0)) x.name none s = env s from fun s => by
            unfold setE
            by_cases e : s = x.name
            · rw [if_pos e, e, hno]
            · rw [if_neg e, if_neg e])
          have k1 : ((x.kind : Int) == 84) = true := by rw [hk84]; rfl
          have hny : nk + 1 + sizeT y ≤ 1000000 := by have := HST.out; simp at hnk; omega
          obtain ⟨Av, cv, rfl, _, hgv⟩ := own_formB hown.out
          obtain ⟨gv, rfl, hgvge⟩ := hgv (by omega)
          have hc0 : wr.cell? ⟨gv, 0, none⟩ = some (.bool t0) := by have := hown.out.cellAt (g := gv) 0 (by omega); simpa using this
          have hlv := block_lt_of_cell hc0
          have hCv := hCr.out.cv
          have hlcv := block_lt_of_cell hCv
          have hlw : w.heap.size < wr.heap.size := by omega
          clear hea hno hk84 h84 h83 hre hgv
          go_wp2_with fail
          generalize wr.alloc _ = Wb at hbx hgb hCb hMb y0 y1 y2 y3 ⊢
          have d1 := hCb.out.cv
          have d2 := below_cell hbx b2
          have d3 := below_cell hbx hc0
          obtain ⟨szb, hMBb⟩ := hMb.out
          have hbd : Below Wb.heap.size Wb Wb.drew := ⟨rfl, rfl, rfl, Nat.le_refl _, fun _ _ => rfl⟩
          obtain ⟨wP, hrun, hMP, hTP⟩ := mapB_put Tryd.underlying122 (hMBb.below hbd) (by unfold maxLen; omega) x.name hf3 t0
          have hgP := Lib.hid (grown_trans (grown_of_below hbd (some bm)) hTP.grown)
          have hSP := Lib.hid (show wP.cell? ⟨bv, 0, none⟩ = some (.map (some bm)) ∧ wP.cell? ⟨w.heap.size, 2, none⟩ = some (.string x.name) ∧ wP.cell? ⟨gv, 0, none⟩ = some (.bool t0) from
            ⟨grown_cell hgP.out d1 (by simpa using hCr.out.n2), grown_cell hgP.out d2 (by simp; omega), grown_cell hgP.out d3 (by simp; omega)⟩)
          go_region_held3 (fun w' => w'.cell? ⟨bv, 0, none⟩ = some (.map (some bm)) ∧ w'.cell? ⟨w.heap.size, 2, none⟩ = some (.string x.name) ∧ w'.cell? ⟨gv, 0, none⟩ = some (.bool t0)) (first | exact ⟨d1, d2, d3⟩ | exact hSP.out) (fail)
          have hCP := Lib.hid (hCb.out.grown hgP.out)
          have z0 := grown_cell hgP.out y0 (by simp; omega)
          have z1 := grown_cell hgP.out y1 (by simp; omega)
          have z2 := grown_cell hgP.out y2 (by simp; omega)
          have z3 := grown_cell hgP.out y3 (by simp; omega)
          have hCf := hCP.out.cf
          have ihy := ih y (by omega) hfy hoy (setE env x.name (some t0)) (nk + 1) A' cap' wP hCP.out hK0 ⟨_, hMP⟩ hny
          go_wp2_with fail
          refine ihy.mono ?_
          rintro e w5 ⟨rfl, hg5, hm5⟩
          have hgA := Lib.hid (grown_trans (grown_trans hgb hgP.out) hg5)
          have HM5 := Lib.hid hm5
          have hown5 := Lib.hid (own_keep hown.out hgA.out hmw1)
          have hg15 := Lib.hid (grown_trans hgr.out hgA.out)
          have hcv5 := (hC2.out.grown hg15.out).cv
          have hb25 := grown_cell hg15.out bx1.b2 (by simp; omega)
          clear ihy hm5 z0 z1 z2 z3 y0 y1 y2 y3 d1 d2 d3 hCf c0 c1 c2 c3 hCv hc0 hrun
          by_cases her : (chkT lib y (setE env x.name (some t0))).2 = 0
          · have hz2 := Lib.hid (hz1.out.trans (if_neg (fun h => h her)))
            obtain ⟨n5, hn5, sz5, hMn5⟩ := HM5.out her
            have her' : ((chkT lib y (setE env x.name (some t0))).2 != 0) = false := by rw [her]; rfl
            generalize (chkT lib y (setE env x.name (some t0))).1 = ty at *
            generalize (chkT lib y (setE env x.name (some t0))).2 = er at *
            have hs5 := hg15.out.size
            go_wp2_with (first | (at_delete; go_loud (refine wpList_del_B _ rfl _ _ 122 rfl Tryd.underlying122 bm n5 sz5 _ rfl hMn5 x.name rfl hf3 ?_; intro w6 sz6 HM6 hT6; have hg16 := Lib.hid (grown_trans hg15.out hT6.grown); have hown6 := Lib.hid (own_keep hown5.out hT6.grown hmw1); have hs6 := hg16.out.size; have HM6' := Lib.hid (HM6.congr hback.out); clear HM6)) | (at_builtin; go_loud (refine wpList_append_own _ rfl _ _ 138 rfl w1.heap.size 4 i0 (.bool false) 1 1 Tryd.underlying138 HI.out.1 HI.out.2.1 HI.out.2.2.1 HI.out.2.2.2 rfl (by decide) _ 1 _ rfl (hown6.out.alloc _) ⟨w6.heap.size, 0, none⟩ 1 1 [.bool ty] rfl rfl (one_newB rfl _ _) (one_bool _) (by unfold maxLen; omega) (by omega) (by simp; omega) ?_; intro v' w7 hown' hgrow _)))
            have q7 := grown_own (base := 0) hg16.out hown6.out hgrow rfl
            have hM7 : MapN w7 bm n5 env := by
              refine ⟨sz6, (HM6'.out.below (below_box w6 _)).grown hgrow (fun e => ?_)⟩
              have := own_block_geB hown6.out bm e.symm; omega
            exact ⟨⟨1 + 1, [t0] ++ [ty], n5, by omega, rfl, by go_num, hz2, Lib.hid (by rw [List.map_append]; exact hown'), Lib.hid (hC2.out.grown q7), Lib.hid hM7, by have h2 := HST.out; split at hnk <;> split <;> omega, Lib.hid q7⟩, by simp [intOf]; omega⟩
          · have hz2 := Lib.hid (hz1.out.trans (if_pos her))
            have her' : ((chkT lib y (setE env x.name (some t0))).2 != 0) = true := by simpa using her
            generalize (chkT lib y (setE env x.name (some t0))).1 = ty at *
            generalize (chkT lib y (setE env x.name (some t0))).2 = er at *
            have hR := Lib.hid (show chkT lib x env = (false, er) by rw [HE2.out, hz2.out]; exact if_pos her)
            go_wp2_with fail
            go_ret2
            exact ⟨by rw [hR.out]; rfl, grown_trans g1.out hg15.out, fun h0 => by rw [hR.out] at h0; exact absurd h0 her⟩
        · have hea : envAt x.kind x.name env k ts = env := by unfold envAt; rw [if_neg hbd]
          rw [hea] at hz1
          have hbb : ((x.kind : Int) == 84) = false ∨ (((x.kind : Int) == 84) = true ∧ ((k : Int) == 1) = false) := by
            by_cases h1 : x.kind = 84
            · exact .inr ⟨by rw [h1]; rfl, beqK (n := 1) (fun h => hbd ⟨h1, h⟩)⟩
            · exact .inl (beqK (n := 84) h1)
          have hny : nk + sizeT y ≤ 1000000 := by have := HST.out; split at hnk <;> omega
          have hCf := hCr.out.cf
          have hlf := block_lt_of_cell hCf
          have hlw : w.heap.size < wr.heap.size := by omega
          have ihy := ih y (by omega) hfy hoy env nk A' cap' _ hCb.out hK0 hMb.out hny
          clear hea hbd
          rcases hbb with k1 | ⟨k1, k2⟩
          all_goals
            go_wp2_with fail
            refine ihy.mono ?_
            rintro e w5 ⟨rfl, hg5, hm5⟩
            have hgA := Lib.hid (grown_trans hgb hg5)
            have HM5 := Lib.hid hm5
            have hown5 := Lib.hid (own_keep hown.out hgA.out hmw1)
            have hC5 := Lib.hid (hCr.out.grown hgA.out)
            have hg15 := Lib.hid (grown_trans hgr.out hgA.out)
            clear ihy hm5
            by_cases her : (chkT lib y env).2 = 0
            · have hz2 := Lib.hid (hz1.out.trans (if_neg (fun h => h her)))
              obtain ⟨n5, hn5, hMn5⟩ := HM5.out her
              have her' : ((chkT lib y env).2 != 0) = false := by rw [her]; rfl
              generalize (chkT lib y env).1 = ty at *
              generalize (chkT lib y env).2 = er at *
              have hs5 := hg15.out.size
              have htn : ts.length = k := hts
              go_wp2_with (at_builtin; go_loud (refine wpList_append_own _ rfl _ _ 138 rfl w1.heap.size 4 i0 (.bool false) 1 1 Tryd.underlying138 HI.out.1 HI.out.2.1 HI.out.2.2.1 HI.out.2.2.2 rfl (by decide) _ k _ rfl (hown5.out.alloc _) ⟨w5.heap.size, 0, none⟩ 1 1 [.bool ty] rfl rfl (one_newB rfl _ _) (one_bool _) (by unfold maxLen; omega) (by omega) (by simp; omega) ?_; intro v' w6 hown' hgrow _))
              have q6 := grown_own (base := 0) hg15.out hown5.out hgrow rfl
              have hM6 : MapN w6 bm n5 env := by
                obtain ⟨s5, hs5'⟩ := hMn5
                refine ⟨s5, (hs5'.below (below_box w5 _)).grown hgrow (fun e => ?_)⟩
                have := own_block_geB hown5.out bm e.symm; omega
              exact ⟨⟨k + 1, ts ++ [ty], n5, by omega, by simp [hts], by go_num, hz2, Lib.hid (by rw [List.map_append]; exact hown'), Lib.hid (hC2.out.grown q6), Lib.hid hM6, by have := HST.out; split at hnk <;> split <;> omega, Lib.hid q6⟩, by simp [intOf]; omega⟩
            · have hz2 := Lib.hid (hz1.out.trans (if_pos her))
              have her' : ((chkT lib y env).2 != 0) = true := by simpa using her
              generalize (chkT lib y env).1 = ty at *
              generalize (chkT lib y env).2 = er at *
              have hR := Lib.hid (show chkT lib x env = (false, er) by rw [HE2.out, hz2.out]; exact if_pos her)
              go_wp2_with fail
              go_ret2
              exact ⟨by rw [hR.out]; rfl, grown_trans g1.out hg15.out, fun h0 => by rw [hR.out] at h0; exact absurd h0 her⟩
      · have htl : ts.length = x.kids.length := by omega
        have hzf := Lib.hid (show chkTL lib x.kids env x.kind x.name 0 [] = (ts, 0) by rw [hz.out, List.drop_of_length_le (by omega), chkTL])
        have HE3 := Lib.hid (show chkT lib x env = if x.kind = 81 then ((env x.name).getD false, 0) else resR lib x ts by rw [HE2.out, hzf.out]; rfl)
        clear hz hzf HE2
        obtain ⟨szr, hMB⟩ := hMr.out
        have hnx : nk ≤ n + sizeT x := by
          have e1 : x.kids.take k = x.kids := List.take_of_length_le (by omega)
          rw [e1] at hnk
          split at hnk <;> omega
        have gfin := Lib.hid (grown_trans g1.out hgr.out)
        obtain ⟨_, _, p1, p2, p3, _, _, _⟩ := id hCr.out
        by_cases h81 : x.kind = 81
        · have hR := Lib.hid (HE3.out.trans (if_pos h81))
          have k81 : ((x.kind : Int) == 81) = true := by rw [h81]; rfl
          clear h81 h84 h83 hre HE3
          go_wp2_with (at_lookup; refine wpList_look_B _ rfl _ _ 122 rfl Tryd.underlying122 bm nk szr env rfl hMB x.name rfl hf3 ?_)
          go_ret2
          exact ⟨by rw [hR.out]; rfl, gfin.out, fun _ => ⟨nk, hnx, hMr.out⟩⟩
        · have hR := Lib.hid (HE3.out.trans (if_neg h81))
          have k81 : ((x.kind : Int) == 81) = false := beqK (n := 81) h81
          have h85 : x.kind = 85 → 0 ≤ findF lib x.name 0 := fun h => by
            unfold reachE at hre
            rw [if_neg (by omega), if_neg (by omega), if_pos h] at hre
            split at hre
            · cases hre
            · omega
          have h2 : (x.kind = 83 ∨ x.kind = 84) → 2 ≤ ts.length := fun h => by
            rcases h with h | h
            · have := h83 h; omega
            · have := h84 h; omega
          have hown2 := hown.out
          rw [← hts] at hown2
          obtain ⟨Aw, cw, rfl, hbl⟩ := bls_of_own hown2
          have hcall0 := result_any lib A cap x Ak ck ts Aw cw wr (hL.mono hCr.out.hb) hF hfit hbl (by omega) h2 h85 hP
          rw [hts] at hcall0
          have hcall := Lib.hid hcall0
          clear hcall0
          clear h81 h84 h83 hre HE3 h85 h2 hown2 hown
          go_wp2_with fail
          refine hcall.out.mono ?_
          rintro e w5 ⟨rfl, hb5⟩
          go_wp2_with fail
          go_ret2
          exact ⟨by rw [hR.out]; rfl, grown_trans gfin.out (grown_of_below hb5 _), fun _ => ⟨nk, hnx, hMr.out.below hb5⟩⟩

end Go.Proofs.YtcoeakdpcigogaaDoor
