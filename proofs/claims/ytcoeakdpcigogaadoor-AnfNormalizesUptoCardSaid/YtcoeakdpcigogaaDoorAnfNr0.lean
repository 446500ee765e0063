/-
  The visitor's expr: every node.
  A checked expression binds no variable twice (plain).
  A normalized function in memory; slices.Clone of parameters.
  normalize: its visitor, the first stand, the end.
-/
import Derived.Test.YtcoeakdpcigogaaDoorAnfEx6
import Derived.Test.YtcoeakdpcigogaaDoorAnfExB
import Derived.Test.YtcoeakdpcigogaaDoorAnfEx1
namespace Go.Proofs.YtcoeakdpcigogaaDoor
open Go.ChangeShapes Go.WideShapes Go.ChangeAt Go.RowKit Go.Sort Go.Maps

variable {s : Nc}
set_option maxRecDepth 100000 in
set_option maxHeartbeats 1000000 in
theorem nex_83 {x : Nd} (h83 : x.kind = 83) (ih : ∀ y, SizeOf.sizeOf y < SizeOf.sizeOf x → ∀ u4, NexC { s with c4 := u4 } y) : NexC s x := by
  intro pb po X0 n env ts ut bs ub w Ak ck h hp
  obtain ⟨hbx, hx4, hx6, hsz⟩ := two_boxN w #[.int .u8 x.kind, .int .i64 x.num, .string x.name, .slice Ak x.kids.length ck] #[.string ⟨#[]⟩, .bool false]
  have HX4 := Lib.hid hx4
  have HX6 := Lib.hid hx6
  have HB := Lib.hid hbx
  have HSZ := Lib.hid hsz
  have HL0 := Lib.hid h.olds
  have HCA := Lib.hid (choice_any (ck := ck) h83 ih (h.open hbx) hp)
  clear h hp hbx hx4 hx6 hsz
  rw [h83] at HX4 HCA HB HSZ HX6 ⊢
  clear h83
  go_enter Tryd.func45, Tryd.ntmps45
  go_upto_region 1 with fail
  generalize (w.alloc _).alloc _ = W at HX4 HX6 HCA HB HSZ ⊢
  obtain ⟨a0, a1, a2, a3, _⟩ := HX4.out.four
  have hlt4 := HX4.out.lt
  obtain ⟨r, hr⟩ : ∃ r, nE s.lib x env ts = r := ⟨_, rfl⟩
  rw [hr] at HCA
  have HR := Lib.hid hr
  clear hr
  go_upto_region 13 with fail
  go_wp2_with fail
  refine HCA.out.mono ?_
  rintro e w5 ⟨rfl, n1, u1, b1, hn1, hs5, hf5, hnu5, hnb5⟩
  have HX65 := Lib.hid (HX6.out.fr hf5 (fun e => by have := ng_old HL0.out e; omega))
  have HD := Lib.hid (nx_fin (X0 := X0) HL0.out HB.out HSZ.out hs5 hf5 hnu5 hnb5 (.string r.p.name) (.bool r.p.list))
  have HBF := Lib.hid (HX65.out.set2 (.string r.p.name) (.bool r.p.list))
  clear hs5 hf5 hnu5 hnb5 a0 a1 a2 a3 hlt4
  obtain ⟨x0, x1, f0, f1⟩ := HX65.out.two
  have hlt6 := HX65.out.lt
  go_wp2_with fail
  generalize World.setCell _ _ _ = WF at HD HBF ⊢
  obtain ⟨g0, g1, _⟩ := HBF.out.two
  exact bodyPost_ret (v := .agg #[.string r.p.name, .bool r.p.list]) (by simp [results, Tryd.results45, go_sem, g0, g1]) rfl (by rw [HR.out]; exact ⟨rfl, n1, u1, b1, hn1, HD.out⟩)

theorem nex_le : ∀ (n : Nat) (x : Nd), SizeOf.sizeOf x ≤ n → ∀ s, NexC s x
  | 0, x, h, _ => by cases x; simp at h
  | n + 1, x, h, s => by
    have ih : ∀ y, SizeOf.sizeOf y < SizeOf.sizeOf x → ∀ s, NexC s y := fun y hy => nex_le n y (by omega)
    by_cases h81 : x.kind = 81
    · exact nex_81 h81
    by_cases h83 : x.kind = 83
    · exact nex_83 h83 (fun y hy u4 => ih y hy _)
    by_cases h84 : x.kind = 84
    · exact nex_84 h84 (fun y hy => ih y hy s)
    by_cases h85 : x.kind = 85
    · exact nex_85 h85 (fun y hy => ih y hy s)
    exact nex_op h81 h83 h84 h85 (fun y hy => ih y hy s)
theorem nex_all (s : Nc) (x : Nd) : NexC s x := nex_le _ x (Nat.le_refl _) s

end Go.Proofs.YtcoeakdpcigogaaDoor

namespace Go.Proofs.YtcoeakdpcigogaaDoor

theorem setE_dom {env : ByteArray → Option Bool} {q : ByteArray} {b : Bool} : (fun t => (setE env q (some b) t).isSome) = addD (fun t => (env t).isSome) q := by
  funext t
  unfold setE addD
  by_cases e : t = q
  · rw [if_pos e, if_pos e]; rfl
  · rw [if_neg e, if_neg e]
mutual
theorem chk_ns (lib : List Fn1) : ∀ (x : Nd) (env : ByteArray → Option Bool), (chkT lib x env).2 = 0 → nsT x (fun q => (env q).isSome) = true
  | .mk kind num name kids, env, h => by
    rw [chkT] at h
    by_cases h1 : reachE lib env (.mk kind num name kids) = 0
    rotate_left
    · rw [if_pos h1] at h; exact absurd h h1
    rw [if_neg (fun e => e h1)] at h
    by_cases h2 : (chkTL lib kids env kind name 0 []).2 = 0
    rotate_left
    · rw [if_pos h2] at h; exact absurd h h2
    rw [nsT]
    by_cases h84 : kind = 84
    · rw [if_pos h84]
      subst h84
      have h3 : (env name).isSome = false := by
        unfold reachE at h1
        have e1 : (Nd.mk 84 num name kids).kind = 84 := rfl
        rw [e1, if_neg (by omega), if_pos rfl] at h1
        have e2 : (Nd.mk 84 num name kids).name = name := rfl
        rw [e2] at h1
        by_cases h4 : (env name).isSome = true
        · rw [if_pos h4] at h1; cases h1
        · simpa using h4
      exact chk_nsLet lib kids env name h3 h2
    · rw [if_neg h84]
      exact chk_nsL lib kids env kind name 0 [] h84 h2
theorem chk_nsL (lib : List Fn1) : ∀ (l : List Nd) (env : ByteArray → Option Bool) (kind : Nat) (name : ByteArray) (i : Nat) (ts : List Bool), kind ≠ 84 → (chkTL lib l env kind name i ts).2 = 0 → nsL l (fun q => (env q).isSome) = true
  | [], _, _, _, _, _, _, _ => by rw [nsL]
  | y :: r, env, kind, name, i, ts, hk, h => by
    rw [chkTL] at h
    have e : envAt kind name env i ts = env := by unfold envAt; rw [if_neg (fun e => hk e.1)]
    rw [e] at h
    by_cases h1 : (chkT lib y env).2 = 0
    · rw [if_neg (fun e => e h1)] at h
      rw [nsL, chk_ns lib y _ h1, chk_nsL lib r _ _ _ _ _ hk h]; rfl
    · rw [if_pos h1] at h; exact absurd h h1
theorem chk_nsLet (lib : List Fn1) : ∀ (l : List Nd) (env : ByteArray → Option Bool) (name : ByteArray), (env name).isSome = false → (chkTL lib l env 84 name 0 []).2 = 0 → nsLet name l (fun q => (env q).isSome) = true
  | [], _, _, _, _ => rfl
  | [_], _, _, _, _ => rfl
  | _ :: _ :: _ :: _, _, _, _, _ => rfl
  | [a, b], env, name, hn, h => by
    rw [chkTL] at h
    have e : envAt 84 name env 0 [] = env := by unfold envAt; rw [if_neg (fun e => by omega)]
    rw [e] at h
    by_cases h1 : (chkT lib a env).2 = 0
    rotate_left
    · rw [if_pos h1] at h; exact absurd h h1
    rw [if_neg (fun e => e h1), chkTL] at h
    have e2 : envAt 84 name env (0 + 1) ([] ++ [(chkT lib a env).1]) = setE env name (some (chkT lib a env).1) := by unfold envAt; rw [if_pos ⟨rfl, rfl⟩]; rfl
    rw [e2] at h
    by_cases h3 : (chkT lib b (setE env name (some (chkT lib a env).1))).2 = 0
    rotate_left
    · rw [if_pos h3] at h; exact absurd h h3
    have h4 := chk_ns lib b _ h3
    rw [setE_dom] at h4
    rw [nsLet, hn, chk_ns lib a _ h1, h4]; rfl
end

end Go.Proofs.YtcoeakdpcigogaaDoor

namespace Go.Proofs.YtcoeakdpcigogaaDoor
open Go.ChangeShapes Go.WideShapes Go.ChangeAt Go.RowKit Go.Sort Go.Maps

def PmsX (w : World) (X : Nat → Prop) (A : Option Addr) (l : List Pm) : Prop := PmsAt w A l ∧ ∀ b o, A = some ⟨b, o, none⟩ → 0 < l.length → ¬ X b
theorem PmsX.le {w w' : World} {X X' : Nat → Prop} {A : Option Addr} {l : List Pm} (h : PmsX w X A l) (hl : Le w X w' X') (hX : ∀ k, k < w.heap.size → X' k → X k) : PmsX w' X' A l := by
  refine ⟨fun k x hk => ?_, fun b o e hz => ?_⟩
  · obtain ⟨b, o, e, h1, h2⟩ := h.1 k x hk
    have hz : 0 < l.length := by have := (List.getElem?_eq_some_iff.1 hk).1; omega
    exact ⟨b, o, e, (hl _ _ h1 (h.2 b o e hz)).1, (hl _ _ h2 (h.2 b o e hz)).1⟩
  · obtain ⟨b', o', e', h1, _⟩ := h.1.at_ hz
    rw [e] at e'; cases e'
    exact fun q => h.2 b o e hz (hX b (block_lt_of_cell h1) q)
/-- The cells of a normalized function. -/
def AfC (w : World) (X : Nat → Prop) (cs : List Value) (f : Af) : Prop := ∃ Ap cp At ct Ab cb, cs = [.string f.name, .slice Ap f.params.length cp, .bool f.list, .slice At f.temps.length ct, .slice Ab f.body.length cb, .string f.result] ∧ PmsX w X Ap f.params ∧ PmsX w X At f.temps ∧ BdsX w X Ab f.body
def RetClP (l : List Pm) (w : World) (e : Ending) (w' : World) : Prop := ∃ A c, e = .returned (.slice A l.length c) ∧ PmsAt w' A l ∧ Below w.heap.size w w' ∧ ∀ b o, A = some ⟨b, o, none⟩ → w.heap.size ≤ b ∧ b < w'.heap.size

set_option maxRecDepth 100000 in
theorem cloneP_any (l : List Pm) (A : Option Addr) (cap : Nat) (w : World) (hL : PmsAt w A l) (hl : l.length ≤ 1000000) :
    Calls Tryd.prog 41 #[.slice A l.length cap] w (RetClP l w) := by
  cases A with
  | none =>
    have h0 : l = [] := by
      cases l with
      | nil => rfl
      | cons x r => obtain ⟨b, o, e, _⟩ := hL 0 x rfl; cases e
    subst h0
    have HF := Lib.hid (show RetClP [] w (.returned (.slice none 0 0)) w from ⟨none, 0, rfl, fun k x hk => by simp at hk, Below.refl _ _, fun b o e => by cases e⟩)
    clear hL hl
    have hq := fun w => Lib.run_eql_slice_nil (P := Tryd.prog) w 36 65 none 0 cap 0 0 Tryd.underlying36
    go_enter Tryd.func41, Tryd.ntmps41
    go_wp2_with fail
    go_ret
    exact HF.out
  | some a =>
    obtain ⟨i0, hi0, hz0, hz1, hz2⟩ := info_parts info_pm
    have HI := Lib.hid (And.intro hi0 (And.intro hz0 (And.intro hz1 hz2)))
    have hb := below_box w (Obj.cells #[] 65)
    have HL := Lib.hid (hL.mono hb)
    have HOW := Lib.hid (own_emptyP w (e := 65) (size := 2))
    clear hi0 hz0 hz1 hz2 hL
    have hq := fun w => Lib.run_eql_slice_nil (P := Tryd.prog) w 36 65 (some a) l.length cap 0 0 Tryd.underlying36
    go_enter Tryd.func41, Tryd.ntmps41
    go_wp2_with (at_builtin; go_loud (refine wpList_app _ rfl _ _ 36 rfl w.heap.size 65 i0 (.agg #[.string ⟨#[]⟩, .bool false]) 2 24 Tryd.underlying36 HI.out.1 HI.out.2.1 HI.out.2.2.1 HI.out.2.2.2 rfl (by decide) _ 0 [] rfl HOW.out (some a) l.length cap (pCells l) rfl (pCells_len l) HL.out.cells (pCells_one _) (by unfold maxLen; omega) (by omega) hb.size ?_; intro v' w6 hown' hgrow _; rw [Nat.zero_add, List.nil_append] at hown'; have q6 := Lib.hid (hb.grown hgrow hb.size (fun k hk => (by cases hk; exact Nat.le_refl _))); obtain ⟨A6, c6, rfl, h6⟩ := pms_of_own hown'; have HF := Lib.hid (show RetClP l w (.returned (.slice A6 l.length c6)) w6 from ⟨A6, c6, rfl, h6, q6.out, fun b o e => by subst e; exact ⟨(own_ty hown' b rfl).1, (hown'.lt b rfl).2⟩⟩); clear hown' hgrow h6))
    go_ret
    exact HF.out

/-! ### normalize's first steps -/
structure Nr1 (W wc : World) (f : Fn1) (O : Nat) (Ap : Option Addr) (cp : Nat) : Prop where
  hb : Below W.heap.size W wc
  lo : W.heap.size ≤ O
  bx : Bx wc O #[.string f.name, .slice Ap f.params.length cp, .bool f.list, .slice none 0 0, .slice none 0 0, .string ⟨#[]⟩]
  pm : PmsAt wc Ap f.params
  nw : ∀ b o, Ap = some ⟨b, o, none⟩ → W.heap.size ≤ b ∧ b < wc.heap.size ∧ b ≠ O
theorem PmsAt.fr {w w' : World} {A : Option Addr} {l : List Pm} {m : Nat → Prop} (h : PmsAt w A l) (hf : Fr w w' m) (hm : ∀ b o, A = some ⟨b, o, none⟩ → ¬ m b) : PmsAt w' A l := fun k x hk => by
  obtain ⟨b, o, e, h1, h2⟩ := h k x hk
  exact ⟨b, o, e, hf.cell h1 (hm b o e), hf.cell h2 (hm b o e)⟩

theorem Bx.put6 {w : World} {b : Nat} {u0 u1 u2 u3 u4 u5 : Value} (h : Bx w b #[u0, u1, u2, u3, u4, u5]) (v0 v1 v2 v3 v4 v5 : Value) : Bx ((((((w.setCell ⟨b, 0, none⟩ v0).setCell ⟨b, 1, none⟩ v1).setCell ⟨b, 2, none⟩ v2).setCell ⟨b, 3, none⟩ v3).setCell ⟨b, 4, none⟩ v4).setCell ⟨b, 5, none⟩ v5) b #[v0, v1, v2, v3, v4, v5] := by
  have h0 : Bx _ b #[v0, u1, u2, u3, u4, u5] := h.set 0 v0
  have h1 : Bx _ b #[v0, v1, u2, u3, u4, u5] := h0.set 1 v1
  have h2 : Bx _ b #[v0, v1, v2, u3, u4, u5] := h1.set 2 v2
  have h3 : Bx _ b #[v0, v1, v2, v3, u4, u5] := h2.set 3 v3
  have h4 : Bx _ b #[v0, v1, v2, v3, v4, u5] := h3.set 4 v4
  have h5 : Bx _ b #[v0, v1, v2, v3, v4, v5] := h4.set 5 v5
  exact h5
theorem nr1_a {W W' w5 : World} {f : Fn1} {u0 u1 u2 u3 u4 u5 : Value} {Ap : Option Addr} {cp : Nat} (hb : Below W.heap.size W W') (hz : W'.heap.size = W.heap.size + 1) (hx : Bx W' W.heap.size #[u0, u1, u2, u3, u4, u5]) (hb5 : Below W'.heap.size W' w5) (hp : PmsAt w5 Ap f.params) (hn : ∀ b o, Ap = some ⟨b, o, none⟩ → W'.heap.size ≤ b ∧ b < w5.heap.size) :
    Nr1 W ((((((w5.setCell ⟨W.heap.size, 0, none⟩ (.string f.name)).setCell ⟨W.heap.size, 1, none⟩ (.slice Ap f.params.length cp)).setCell ⟨W.heap.size, 2, none⟩ (.bool f.list)).setCell ⟨W.heap.size, 3, none⟩ (.slice none 0 0)).setCell ⟨W.heap.size, 4, none⟩ (.slice none 0 0)).setCell ⟨W.heap.size, 5, none⟩ (.string ⟨#[]⟩)) f W.heap.size Ap cp := by
  have hf := Fr.set6 w5 W.heap.size (.string f.name) (.slice Ap f.params.length cp) (.bool f.list) (.slice none 0 0) (.slice none 0 0) (.string ⟨#[]⟩)
  have hsz := hb5.size
  exact ⟨hf.toBelow (below_step hb hb.size hb5) (by omega) (fun k e => by have e' : k = W.heap.size := e; omega), Nat.le_refl _, (hx.below hb5).put6 _ _ _ _ _ _, hp.fr hf (fun b o e e2 => by have := hn b o e; have e' : b = W.heap.size := e2; omega), fun b o e => by have := hn b o e; have := hf.size; exact ⟨by omega, by omega, by omega⟩⟩
theorem nr1_b {W W' w5 : World} {f : Fn1} {Ap : Option Addr} {cp : Nat} (hb : Below W.heap.size W W') (hz : W'.heap.size = W.heap.size) (hb5 : Below W'.heap.size W' w5) (hp : PmsAt w5 Ap f.params) (hn : ∀ b o, Ap = some ⟨b, o, none⟩ → W'.heap.size ≤ b ∧ b < w5.heap.size) :
    Nr1 W (w5.alloc (Obj.cells #[.string f.name, .slice Ap f.params.length cp, .bool f.list, .slice none 0 0, .slice none 0 0, .string ⟨#[]⟩] 39)) f w5.heap.size Ap cp := by
  have hb6 := below_box w5 (Obj.cells #[.string f.name, .slice Ap f.params.length cp, .bool f.list, .slice none 0 0, .slice none 0 0, .string ⟨#[]⟩] 39)
  have hsz := hb5.size
  have hsz6 := hb6.size
  exact ⟨below_step (below_step hb hb.size hb5) (by omega) hb6, by omega, bx_new w5 _ _, hp.mono hb6, fun b o e => by have := hn b o e; exact ⟨by omega, by omega, by omega⟩⟩

end Go.Proofs.YtcoeakdpcigogaaDoor

namespace Go.Proofs.YtcoeakdpcigogaaDoor
open Go.ChangeShapes Go.WideShapes Go.ChangeAt Go.RowKit Go.Sort Go.Maps

theorem Bx.seven {w : World} {b : Nat} {u0 u1 u2 u3 u4 u5 u6 : Value} (h : Bx w b #[u0, u1, u2, u3, u4, u5, u6]) : w.cell? ⟨b, 0, none⟩ = some u0 ∧ w.cell? ⟨b, 1, none⟩ = some u1 ∧ w.cell? ⟨b, 2, none⟩ = some u2 ∧ w.cell? ⟨b, 3, none⟩ = some u3 ∧ w.cell? ⟨b, 4, none⟩ = some u4 ∧ w.cell? ⟨b, 5, none⟩ = some u5 ∧ w.cell? ⟨b, 6, none⟩ = some u6 := ⟨h.cell rfl, h.cell rfl, h.cell rfl, h.cell rfl, h.cell rfl, h.cell rfl, h.cell rfl⟩
theorem two_boxF (w : World) (c7 c6 : Array Value) : Below w.heap.size w ((w.alloc (Obj.cells c7 55)).alloc (Obj.cells c6 39)) ∧ Bx ((w.alloc (Obj.cells c7 55)).alloc (Obj.cells c6 39)) w.heap.size c7 ∧ Bx ((w.alloc (Obj.cells c7 55)).alloc (Obj.cells c6 39)) (w.heap.size + 1) c6 ∧ ((w.alloc (Obj.cells c7 55)).alloc (Obj.cells c6 39)).heap.size = w.heap.size + 2 := by
  have b1 := below_box w (Obj.cells c7 55)
  have b2 := below_box (w.alloc (Obj.cells c7 55)) (Obj.cells c6 39)
  have h2 := bx_new (w.alloc (Obj.cells c7 55)) c6 39
  rw [show (w.alloc (Obj.cells c7 55)).heap.size = w.heap.size + 1 by simp] at h2
  exact ⟨below_step b1 b1.size b2, (bx_new w c7 _).below b2, h2, by simp⟩
def RetNr (lib : List Fn1) (f : Fn1) (w : World) (e : Ending) (w' : World) : Prop := ∃ cs, e = .returned (.agg cs.toArray) ∧ AfC w' (fun k => k < w.heap.size) cs (normF lib f) ∧ Below w.heap.size w w'
theorem envP_step {l : List Pm} {k : Nat} (h : k < l.length) : envP (l.take (k + 1)) = setP (envP (l.take k)) l[k].name (some l[k]) := by
  unfold envP
  rw [List.take_succ_eq_append_getElem h, List.foldl_append]; rfl

theorem vis_made (w : World) (A : Option Addr) (cap : Nat) (lib : List Fn1) (O : Nat) (T : TypeId) : Below w.heap.size w ((w.alloc (.map #[] 0)).alloc (Obj.cells (visB A cap lib O w.heap.size) T)) ∧ MapP ((w.alloc (.map #[] 0)).alloc (Obj.cells (visB A cap lib O w.heap.size) T)) w.heap.size 0 (fun _ => none) ∧ Bx ((w.alloc (.map #[] 0)).alloc (Obj.cells (visB A cap lib O w.heap.size) T)) (w.heap.size + 1) (visB A cap lib O w.heap.size) ∧ ((w.alloc (.map #[] 0)).alloc (Obj.cells (visB A cap lib O w.heap.size) T)).heap.size = w.heap.size + 2 := by
  have b1 := below_box w (.map #[] 0)
  have b2 := below_box (w.alloc (.map #[] 0)) (Obj.cells (visB A cap lib O w.heap.size) T)
  have h2 := bx_new (w.alloc (.map #[] 0)) (visB A cap lib O w.heap.size) T
  rw [show (w.alloc (.map #[] 0)).heap.size = w.heap.size + 1 by simp] at h2
  exact ⟨below_step b1 b1.size b2, (mapP_made w).below b2, h2, by simp⟩
theorem ns_first {w wr : World} {A : Option Addr} {cap : Nat} {lib : List Fn1} {O M n : Nat} {c0 c1 c2 : Value} {env : ByteArray → Option Pm} (hb : Below w.heap.size w wr) (hO : w.heap.size + 1 < O) (hx : Bx wr O #[c0, c1, c2, .slice none 0 0, .slice none 0 0, .string ⟨#[]⟩]) (hM : O < M) (hv : Bx wr (M + 1) (visB A cap lib O M)) (hm : MapP wr M n env) :
    Ns ⟨w, M + 2, M + 1, O, M, A, cap, lib, c0, c1, c2, .string ⟨#[]⟩, .slice none 0 0⟩ O 4 (fun k => k ≤ w.heap.size + 1) n env [] (.slice none 0 0) [] (.slice none 0 0) wr := by
  have hl := hv.lt
  exact ⟨⟨.slice none 0 0, ⟨hb, (by omega : w.heap.size ≤ O), hx, ⟨rfl, .inl ⟨rfl, rfl⟩⟩, (by omega : O < M + 2), hl⟩, fun _ => rfl, fun _ => rfl⟩, hv, (by omega : M + 1 ≠ O), (by omega : M + 1 < M + 2), (by omega : w.heap.size ≤ M + 1), hm, (by omega : M ≠ O), (by omega : M ≠ M + 1), (by omega : M < M + 2), (by omega : w.heap.size ≤ M), fun _ => rfl, (by omega : O ≠ M + 1), (by omega : O ≠ M), (by omega : w.heap.size ≤ O), fun h => absurd rfl h, ⟨[], ⟨rfl, .inl ⟨rfl, rfl⟩⟩, .nil⟩, fun k e => by
    have e' : k ≤ w.heap.size + 1 := e
    omega⟩

theorem ng_first {s : Nc} {pb k : Nat} (h : Ng s pb (.slice none 0 0) (.slice none 0 0) k) : k = s.M ∨ k = s.O ∨ k = pb := by
  rcases h with h | h | h | h | h
  · exact .inl h
  · exact .inr (.inl h)
  · cases h
  · exact .inr (.inr h)
  · cases h
theorem nr_fin {s : Nc} {n : Nat} {env : ByteArray → Option Pm} {ts : List Pm} {ut ub : Value} {bs : List Bd} {w5 : World} {f : Fn1} {Aq : Option Addr} {cq : Nat} (hN : Ns s s.O 4 (fun k => k ≤ s.W0.heap.size + 1) n env ts ut bs ub w5) (h0 : s.c0 = .string f.name) (h1 : s.c1 = .slice Aq f.params.length cq) (h2 : s.c2 = .bool f.list) (hP : PmsAt w5 Aq f.params) (hq : ∀ b o, Aq = some ⟨b, o, none⟩ → b ≠ s.O ∧ b ≠ s.W0.heap.size + 1 ∧ s.W0.heap.size ≤ b ∧ b < w5.heap.size) {u0 u1 u2 u3 u4 u5 : Value} (hx : Bx w5 (s.W0.heap.size + 1) #[u0, u1, u2, u3, u4, u5]) (hs : s.W0.heap.size + 1 < s.O) (r : ByteArray) :
    ∃ At ct Ab cb, ut = .slice At ts.length ct ∧ ub = .slice Ab bs.length cb ∧ w5.frozen? ⟨s.O, 5, none⟩ = false ∧ w5.cell? ⟨s.O, 5, none⟩ = some s.c5 ∧ Bx (w5.setCell ⟨s.O, 5, none⟩ (.string r)) s.O #[.string f.name, .slice Aq f.params.length cq, .bool f.list, .slice At ts.length ct, .slice Ab bs.length cb, .string r] ∧ Bx (w5.setCell ⟨s.O, 5, none⟩ (.string r)) (s.W0.heap.size + 1) #[u0, u1, u2, u3, u4, u5] ∧
      ∀ W7, W7 = ((((((w5.setCell ⟨s.O, 5, none⟩ (.string r)).setCell ⟨s.W0.heap.size + 1, 0, none⟩ (.string f.name)).setCell ⟨s.W0.heap.size + 1, 1, none⟩ (.slice Aq f.params.length cq)).setCell ⟨s.W0.heap.size + 1, 2, none⟩ (.bool f.list)).setCell ⟨s.W0.heap.size + 1, 3, none⟩ (.slice At ts.length ct)).setCell ⟨s.W0.heap.size + 1, 4, none⟩ (.slice Ab bs.length cb)).setCell ⟨s.W0.heap.size + 1, 5, none⟩ (.string r) →
        Bx W7 (s.W0.heap.size + 1) #[.string f.name, .slice Aq f.params.length cq, .bool f.list, .slice At ts.length ct, .slice Ab bs.length cb, .string r] ∧ Below s.W0.heap.size s.W0 W7 ∧ AfC W7 (fun k => k < s.W0.heap.size) [.string f.name, .slice Aq f.params.length cq, .bool f.list, .slice At ts.length ct, .slice Ab bs.length cb, .string r] ⟨f.name, f.params, f.list, ts, bs, r⟩ := by
  obtain ⟨u4', ht, h4⟩ := hN.t
  obtain rfl : u4' = ub := h4.1 rfl
  obtain ⟨cs, ho, hr⟩ := hN.own
  have hgt := fun g e => (own_ty ht.own g e).1
  have hgb := fun g e => (own_ty ho g e).1
  have hob := ht.ob
  have hF1 := Fr.of_set w5 ⟨s.O, 5, none⟩ (.string r)
  obtain ⟨At, ct, rfl, _⟩ := own_formB ht.own
  obtain ⟨Ab, cb, rfl, _⟩ := own_formB ho
  have hO := ht.o
  rw [h0, h1, h2] at hO
  have hO' : Bx (w5.setCell ⟨s.O, 5, none⟩ (.string r)) s.O #[.string f.name, .slice Aq f.params.length cq, .bool f.list, .slice At ts.length ct, .slice Ab bs.length cb, .string r] := hO.set 5 _
  have hx1 := hx.fr hF1 (fun e => by have e' : s.W0.heap.size + 1 = s.O := e; omega)
  refine ⟨At, ct, Ab, cb, rfl, rfl, hO.free 5, hO.cell rfl, hO', hx1, fun W7 e7 => ?_⟩
  have hF2 := Fr.set6 (w5.setCell ⟨s.O, 5, none⟩ (.string r)) (s.W0.heap.size + 1) (.string f.name) (.slice Aq f.params.length cq) (.bool f.list) (.slice At ts.length ct) (.slice Ab bs.length cb) (.string r)
  have hx7 := hx1.put6 (.string f.name) (.slice Aq f.params.length cq) (.bool f.list) (.slice At ts.length ct) (.slice Ab bs.length cb) (.string r)
  rw [← e7] at hF2 hx7
  have hF : Fr w5 W7 (fun k => k = s.O ∨ k = s.W0.heap.size + 1) := (hF1.mono fun k _ e => .inl e).trans hF2 fun k _ e => .inr e
  refine ⟨hx7, hF.toBelow ht.bw ht.bw.size (fun k e => by rcases e with e | e <;> omega), Aq, cq, At, ct, Ab, cb, rfl, ⟨hP.fr hF (fun b o e e2 => by have := hq b o e; rcases e2 with e2 | e2 <;> omega), fun b o e _ e2 => by have := hq b o e; have e3 : b < s.W0.heap.size := e2; omega⟩, ?_, ?_⟩
  · obtain ⟨A', c', e, hp⟩ := pms_of_own (hF.own ht.own fun g e e2 => by have := hgt g e; rcases e2 with e2 | e2 <;> omega)
    cases e
    refine ⟨hp, fun b o e _ e2 => ?_⟩
    subst e
    have := hgt b rfl
    have e3 : b < s.W0.heap.size := e2
    omega
  · obtain ⟨A', c', e, hp⟩ := bdsX_of_own (hF.own ho fun g e e2 => by have := hgb g e; rcases e2 with e2 | e2 <;> omega) (hr.map (BdC.le (Le.of_fr (X' := fun k => k < s.W0.heap.size) hF (fun k _ e => e.elim (fun e => .inr (.inl e)) (fun e => .inl (by show k ≤ s.W0.heap.size + 1; omega))) (fun k _ e => .inl (by have e' : k < s.W0.heap.size := e; show k ≤ s.W0.heap.size + 1; omega))))) (fun g e e2 => by have := hgb g e; have e3 : g < s.W0.heap.size := e2; omega)
    cases e; exact hp

end Go.Proofs.YtcoeakdpcigogaaDoor
