/-
  What normalizing does to the temporaries; no name is bound twice (plain).
  Whether an expression names a variable: the walk.
  The visitor's expr: its contract; a variable.
-/
import Derived.Test.YtcoeakdpcigogaaDoorAnfPlain
import Derived.Test.YtcoeakdpcigogaaDoorAnfCl
import Derived.Deep.LoopGhost
import Derived.Test.YtcoeakdpcigogaaDoorAnfBind
import Derived.Test.YtcoeakdpcigogaaDoorAnfMap
namespace Go.Proofs.YtcoeakdpcigogaaDoor

def addD (dom : ByteArray → Bool) (s : ByteArray) : ByteArray → Bool := fun t => if t = s then true else dom t
mutual
/-- No variable is bound where it is bound already. -/
def nsT : Nd → (ByteArray → Bool) → Bool
  | .mk k _ s l, dom => if k = 84 then nsLet s l dom else nsL l dom
def nsL : List Nd → (ByteArray → Bool) → Bool
  | [], _ => true
  | y :: r, dom => nsT y dom && nsL r dom
def nsLet (s : ByteArray) : List Nd → (ByteArray → Bool) → Bool
  | [a, b], dom => !dom s && nsT a dom && nsT b (addD dom s)
  | _, _ => true
end
theorem nsT_eq (x : Nd) (dom : ByteArray → Bool) : nsT x dom = if x.kind = 84 then nsLet x.name x.kids dom else nsL x.kids dom := by cases x; rw [nsT]; rfl
theorem nsL_kid : ∀ {l : List Nd} {dom : ByteArray → Bool}, nsL l dom = true → ∀ {k : Nat} {y : Nd}, l[k]? = some y → nsT y dom = true
  | [], _, _, k, y, hy => by simp at hy
  | z :: r, dom, h, k, y, hy => by
    rw [nsL, Bool.and_eq_true_iff] at h
    match k, hy with
    | 0, hy => simp at hy; exact hy ▸ h.1
    | k + 1, hy => exact nsL_kid h.2 (by simpa using hy)

/-- What is appended to the temporaries, and how many binds come. -/
structure Ext (ts ts' : List Pm) (m k : Nat) : Prop where
  pre : ∃ ex, ts' = ts ++ ex ∧ ex.length ≤ m
  bs : k ≤ m
theorem ext_put {bs : List Bd} {ts ts' : List Pm} {m : Nat} (h : Ext ts ts' m bs.length) (l : Bool) (op : Nat) (num : Int) (nm : ByteArray) (args : List ByteArray) : Ext ts (Nr.put bs l ts' op num nm args).ts (m + 1) (Nr.put bs l ts' op num nm args).bs.length := by
  obtain ⟨ex, rfl, he⟩ := h.pre
  refine ⟨⟨ex ++ [⟨tmpN (ts ++ ex).length, l⟩], by simp [Nr.put], by simp; exact he⟩, ?_⟩
  have := h.bs
  simp [Nr.put]; exact this
theorem Ext.trans {ts ts1 ts2 : List Pm} {m1 m2 k1 k2 : Nat} (h1 : Ext ts ts1 m1 k1) (h2 : Ext ts1 ts2 m2 k2) : Ext ts ts2 (m1 + m2) (k1 + k2) := by
  obtain ⟨e1, rfl, l1⟩ := h1.pre
  obtain ⟨e2, rfl, l2⟩ := h2.pre
  exact ⟨⟨e1 ++ e2, by simp, by simp; omega⟩, by have := h1.bs; have := h2.bs; omega⟩
theorem Ext.mono {ts ts1 : List Pm} {m m' k k' : Nat} (h : Ext ts ts1 m k) (hm : m ≤ m') (hk : k' ≤ m') : Ext ts ts1 m' k' := by
  obtain ⟨e1, rfl, l1⟩ := h.pre
  exact ⟨⟨e1, rfl, by omega⟩, hk⟩
theorem Ext.setL {ts ts1 : List Pm} {m k i : Nat} (h : Ext ts ts1 m k) (hi : ts.length ≤ i) (b : Bool) : Ext ts (setL ts1 i b) m k := by
  obtain ⟨e1, rfl, l1⟩ := h.pre
  refine ⟨⟨e1.set (i - ts.length) ⟨tmpN i, b⟩, ?_, by simp; exact l1⟩, h.bs⟩
  unfold Go.Proofs.YtcoeakdpcigogaaDoor.setL
  rw [List.set_append_right _ _ hi]

mutual
theorem nE_ext (lib : List Fn1) : ∀ (x : Nd) (env : ByteArray → Option Pm) (ts : List Pm), Ext ts (nE lib x env ts).ts (3 * sizeT x - 1) (nE lib x env ts).bs.length
  | .mk k n s l, env, ts => by
    have hz : sizeT (.mk k n s l) = 1 + sizeTL l := by rw [sizeT]
    rw [hz, nE]
    split
    · exact ⟨⟨[], by simp, by simp⟩, by simp⟩
    split
    · exact (nLet_ext lib s l env ts).mono (by omega) (by have := (nLet_ext lib s l env ts).bs; omega)
    split
    · have h := nIf_ext lib l env ts
      exact h.mono (by omega) (by have := h.bs; omega)
    have h := nArgs_ext lib (decide (k = 85)) l env ts
    dsimp only
    split
    · have h2 := ext_put h (((lib[(findF lib s 0).toNat]?).map Fn1.list).getD false) 85 0 s (nArgs lib (decide (k = 85)) l env ts).args
      exact h2.mono (by omega) (by have := h2.bs; omega)
    · have h2 := ext_put h (listK k) k n eS (nArgs lib (decide (k = 85)) l env ts).args
      exact h2.mono (by omega) (by have := h2.bs; omega)
theorem nLet_ext (lib : List Fn1) (s : ByteArray) : ∀ (l : List Nd) (env : ByteArray → Option Pm) (ts : List Pm), Ext ts (nLet lib s l env ts).ts (3 * sizeTL l) (nLet lib s l env ts).bs.length
  | [], env, ts => ⟨⟨[], by simp [nLet], by simp⟩, by simp [nLet]⟩
  | [_], env, ts => ⟨⟨[], by simp [nLet], by simp⟩, by simp [nLet]⟩
  | [a, b], env, ts => by
    have ha := sizeT_eq a
    have hb := sizeT_eq b
    have h1 := nE_ext lib a env ts
    have h2 := nE_ext lib b (setP env s (some (nE lib a env ts).p)) (nE lib a env ts).ts
    have h := h1.trans h2
    rw [nLet]
    simp only [sizeTL]
    exact h.mono (by omega) (by have := h.bs; simp; omega)
  | _ :: _ :: _ :: _, env, ts => ⟨⟨[], by simp [nLet], by simp⟩, by simp [nLet]⟩
theorem nIf_ext (lib : List Fn1) : ∀ (l : List Nd) (env : ByteArray → Option Pm) (ts : List Pm), Ext ts (nIf lib l env ts).ts (3 * sizeTL l + 1) (nIf lib l env ts).bs.length
  | [], env, ts => ⟨⟨[], by simp [nIf], by simp⟩, by simp [nIf]⟩
  | [_], env, ts => ⟨⟨[], by simp [nIf], by simp⟩, by simp [nIf]⟩
  | [_, _], env, ts => ⟨⟨[], by simp [nIf], by simp⟩, by simp [nIf]⟩
  | [c, a, b], env, ts => by
    have hc := sizeT_eq c
    have ha := sizeT_eq a
    have hb := sizeT_eq b
    have h0 := nE_ext lib c env ts
    have hp : Ext (nE lib c env ts).ts ((nE lib c env ts).ts ++ [⟨tmpN (nE lib c env ts).ts.length, false⟩]) 1 1 := ⟨⟨_, rfl, by simp⟩, by simp⟩
    have h1 := nE_ext lib a env ((nE lib c env ts).ts ++ [⟨tmpN (nE lib c env ts).ts.length, false⟩])
    have hl0 : ts.length ≤ (nE lib c env ts).ts.length := by obtain ⟨ex, e, _⟩ := h0.pre; rw [e]; simp
    have h01 := ((h0.trans hp).trans h1).setL hl0 (nE lib a env ((nE lib c env ts).ts ++ [⟨tmpN (nE lib c env ts).ts.length, false⟩])).p.list
    have h2 := nE_ext lib b env (setL (nE lib a env ((nE lib c env ts).ts ++ [⟨tmpN (nE lib c env ts).ts.length, false⟩])).ts (nE lib c env ts).ts.length (nE lib a env ((nE lib c env ts).ts ++ [⟨tmpN (nE lib c env ts).ts.length, false⟩])).p.list)
    have h := (h01.trans h2).setL hl0 (nE lib b env (setL (nE lib a env ((nE lib c env ts).ts ++ [⟨tmpN (nE lib c env ts).ts.length, false⟩])).ts (nE lib c env ts).ts.length (nE lib a env ((nE lib c env ts).ts ++ [⟨tmpN (nE lib c env ts).ts.length, false⟩])).p.list)).p.list
    rw [nIf]
    simp only [sizeTL]
    exact h.mono (by omega) (by have := h0.bs; simp; omega)
  | _ :: _ :: _ :: _ :: _, env, ts => ⟨⟨[], by simp [nIf], by simp⟩, by simp [nIf]⟩
theorem nArgs_ext (lib : List Fn1) (call : Bool) : ∀ (l : List Nd) (env : ByteArray → Option Pm) (ts : List Pm), Ext ts (nArgs lib call l env ts).ts (3 * sizeTL l) (nArgs lib call l env ts).bs.length
  | [], env, ts => ⟨⟨[], by simp [nArgs], by simp⟩, by simp [nArgs]⟩
  | y :: r, env, ts => by
    have h1 := nE_ext lib y env ts
    have hy := sizeT_eq y
    have h1' : Ext ts (Nr.arg call y (nE lib y env ts)).ts (3 * sizeT y) (Nr.arg call y (nE lib y env ts)).bs.length := by
      unfold Nr.arg
      split
      · have h := ext_put h1 (nE lib y env ts).p.list 81 0 eS [(nE lib y env ts).p.name]
        exact h.mono (by omega) (by have := h.bs; omega)
      · exact h1.mono (by omega) (by have := h1.bs; omega)
    have h2 := nArgs_ext lib call r env (Nr.arg call y (nE lib y env ts)).ts
    have h := h1'.trans h2
    rw [nArgs]
    simp only [sizeTL]
    exact h.mono (by omega) (by have := h.bs; simp; omega)
end

end Go.Proofs.YtcoeakdpcigogaaDoor

namespace Go.Proofs.YtcoeakdpcigogaaDoor
open Go.ChangeShapes Go.WideShapes Go.ChangeAt Go.RowKit Go.Sort Go.Maps

/-- Where the loop stands. -/
structure NmR (x : Nd) (w wr : World) (k : Nat) (y : Nd) (Ay : Option Addr) (cy : Nat) : Prop where
  hb : Below w.heap.size w wr
  b : Bx wr w.heap.size #[.int .u8 y.kind, .int .i64 y.num, .string y.name, .slice Ay y.kids.length cy]
  kids : NdsAt w Ay y.kids
  form : formT y = true
  eq : namesT y = namesT x
  lt : SizeOf.sizeOf y ≤ k
theorem form_len2 {y : Nd} (h : formT y = true) (hk : y.kind = 84) : y.kids.length = 2 := by
  rw [formT_eq, Bool.and_eq_true_iff] at h
  have := h.1
  unfold formB at this
  simp [hk] at this
  have h2 := this.2
  omega
set_option maxRecDepth 100000 in
set_option maxHeartbeats 1000000 in
theorem names_any (x : Nd) (Ak : Option Addr) (ck : Nat) (w : World) (hf : formT x = true) (hK : NdsAt w Ak x.kids) :
    Calls Tryd.prog 79 #[.agg #[.int .u8 x.kind, .int .i64 x.num, .string x.name, .slice Ak x.kids.length ck]] w fun e w' => e = .returned (.bool (namesT x)) ∧ Below w.heap.size w w' := by
  have H0 := Lib.hid (show NmR x w (w.alloc (Obj.cells #[.int .u8 x.kind, .int .i64 x.num, .string x.name, .slice Ak x.kids.length ck] 53)) (SizeOf.sizeOf x) x Ak ck from ⟨below_box w _, bx_new w _ _, hK, hf, rfl, Nat.le_refl _⟩)
  clear hK hf
  go_enter Tryd.func79, Tryd.ntmps79
  go_upto_region 1 with fail
  go_loopg [3] (SizeOf.sizeOf x) (fun k _ wr => ∃ y Ay cy, Hid (NmR x w wr k y Ay cy))
  case atStart => exact ⟨x, Ak, ck, H0⟩
  case round =>
    obtain ⟨y, Ay, cy, hr⟩ := hrel
    obtain ⟨a0, a1, a2, a3, f0, f1, f2, f3⟩ := hr.out.b.four
    have hlt := hr.out.b.lt
    by_cases hk : y.kind = 84
    · have hlen := form_len2 hr.out.form hk
      obtain ⟨c, d, hcd⟩ : ∃ c d, y.kids = [c, d] := by
        match hy : y.kids, hlen with
        | [c, d], _ => exact ⟨c, d, rfl⟩
      obtain ⟨kb, ko, rfl, ho⟩ := (hr.out.kids.mono hr.out.hb) 1 d (by rw [hcd]; rfl)
      obtain ⟨Ad, cd, e0, e1, e2, e3, e4⟩ := ho.open_
      simp only [Nat.one_mul] at e0 e1 e2 e3
      have hltk : kb < wr.heap.size := block_lt_of_cell e0
      have r1 : (1 : Int) < y.kids.length := by omega
      have r2 : 1 < y.kids.length := by omega
      have HK4 := Lib.hid (show NdsAt w Ad d.kids from by
        obtain ⟨b2, o2, e5, h5⟩ := hr.out.kids 1 d (by rw [hcd]; rfl)
        cases e5
        obtain ⟨A6, c6, q0, q1, q2, q3, q4⟩ := h5.open_
        have := below_cell hr.out.hb q3
        simp only [Nat.one_mul] at this
        rw [e3] at this
        cases this
        exact q4)
      have HFD := Lib.hid (formTL_kid (formT_kids hr.out.form).2 (k := 1) (show y.kids[1]? = some d by rw [hcd]; rfl))
      have HNE := Lib.hid (show namesT d = namesT x from by rw [← hr.out.eq, namesT_eq y, if_pos hk, hcd]; rfl)
      have HLT := Lib.hid (show SizeOf.sizeOf d < gk from by
        have h1 := hr.out.lt
        have h2 : SizeOf.sizeOf d < SizeOf.sizeOf y := by
          cases y with
          | mk k1 n1 s1 l1 =>
            have e : l1 = [c, d] := hcd
            subst e
            simp
            omega
        omega)
      rw [hk] at a0
      clear ho e4 hcd hlen hk
      go_wp2_with fail
      go_roundg (SizeOf.sizeOf d)
      case measure => exact HLT.out
      case rel => exact ⟨d, Ad, cd, ⟨(((hr.out.hb.setCell (p := ⟨w.heap.size, 0, none⟩) (Nat.le_refl _) _).setCell (p := ⟨w.heap.size, 1, none⟩) (Nat.le_refl _) _).setCell (p := ⟨w.heap.size, 2, none⟩) (Nat.le_refl _) _).setCell (p := ⟨w.heap.size, 3, none⟩) (Nat.le_refl _) _, (((hr.out.b.set 0 _).set 1 _).set 2 _).set 3 _, HK4.out, HFD.out, HNE.out, Nat.le_refl _⟩⟩
    · have HNM := Lib.hid (show namesT x = decide (y.kind = 81) from by rw [← hr.out.eq, namesT_eq, if_neg hk])
      have HB := Lib.hid hr.out.hb
      have hk1 : ((y.kind : Int) == 84) = false := beqK (n := 84) hk
      clear hr
      by_cases h81 : y.kind = 81
      · rw [h81] at a0 HNM
        go_wp2_with fail
        go_ret
        exact ⟨by rw [HNM.out]; rfl, HB.out⟩
      · have hk2 : ((y.kind : Int) == 81) = false := beqK (n := 81) h81
        go_wp2_with fail
        go_ret
        exact ⟨by rw [HNM.out]; simp [h81], HB.out⟩

end Go.Proofs.YtcoeakdpcigogaaDoor

namespace Go.Proofs.YtcoeakdpcigogaaDoor
open Go.ChangeShapes Go.WideShapes Go.ChangeAt Go.RowKit Go.Sort Go.Maps

variable {s : Nc} {pb po : Nat} {X0 : Nat → Prop} {n : Nat} {env : ByteArray → Option Pm} {ts ts' : List Pm} {ut ut' : Value} {bs : List Bd} {ub ub' : Value} {w w' w3 : World}
def Ng (s : Nc) (pb : Nat) (ut ub : Value) (k : Nat) : Prop := k = s.M ∨ Nf s pb ut ub k
/-- What normalizing an expression comes to. -/
def RetNx (s : Nc) (pb po : Nat) (X0 : Nat → Prop) (n : Nat) (env : ByteArray → Option Pm) (ut : Value) (bs : List Bd) (ub : Value) (r : Nr) (sz : Nat) (w : World) (e : Ending) (w' : World) : Prop :=
  e = .returned (.agg #[.string r.p.name, .bool r.p.list]) ∧ ∃ n' ut' ub', n' ≤ n + sz ∧ Ns s pb po X0 n' env r.ts ut' (bs ++ r.bs) ub' w' ∧ Fr w w' (Ng s pb ut ub) ∧ Nwb w ut ut' ∧ Nwb w ub ub'
/-- What it needs. -/
structure Npre (s : Nc) (x : Nd) (Ak : Option Addr) (env : ByteArray → Option Pm) (ts : List Pm) (bs : List Bd) (n : Nat) : Prop where
  hW : Wld s.W0
  lib : LibAt s.W0 s.A s.lib
  lfit : LibFit s.lib
  kids : NdsAt s.W0 Ak x.kids
  fit : NdFit x
  form : formT x = true
  ar : arT s.lib x = true
  ns : nsT x (fun q => (env q).isSome) = true
  tl : ts.length + 3 * sizeT x ≤ 90000
  bl : bs.length + 3 * sizeT x ≤ 90000
  nl : n + sizeT x ≤ 90000
def NexC (s : Nc) (x : Nd) : Prop := ∀ (pb po : Nat) (X0 : Nat → Prop) (n : Nat) (env : ByteArray → Option Pm) (ts : List Pm) (ut : Value) (bs : List Bd) (ub : Value) (w : World) (Ak : Option Addr) (ck : Nat), Ns s pb po X0 n env ts ut bs ub w → Npre s x Ak env ts bs n →
  Calls Tryd.prog 45 #[.pointer (some ⟨s.V, 0, none⟩), .agg #[.int .u8 x.kind, .int .i64 x.num, .string x.name, .slice Ak x.kids.length ck], .pointer (some ⟨pb, po, none⟩)] w (RetNx s pb po X0 n env ut bs ub (nE s.lib x env ts) (sizeT x) w)

theorem two_boxN (w : World) (c4 c2 : Array Value) : Below w.heap.size w ((w.alloc (Obj.cells c4 53)).alloc (Obj.cells c2 65)) ∧ Bx ((w.alloc (Obj.cells c4 53)).alloc (Obj.cells c2 65)) w.heap.size c4 ∧ Bx ((w.alloc (Obj.cells c4 53)).alloc (Obj.cells c2 65)) (w.heap.size + 1) c2 ∧ ((w.alloc (Obj.cells c4 53)).alloc (Obj.cells c2 65)).heap.size = w.heap.size + 2 := by
  have b1 := below_box w (Obj.cells c4 53)
  have b2 := below_box (w.alloc (Obj.cells c4 53)) (Obj.cells c2 65)
  have h2 := bx_new (w.alloc (Obj.cells c4 53)) c2 65
  rw [show (w.alloc (Obj.cells c4 53)).heap.size = w.heap.size + 1 by simp] at h2
  exact ⟨below_step b1 b1.size b2, (bx_new w c4 _).below b2, h2, by simp⟩
/-- The end: the result's box. -/
theorem nx_fin {W w5 : World} {u1 ub1 : Value} {ts1 : List Pm} {bs1 : List Bd} {n1 : Nat} (q : s.O < w.heap.size ∧ s.V < w.heap.size ∧ s.M < w.heap.size ∧ pb < w.heap.size ∧ (∀ g, ut.ownBlock = some g → g < w.heap.size) ∧ (∀ g, ub.ownBlock = some g → g < w.heap.size) ∧ s.W0.heap.size ≤ w.heap.size) (hb : Below w.heap.size w W) (z2 : W.heap.size = w.heap.size + 2)
    (hm : Ns s pb po (fun k => X0 k ∨ (w.heap.size ≤ k ∧ k < W.heap.size)) n1 env ts1 u1 bs1 ub1 w5) (hf : Fr W w5 (Ng s pb ut ub)) (hn1 : Nwb W ut u1) (hn4 : Nwb W ub ub1) (v0 v1 : Value) :
    Ns s pb po X0 n1 env ts1 u1 bs1 ub1 ((w5.setCell ⟨w.heap.size + 1, 0, none⟩ v0).setCell ⟨w.heap.size + 1, 1, none⟩ v1) ∧ Fr w ((w5.setCell ⟨w.heap.size + 1, 0, none⟩ v0).setCell ⟨w.heap.size + 1, 1, none⟩ v1) (Ng s pb ut ub) ∧ Nwb w ut u1 ∧ Nwb w ub ub1 := by
  refine ⟨hm.close (Fr.set2 w5 (w.heap.size + 1) v0 v1) (fun k e => .inr ⟨by omega, by omega⟩) (fun k e => ?_) (fun k e => .inl e), (((Fr.of_below hb (Ng s pb ut ub)).trans hf fun _ _ e => e)).trans (Fr.set2 w5 (w.heap.size + 1) v0 v1) (fun k hk e => by omega), hn1.mono (by omega), hn4.mono (by omega)⟩
  subst e
  refine ⟨by omega, by omega, by omega, by omega, fun e => ?_, fun e => ?_, by omega⟩
  · rcases hn1 _ e with e | e
    · have := q.2.2.2.2.1 _ e; omega
    · omega
  · rcases hn4 _ e with e | e
    · have := q.2.2.2.2.2.1 _ e; omega
    · omega

set_option maxRecDepth 100000 in
set_option maxHeartbeats 1000000 in
theorem nex_81 {x : Nd} (h81 : x.kind = 81) : NexC s x := by
  intro pb po X0 n env ts ut bs ub w Ak ck h hp
  obtain ⟨hbx, hx4, hx6, hsz⟩ := two_boxN w #[.int .u8 x.kind, .int .i64 x.num, .string x.name, .slice Ak x.kids.length ck] #[.string ⟨#[]⟩, .bool false]
  have HN := Lib.hid (h.open hbx)
  have HX4 := Lib.hid hx4
  have HX6 := Lib.hid hx6
  have HB := Lib.hid hbx
  have HSZ := Lib.hid hsz
  have HL0 := Lib.hid h.olds
  have hnm := hp.fit.facts.2.2.1
  have HR := Lib.hid (nE_81 (lib := s.lib) h81 env ts)
  clear h hp hbx hx4 hx6 hsz
  rw [h81] at HX4 HN HB HSZ HX6 ⊢
  go_enter Tryd.func45, Tryd.ntmps45
  go_upto_region 1 with fail
  generalize (w.alloc _).alloc _ = W at HX4 HX6 HN HB HSZ ⊢
  obtain ⟨a0, a1, a2, a3, _⟩ := HX4.out.four
  obtain ⟨y0, y1, f0, f1⟩ := HX6.out.two
  obtain ⟨x0, x1, x2, x3, _⟩ := Bx.four HN.out.v
  have hlt4 := HX4.out.lt
  have hlt6 := HX6.out.lt
  have hltv := HN.out.v.lt
  have HM := Lib.hid HN.out.drew.m
  have HPV := Lib.hid (show ((env x.name).map pV).getD zP = .agg #[.string ((env x.name).getD ⟨eS, false⟩).name, .bool ((env x.name).getD ⟨eS, false⟩).list] by cases env x.name <;> rfl)
  go_upto_region 3 with fail
  have hlook := mapP_look (t := 106) Tryd.underlying106 HM.out x.name (by unfold maxLen; omega)
  rw [HPV.out] at hlook
  go_region
  all_goals
    have HD := Lib.hid (nx_fin (n1 := n) HL0.out HB.out HSZ.out HN.out (Fr.refl W (Ng s pb ut ub)) (Nwb.refl W ut) (Nwb.refl W ub) (.string ((env x.name).getD ⟨eS, false⟩).name) (.bool ((env x.name).getD ⟨eS, false⟩).list))
    have HBF := Lib.hid (HX6.out.set2 (.string ((env x.name).getD ⟨eS, false⟩).name) (.bool ((env x.name).getD ⟨eS, false⟩).list))
    clear HX4 HX6 HN HB HSZ HL0 HM HPV a0 a1 a2 a3 x0 x1 x2 x3 hlook
    generalize World.setCell _ _ _ = WF at HD HBF ⊢
    obtain ⟨g0, g1, _⟩ := HBF.out.two
    go_wp2_with fail
    exact bodyPost_ret (v := .agg #[.string ((env x.name).getD ⟨eS, false⟩).name, .bool ((env x.name).getD ⟨eS, false⟩).list]) (by simp [results, Tryd.results45, go_sem, g0, g1]) rfl (by rw [HR.out]; exact ⟨rfl, n, ut, ub, by omega, by rw [List.append_nil]; exact HD.out.1.drew, HD.out.2.1.trans (Fr.of_below (belowDrawnP (Below.refl _ WF)) (Ng s pb ut ub)) (fun _ _ e => e), HD.out.2.2⟩)

end Go.Proofs.YtcoeakdpcigogaaDoor
