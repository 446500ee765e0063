/-
  The contract of fun.check.
-/
import Derived.Test.YtcoeakdpcigogaaDoorFunCheck
import Derived.Laws.EntriesVeiled
namespace Go.Proofs.YtcoeakdpcigogaaDoor
open Go.ChangeShapes Go.WideShapes Go.ChangeAt Go.RowKit Go.Sort

/-- What the parameters make visible: the last binding counts. -/
def envF (l : List Pm) : ByteArray → Option Bool := l.foldl (fun env p => setE env p.name (some p.list)) (fun _ => none)
theorem envF_snoc (l : List Pm) (p : Pm) : envF (l ++ [p]) = setE (envF l) p.name (some p.list) := by
  unfold envF; rw [List.foldl_append]; rfl

/-- The world that fun.check lays ahead of its loop. -/
structure ChkW (w W : World) (A : Option Addr) (cap n : Nat) (x : Nd) (Ak : Option Addr) (ck : Nat) : Prop where
  hb : Below w.heap.size w W
  p1 : W.cell? ⟨w.heap.size, 0, none⟩ = some (.slice A n cap)
  bx : NdB W (w.heap.size + 1) x Ak ck
  p2 : W.cell? ⟨w.heap.size + 1 + 1 + 1, 0, none⟩ = some (.map (some (w.heap.size + 1 + 1)))
  hM : MapB W (w.heap.size + 1 + 1) 0 0 (fun _ => none)
  sz : w.heap.size + 4 ≤ W.heap.size
theorem chkW_made (w : World) (A : Option Addr) (cap n : Nat) (x : Nd) (Ak : Option Addr) (ck : Nat) (hK : NdsAt w Ak x.kids) (T1 T2 T3 : TypeId) :
    ChkW w ((((w.alloc (Obj.cells #[Value.slice A n cap] T1)).alloc (Obj.cells #[Value.int IntKind.u8 ↑x.kind, Value.int IntKind.i64 x.num, Value.string x.name, Value.slice Ak x.kids.length ck] T2)).alloc (Obj.map #[] 0)).alloc (Obj.cells #[Value.map (some (w.heap.size + 1 + 1))] T3)) A cap n x Ak ck := by
  have b1 := below_box w (Obj.cells #[Value.slice A n cap] T1)
  have x1 := ndB_box (w.alloc (Obj.cells #[Value.slice A n cap] T1)) T2 x Ak ck (hK.mono b1)
  have s1 : (w.alloc (Obj.cells #[Value.slice A n cap] T1)).heap.size = w.heap.size + 1 := by simp
  have b2 := below_box (w.alloc (Obj.cells #[Value.slice A n cap] T1)) (Obj.cells #[Value.int IntKind.u8 ↑x.kind, Value.int IntKind.i64 x.num, Value.string x.name, Value.slice Ak x.kids.length ck] T2)
  have m3 := mapB_made ((w.alloc (Obj.cells #[Value.slice A n cap] T1)).alloc (Obj.cells #[Value.int IntKind.u8 ↑x.kind, Value.int IntKind.i64 x.num, Value.string x.name, Value.slice Ak x.kids.length ck] T2))
  have s2 : ((w.alloc (Obj.cells #[Value.slice A n cap] T1)).alloc (Obj.cells #[Value.int IntKind.u8 ↑x.kind, Value.int IntKind.i64 x.num, Value.string x.name, Value.slice Ak x.kids.length ck] T2)).heap.size = w.heap.size + 1 + 1 := by simp
  rw [s1] at x1
  rw [s2] at m3
  have b3 := below_box ((w.alloc (Obj.cells #[Value.slice A n cap] T1)).alloc (Obj.cells #[Value.int IntKind.u8 ↑x.kind, Value.int IntKind.i64 x.num, Value.string x.name, Value.slice Ak x.kids.length ck] T2)) (Obj.map #[] 0)
  have b4 := below_box (((w.alloc (Obj.cells #[Value.slice A n cap] T1)).alloc (Obj.cells #[Value.int IntKind.u8 ↑x.kind, Value.int IntKind.i64 x.num, Value.string x.name, Value.slice Ak x.kids.length ck] T2)).alloc (Obj.map #[] 0)) (Obj.cells #[Value.map (some (w.heap.size + 1 + 1))] T3)
  refine ⟨below_step (below_step (below_step b1 (by simp) b2) (by simp; omega) b3) (by simp; omega) b4, ?_, (x1.mono b3).mono b4, ?_, m3.below b4, by simp⟩
  · exact below_cell b4 (below_cell b3 (below_cell b2 (by simp [go_sem])))
  · simp [go_sem]

set_option maxRecDepth 100000 in
set_option maxHeartbeats 2000000 in
theorem check_any (lib : List Fn1) (A : Option Addr) (cap : Nat) (ps : List Pm) (Ap : Option Addr) (cp : Nat) (x : Nd) (Ak : Option Addr) (ck : Nat) (w : World) (hL : LibAt w A lib) (hF : LibFit lib) (hP : FewParams lib) (hPs : PmsAt w Ap ps) (hPF : PmFit ps) (hfit : NdFit x) (hform : formT x = true) (hK : NdsAt w Ak x.kids) (hn : ps.length + sizeT x ≤ 1000000) :
    Calls Tryd.prog 50 #[.slice A lib.length cap, .slice Ap ps.length cp, .agg #[.int .u8 x.kind, .int .i64 x.num, .string x.name, .slice Ak x.kids.length ck]] w fun e w' => e = .returned (.tuple #[.bool (chkT lib x (envF ps)).1, .int .i64 (chkT lib x (envF ps)).2]) ∧ Below w.heap.size w w' := by
  have hmm := @run_makeMap Tryd.prog
  have hpl := hPF.1
  have HPF := Lib.hid hPF.2
  have HPs := Lib.hid hPs
  have HL := Lib.hid hL
  have HK := Lib.hid hK
  have hCW := chkW_made w A cap lib.length x Ak ck hK 22 53 122
  clear hPF hPs hL hK
  go_enter Tryd.func50, Tryd.ntmps50
  go_wp2_with fail
  generalize World.alloc _ _ = W at hCW ⊢
  have hCW := Lib.hid hCW
  go_loopw [15] (fun i wr => ∃ (k sz : Nat), k ≤ ps.length ∧ i = .int .i64 k ∧ Hid (MapB wr (w.heap.size + 1 + 1) k sz (envF (ps.take k))) ∧ Hid (W.grownBy wr (some (w.heap.size + 1 + 1)))) (fun i _ => ps.length - (intOf i).toNat)
  case atStart => exact ⟨0, 0, by omega, rfl, hCW.out.hM, Lib.hid (grown_of_below (Below.refl _ _) _)⟩
  case round =>
    obtain ⟨k, sz, hk, rfl, HM, hg⟩ := hrel
    have hb : Below w.heap.size w wr := hCW.out.hb.grown hg.out hCW.out.hb.size (fun j hj => by cases hj; omega)
    have hsW := hCW.out.sz
    have hsz := hg.out.size
    have p2 := grown_cell hg.out hCW.out.p2 (by simp)
    have hbv : w.heap.size + 1 + 1 + 1 < wr.heap.size := by omega
    by_cases hin : k < ps.length
    · obtain ⟨b, o, rfl, c0, c1⟩ := (HPs.out.mono hb).at_ hin
      have hget : ps[k]? = some ps[k] := List.getElem?_eq_getElem hin
      have htk := List.take_succ_eq_append_getElem hin
      have hps := HPF.out k _ hget
      generalize ps[k] = p at *
      have HTK := Lib.hid (show envF (ps.take (k + 1)) = setE (envF (ps.take k)) p.name (some p.list) by rw [htk, envF_snoc])
      clear hget htk
      have hlt : b < wr.heap.size := block_lt_of_cell c0
      have hbx := below_box wr (Obj.cells #[.string p.name, .bool p.list] 65)
      have HM2 := Lib.hid (HM.out.below hbx)
      go_wp2_with (at_mapUpdate; go_loud (refine wpList_put_B _ rfl _ _ _ 122 (.inl rfl) Tryd.underlying122 (w.heap.size + 1 + 1) k sz _ rfl HM2.out (by unfold maxLen; omega) p.name p.list rfl rfl hps ?_; intro w5 HM5 hT5))
      rw [← HTK.out] at HM5
      exact ⟨⟨k + 1, _, by omega, by go_num, HM5, grown_trans (grown_trans hg.out (grown_of_below hbx _)) hT5.grown⟩, by simp [intOf]; omega⟩
    · obtain rfl : k = ps.length := by omega
      rw [List.take_length] at HM
      have b0 := grown_cell hg.out hCW.out.bx.b0 (by simp)
      have b1 := grown_cell hg.out hCW.out.bx.b1 (by simp)
      have b2 := grown_cell hg.out hCW.out.bx.b2 (by simp)
      have b3 := grown_cell hg.out hCW.out.bx.b3 (by simp)
      have p1 := grown_cell hg.out hCW.out.p1 (by simp; omega)
      have hl1 : w.heap.size + 1 < wr.heap.size := by omega
      have hbx := below_box wr (Obj.cells #[.func (.func 65) #[] #[.pointer (some ⟨w.heap.size, 0, none⟩), .pointer (some ⟨w.heap.size + 1 + 1 + 1, 0, none⟩), .pointer (some ⟨wr.heap.size, 0, none⟩)]] 136)
      have hcf : (wr.alloc (Obj.cells #[.func (.func 65) #[] #[.pointer (some ⟨w.heap.size, 0, none⟩), .pointer (some ⟨w.heap.size + 1 + 1 + 1, 0, none⟩), .pointer (some ⟨wr.heap.size, 0, none⟩)]] 136)).cell? ⟨wr.heap.size, 0, none⟩ = some (.func (.func 65) #[] #[.pointer (some ⟨w.heap.size, 0, none⟩), .pointer (some ⟨w.heap.size + 1 + 1 + 1, 0, none⟩), .pointer (some ⟨wr.heap.size, 0, none⟩)]) := by simp [go_sem]
      go_wp2_with fail
      generalize wr.alloc _ = W2 at hbx hcf ⊢
      have q2 := below_step hb hb.size hbx
      refine (check1_any lib A cap w.heap.size (w.heap.size + 1 + 1 + 1) wr.heap.size (w.heap.size + 1 + 1) w HL.out hF hP _ x (Nat.le_refl _) hfit hform (envF ps) ps.length Ak ck W2 ⟨q2, by omega, below_cell hbx p1, below_cell hbx p2, hcf, by omega, by omega, by omega⟩ HK.out ⟨_, HM.out.below hbx⟩ hn).mono ?_
      rintro e w3 ⟨rfl, hg3, _⟩
      go_wp2_with fail
      go_ret2
      exact ⟨rfl, q2.grown hg3 q2.size (fun j hj => by cases hj; omega)⟩

end Go.Proofs.YtcoeakdpcigogaaDoor
