/-
  The contract of asm.put.
-/
import Derived.Test.YtodiijoeeeeicaaDoorAsmChk
import Derived.Lib.UnsafeStr
import Derived.Lib.OthersKept
import Derived.Deep.DeepCutAuto
namespace Go.Proofs.YtodiijoeeeeicaaDoor
open Go.ChangeShapes Go.WideShapes Go.ChangeAt Go.RowKit Go.Sort

theorem info_u8 : (Tryd.prog.info? 5).map (fun i => (i.zero, i.size, i.bytes)) = some (some (.int .u8 0), 1, 1) := by kernel_rfl
theorem kept_below {e : TypeId} {b : Option Nat} {W w w' : World} (h : Lib.OthersKept e b W w) (hb : Below w.heap.size w w') : Lib.OthersKept e b W w' := fun k o hk hn ho => by
  have h1 := h k o hk hn ho
  rw [hb.block k (Array.getElem?_eq_some_iff.1 h1).1]; exact h1
theorem row_kind {w : World} {B : Nat} {e : TypeId} {v : Value} {n : Nat} {xs : List Value} (h : w.ownsRow B e 1 v n xs) : ∀ g, v.ownBlock = some g → ∃ c fz, w.heap[g]? = some (.cells c e fz) := Lib.ownsRowF_kind (World.ownsRowF_of h)
/-- A row of bytes that the call has made. -/
def WB (B : Nat) (W wr : World) (v : Value) (l : List UInt8) : Prop := Below B W wr ∧ wr.ownsRow B 5 1 v l.length (Lib.byteCells l) ∧ Lib.OthersKept 5 none W wr
theorem WB.below {B : Nat} {W wc wx : World} {v : Value} {l : List UInt8} (h : WB B W wc v l) (hB : B ≤ wc.heap.size) (hb : Below wc.heap.size wc wx) : WB B W wx v l := ⟨below_step h.1 hB hb, own_below h.2.1 hb, kept_below h.2.2 hb⟩
theorem WB.push {B : Nat} {W wc w' : World} {v v' : Value} {l : List UInt8} (h : WB B W wc v l) (hB : B ≤ wc.heap.size) (c : UInt8) (hg : wc.grownBy w' v.ownBlock) (hown : w'.ownsRow B 5 1 v' (l.length + 1) (Lib.byteCells l ++ [.int .u8 c.toNat])) : WB B W w' v' (l ++ [c]) :=
  ⟨h.1.grown hg hB (fun k hk => own_block_geB h.2.1 k hk), by rw [List.length_append, Lib.byteCells_append]; exact hown, h.2.2.grown hg (row_kind h.2.1)⟩
theorem WB.trans {B : Nat} {W w1 w2 : World} {v v' : Value} {l l' : List UInt8} (h : WB B W w1 v l) (h2 : WB B w1 w2 v' l') : WB B W w2 v' l' := ⟨h.1.trans h2.1, h2.2.1, h.2.2.trans h2.2.2⟩
theorem one_u8 (v : Int) : ∀ u : Value, u ∈ [Value.int .u8 v] → u.oneCell' = true := by
  intro u hu
  simp at hu
  subst hu; rfl
theorem put_step (x : Int) {n m : Nat} (h : m < n) : (putL x n).take (n - (m + 1)) ++ [byteOf (x / 256 ^ m)] = (putL x n).take (n - m) := by
  have key : ∀ n m, m < n → (putL x n)[n - (m + 1)]? = some (byteOf (x / 256 ^ m)) := by
    intro n
    induction n with
    | zero => intro m h; omega
    | succ n ih =>
      intro m h
      rw [putL]
      by_cases e : m = n
      · subst e; simp
      · have := ih m (by omega)
        rw [show n + 1 - (m + 1) = (n - (m + 1)) + 1 by omega, List.getElem?_cons_succ]
        exact this
  have hl := putL_len x n
  have hk := key n m h
  obtain ⟨hlt, he⟩ := List.getElem?_eq_some_iff.1 hk
  rw [show n - m = (n - (m + 1)) + 1 by omega, List.take_succ_eq_append_getElem hlt, he]
def RetB (B : Nat) (w : World) (l : List UInt8) (e : Ending) (w' : World) : Prop := ∃ v, e = .returned v ∧ WB B w w' v l
set_option maxRecDepth 100000 in
set_option maxHeartbeats 4000000 in
theorem put_any (B : Nat) (v : Value) (l : List UInt8) (x : Int) (n : Nat) (w : World) (hn : n ≤ 8) (hB : B ≤ w.heap.size) (ho : w.ownsRow B 5 1 v l.length (Lib.byteCells l)) (hl : l.length ≤ 1000000000) :
    Calls Tryd.prog 36 #[v, .int .i64 x, .int .i64 n] w (RetB B w (l ++ putL x n)) := by
  have H0 := Lib.hid (show WB B w w v (l ++ (putL x n).take (n - n)) from by rw [Nat.sub_self, List.take_zero, List.append_nil]; exact ⟨Below.refl _ _, ho, Lib.OthersKept.refl _ _ _⟩)
  have hpl := putL_len x n
  obtain ⟨i0, hi0, hz0, hz1, hz2⟩ := info_parts info_u8
  have HI := Lib.hid (And.intro hi0 (And.intro hz0 (And.intro hz1 hz2)))
  clear hi0 hz0 hz1 hz2 ho
  go_enter Tryd.func36, Tryd.ntmps36
  go_wp2
  go_loopw [0, 2] (fun u i wr => ∃ m : Nat, m ≤ n ∧ i = .int .i64 ((m : Int) - 1) ∧ Hid (WB B w wr u (l ++ (putL x n).take (n - m)))) (fun _ i _ => (intOf i + 1).toNat)
  case atStart => exact ⟨n, Nat.le_refl _, rfl, H0⟩
  case round =>
    obtain ⟨m, hm, rfl, hw⟩ := hrel
    cases m with
    | zero =>
      rw [Nat.sub_zero, List.take_of_length_le (by omega)] at hw
      go_wp2
      exact bodyPost_ret (v := u0) (by simp [results, Tryd.results36]) rfl ⟨_, rfl, hw.out⟩
    | succ m =>
      have HS := Lib.hid (put_step x (show m < n by omega))
      have hll : (l ++ (putL x n).take (n - (m + 1))).length ≤ 1000000008 := by rw [List.length_append, List.length_take]; omega
      have HE := Lib.hid (show (l ++ (putL x n).take (n - (m + 1))) ++ [byteOf (x / 256 ^ m)] = l ++ (putL x n).take (n - m) by rw [List.append_assoc, HS.out])
      have HB := Lib.hid (show x / 2 ^ (8 * m) % 256 = ((byteOf (x / 256 ^ m)).toNat : Int) by rw [byteOf_toNat, Int.pow_mul]; rfl)
      generalize l ++ (putL x n).take (n - (m + 1)) = q at *
      have hsz := Nat.le_trans hB hw.out.1.size
      have HO := Lib.hid (hw.out.below hsz (below_box wr (Obj.cells #[.int .u8 (x / 2 ^ (8 * m) % 256)] 5)))
      have hs2 := Nat.le_trans hB HO.out.1.size
      go_wp2_with (at_builtin; go_loud (refine wpList_app _ rfl _ _ 29 rfl B 5 i0 (.int .u8 0) 1 1 Tryd.underlying29 HI.out.1 HI.out.2.1 HI.out.2.2.1 HI.out.2.2.2 rfl (by decide) _ _ _ rfl HO.out.2.1 (some ⟨wr.heap.size, 0, none⟩) 1 1 [.int .u8 (x / 2 ^ (8 * m) % 256)] rfl rfl (cells_newU wr rfl _ _) (one_u8 _) (by unfold maxLen; omega) (by omega) hs2 ?_; intro v' w6 hown' hgrow _; rw [HB.out] at hown'; have NX := Lib.hid (HO.out.push hs2 _ hgrow hown'); clear hown' hgrow HO hs2))
      exact ⟨⟨m, by omega, by go_num, by rw [← HE.out]; exact NX⟩, by simp [intOf]⟩

end Go.Proofs.YtodiijoeeeeicaaDoor
