/-
  The laws' own examples of layer 23 hold: awake returns true.
-/
import Derived.Test.YthakiaicnhkfjaaDoorImgSame
namespace Go.Proofs.YthakiaicnhkfjaaDoor
open Go.ChangeShapes Go.WideShapes Go.ChangeAt Go.RowKit Go.Sort

theorem code_new (w : World) (T : TypeId) (l : List Ins) (cs : Array Value) (hcs : cs = (cellsL l).toArray) : CodeAt (w.alloc (Obj.cells cs T)) (some ⟨w.heap.size, 0, none⟩) l := fun k x hk => by
  subst hcs
  refine ⟨w.heap.size, 0, rfl, ?_⟩
  have hget : ∀ r, r < 5 → (w.alloc (Obj.cells (cellsL l).toArray T)).cell? ⟨w.heap.size, k * 5 + r, none⟩ = x.five[r]? := fun r hr => by
    rw [← cellsL_get l k r x hk hr]
    simp [go_sem]
  rw [Nat.zero_add]
  exact ⟨hget 0 (by omega), hget 1 (by omega), hget 2 (by omega), hget 3 (by omega), hget 4 (by omega)⟩

def exA : List Ins := [⟨22, 2, 0, 0, 0⟩, ⟨0, 0, 0, 0, 0⟩, ⟨25, 0, 0, 0, 0⟩]
def exB : List Ins := [⟨30, 1, 0, 0, 0⟩, ⟨32, 2, 0, 0, 0⟩, ⟨33, 1, 0, 0, 0⟩]
def exC : List Ins := [⟨32, 1, 0, 0, 0⟩, ⟨33, 0, 0, 0, 0⟩, ⟨30, 0, 0, 0, 0⟩]
theorem exA_ok : okImg exA 0 1 = true := by kernel_rfl
theorem exB_ok : okImg exB 0 1 = true := by kernel_rfl
theorem exA_inv : invL exA = exA := by decide
theorem exB_inv : invL exB = exC := by decide
theorem bytes_of {l : List Ins} (h : l.all (fun x => decide (x.op < 256)) = true) : Bytes l := fun k x hk => by
  have := List.all_eq_true.1 h x (List.mem_of_getElem? hk)
  simpa using this
theorem exA_bytes : Bytes exA := bytes_of (by decide)
theorem exB_bytes : Bytes exB := bytes_of (by decide)

set_option maxRecDepth 100000 in
set_option maxHeartbeats 1000000 in
theorem awake23_any (w : World) (hT : Tab w) :
    Calls Tryd.prog 12 #[] w fun e w' => e = .returned (.bool true) ∧ Below w.heap.size w w' := by
  go_enter Tryd.func12, Tryd.ntmps12
  go_wp2_with fail
  generalize hW1 : w.alloc _ = W1
  have cA1 : CodeAt W1 (some ⟨w.heap.size, 0, none⟩) exA := by rw [← hW1]; exact code_new w _ exA _ rfl
  have p1 : Below w.heap.size w W1 := by rw [← hW1]; exact below_box _ _
  have z1 : W1.heap.size = w.heap.size + 1 := by rw [← hW1]; simp
  clear hW1
  generalize hW2 : W1.alloc _ = W2
  have iA2 : ImgAt W2 W1.heap.size (some ⟨w.heap.size, 0, none⟩) 3 0 1 exA := by rw [← hW2]; exact imgAt_box W1 _ _ 3 0 1 exA cA1
  have p2 : Below w.heap.size w W2 := by rw [← hW2]; exact p1.alloc p1.size _
  have z2 : W2.heap.size = w.heap.size + 1 + 1 := by rw [← hW2]; simp [z1]
  clear hW2 p1 cA1
  generalize hW3 : W2.alloc _ = W3
  have cB3 : CodeAt W3 (some ⟨W2.heap.size, 0, none⟩) exB := by rw [← hW3]; exact code_new W2 _ exB _ rfl
  have iA3 : ImgAt W3 W1.heap.size (some ⟨w.heap.size, 0, none⟩) 3 0 1 exA := iA2.mono (by rw [← hW3]; exact below_box _ _)
  have p3 : Below w.heap.size w W3 := by rw [← hW3]; exact p2.alloc p2.size _
  have z3 : W3.heap.size = w.heap.size + 1 + 1 + 1 := by rw [← hW3]; simp [z2]
  clear hW3 p2 iA2
  generalize hW4 : W3.alloc _ = W4
  have iB4 : ImgAt W4 W3.heap.size (some ⟨W2.heap.size, 0, none⟩) 3 0 1 exB := by rw [← hW4]; rw [z2]; exact imgAt_box W3 _ _ 3 0 1 exB (by rw [← z2]; exact cB3)
  have iA4 : ImgAt W4 W1.heap.size (some ⟨w.heap.size, 0, none⟩) 3 0 1 exA := iA3.mono (by rw [← hW4]; exact below_box _ _)
  have p4 : Below w.heap.size w W4 := by rw [← hW4]; exact p3.alloc p3.size _
  clear hW4 p3 iA3 cB3
  rw [z1] at iA4
  rw [z3, z2] at iB4
  clear z1 z2 z3
  have lA : exA.length = 3 := rfl
  have lB : exB.length = 3 := rfl
  have lC : exC.length = 3 := rfl
  refine (invert_any exA _ 3 0 1 _ iA4.code exA_bytes (hT.mono p4) (by decide)).mono ?_
  rintro e w5 (⟨_, A5, c5, rfl, hC5, hb5⟩ | ⟨h, _⟩)
  rotate_left
  · rw [exA_ok] at h; cases h
  rw [exA_inv] at hC5
  have HC5 := Lib.hid hC5
  clear hC5
  have iA5 := iA4.mono hb5
  have iB5 := iB4.mono hb5
  have p5 := below_step p4 p4.size hb5
  clear iA4 iB4 p4 hb5
  obtain ⟨b0, b1, b2, bc⟩ := id iB5
  clear bc
  rw [lB] at b0
  have sB := iB5.lt
  have sA := iA5.lt
  go_wp2_with fail
  generalize hW6 : w5.alloc _ = W6
  have iX6 : ImgAt W6 w5.heap.size A5 c5 0 1 exA := by rw [← hW6]; exact imgAt_box w5 _ _ c5 0 1 exA HC5.out
  have hb6 : Below w5.heap.size w5 W6 := by rw [← hW6]; exact below_box _ _
  clear hW6
  have iA6 := iA5.mono hb6
  have iB6 := iB5.mono hb6
  have p6 := below_step p5 p5.size hb6
  clear iA5 iB5 p5 b0 b1 b2 hb6 HC5
  refine (invert_any exB _ 3 0 1 _ iB6.code exB_bytes (hT.mono p6) (by decide)).mono ?_
  rintro e w7 (⟨_, A7, c7, rfl, hC7, hb7⟩ | ⟨h, _⟩)
  rotate_left
  · rw [exB_ok] at h; cases h
  rw [exB_inv] at hC7
  have iX7 := iX6.mono hb7
  have iA7 := iA6.mono hb7
  have p7 := below_step p6 p6.size hb7
  clear iX6 iA6 iB6 p6 hb7
  have s7 := iX7.lt
  have s8 := iA7.lt
  obtain ⟨x0, x1, x2, xc⟩ := id iX7
  obtain ⟨a0, a1, a2, ac⟩ := id iA7
  clear xc ac
  rw [lA] at x0 a0
  have HC7 := Lib.hid hC7
  clear hC7
  have s71 : w5.heap.size < w7.heap.size + 1 := by omega
  have s72 : w5.heap.size < w7.heap.size + 1 + 1 := by omega
  have s81 : w.heap.size + 1 < w7.heap.size + 1 := by omega
  have s82 : w.heap.size + 1 < w7.heap.size + 1 + 1 := by omega
  go_wp2_with fail
  generalize hW8 : w7.alloc _ = W8
  have iY8 : ImgAt W8 w7.heap.size A7 c7 0 1 exC := by rw [← hW8]; exact imgAt_box w7 _ _ c7 0 1 exC HC7.out
  have p8 : Below w7.heap.size w7 W8 := by rw [← hW8]; exact below_box _ _
  have z8 : W8.heap.size = w7.heap.size + 1 := by rw [← hW8]; simp
  clear hW8
  generalize hW9 : W8.alloc _ = W9
  have cC9 : CodeAt W9 (some ⟨W8.heap.size, 0, none⟩) exC := by rw [← hW9]; exact code_new W8 _ exC _ rfl
  have p9 : Below w7.heap.size w7 W9 := by rw [← hW9]; exact p8.alloc p8.size _
  have iY9 := iY8.mono (show Below W8.heap.size W8 W9 by rw [← hW9]; exact below_box _ _)
  have z9 : W9.heap.size = w7.heap.size + 1 + 1 := by rw [← hW9]; simp [z8]
  clear hW9 iY8 p8
  generalize hW10 : W9.alloc _ = W10
  have iW10 : ImgAt W10 W9.heap.size (some ⟨W8.heap.size, 0, none⟩) 3 0 1 exC := by rw [← hW10]; rw [z8]; exact imgAt_box W9 _ _ 3 0 1 exC (by rw [← z8]; exact cC9)
  have iY10 := iY9.mono (show Below W9.heap.size W9 W10 by rw [← hW10]; exact below_box _ _)
  have p10 : Below w7.heap.size w7 W10 := by rw [← hW10]; exact p9.alloc p9.size _
  clear hW10 iY9 p9 cC9
  rw [z9, z8] at iW10
  clear z8 z9
  have iX10 := iX7.mono p10
  have iA10 := iA7.mono p10
  have q10 := below_step p7 p7.size p10
  have sam : sameB exA exA 0 0 1 1 = true := by decide
  have samC : sameB exC exC 0 0 1 1 = true := by decide
  refine (same_any exA exA _ _ c5 3 0 0 1 1 _ iX10.code iA10.code (by decide) (by decide)).mono ?_
  rintro e w11 ⟨rfl, hb11⟩
  have iY11 := iY10.mono hb11
  have iW11 := iW10.mono hb11
  have q11 := below_step q10 q10.size hb11
  clear x0 x1 x2 a0 a1 a2
  obtain ⟨y0, y1, y2, yc⟩ := id iY11
  obtain ⟨v0, v1, v2, vc⟩ := id iW11
  rw [lC] at y0 v0
  clear yc vc
  go_wp2_with fail
  refine (same_any exC exC _ _ c7 3 0 0 1 1 _ iY11.code iW11.code (by decide) (by decide)).mono ?_
  rintro e w12 ⟨rfl, hb12⟩
  go_wp2
  go_ret
  exact ⟨ret_bool samC, below_step q11 q11.size hb12⟩

end Go.Proofs.YthakiaicnhkfjaaDoor
