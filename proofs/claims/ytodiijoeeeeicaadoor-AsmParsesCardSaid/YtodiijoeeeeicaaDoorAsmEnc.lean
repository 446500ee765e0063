/-
  The contract of asm.Encode.
-/
import Derived.Test.YtodiijoeeeeicaaDoorAsmPut
import Derived.Deep.DeepCutAuto
import Derived.Deep.RegionLaw
namespace Go.Proofs.YtodiijoeeeeicaaDoor
open Go.ChangeShapes Go.WideShapes Go.ChangeAt Go.RowKit Go.Sort

/-- A block that holds an instruction's operands. -/
def Ar (w : World) (v : Value) (x : Ins) : Prop := ∃ b, v = .pointer (some ⟨b, 0, none⟩) ∧ w.heap[b]? = some (Obj.cells #[.int .i64 x.a, .int .i64 x.b, .int .i64 x.c, .int .i64 x.d] 68)
theorem Ar.kept {w w' : World} {v : Value} {x : Ins} {c : Option Nat} (h : Ar w v x) (hk : Lib.OthersKept 5 c w w') (hc : ∀ b, v = .pointer (some ⟨b, 0, none⟩) → some b ≠ c) : Ar w' v x := by
  obtain ⟨b, e, h1⟩ := h
  exact ⟨b, e, hk b _ h1 (hc b e) (by intro c fz e; cases e)⟩
theorem Ar.get {w : World} {b : Nat} {x : Ins} (h : w.heap[b]? = some (Obj.cells #[.int .i64 x.a, .int .i64 x.b, .int .i64 x.c, .int .i64 x.d] 68)) {j : Nat} (hj : j < 4) : w.cell? ⟨b, j, none⟩ = some (.int .i64 (opdI x j)) := by
  have hb : Bx w b #[.int .i64 x.a, .int .i64 x.b, .int .i64 x.c, .int .i64 x.d] := ⟨_, h⟩
  match j, hj with
  | 0, _ => exact hb.cell rfl
  | 1, _ => exact hb.cell rfl
  | 2, _ => exact hb.cell rfl
  | 3, _ => exact hb.cell rfl
theorem Bx.five {w : World} {b : Nat} {u0 u1 u2 u3 u4 : Value} (h : Bx w b #[u0, u1, u2, u3, u4]) : w.cell? ⟨b, 0, none⟩ = some u0 ∧ w.cell? ⟨b, 1, none⟩ = some u1 ∧ w.cell? ⟨b, 2, none⟩ = some u2 ∧ w.cell? ⟨b, 3, none⟩ = some u3 ∧ w.cell? ⟨b, 4, none⟩ = some u4 ∧ True :=
  ⟨h.cell rfl, h.cell rfl, h.cell rfl, h.cell rfl, h.cell rfl, trivial⟩
theorem bt_set {w : World} {b : Nat} {cs : Array Value} {T : TypeId} (h : w.heap[b]? = some (.cells cs T (0, 0))) (j : Nat) (u : Value) : (w.setCell ⟨b, j, none⟩ u).heap[b]? = some (.cells (cs.setIfInBounds j u) T (0, 0)) := by
  have hlt := lt_of_block h
  have h' : w.heap[b] = .cells cs T (0, 0) := by simpa [Array.getElem?_eq_getElem hlt] using h
  show (w.heap.modify b _)[b]? = _
  rw [Array.getElem?_eq_getElem (by simpa using hlt), Array.getElem_modify_self, h']
  rfl
theorem bt_set4 {w : World} {b : Nat} {u0 u1 u2 u3 : Value} {T : TypeId} (h : w.heap[b]? = some (.cells #[u0, u1, u2, u3] T (0, 0))) (v0 v1 v2 v3 : Value) : ((((w.setCell ⟨b, 0, none⟩ v0).setCell ⟨b, 1, none⟩ v1).setCell ⟨b, 2, none⟩ v2).setCell ⟨b, 3, none⟩ v3).heap[b]? = some (.cells #[v0, v1, v2, v3] T (0, 0)) :=
  bt_set (bt_set (bt_set (bt_set h 0 v0) 1 v1) 2 v2) 3 v3
theorem below_set4 {B : Nat} {a w : World} (h : Below B a w) {b : Nat} (hb : B ≤ b) (v0 v1 v2 v3 : Value) : Below B a ((((w.setCell ⟨b, 0, none⟩ v0).setCell ⟨b, 1, none⟩ v1).setCell ⟨b, 2, none⟩ v2).setCell ⟨b, 3, none⟩ v3) := (((h.setCell (p := ⟨b, 0, none⟩) hb v0).setCell (p := ⟨b, 1, none⟩) hb v1).setCell (p := ⟨b, 2, none⟩) hb v2).setCell (p := ⟨b, 3, none⟩) hb v3
/-- A call that is made when the operands' block is laid already. -/
theorem zer4 {w w7 : World} (hb : Below (w.alloc (Obj.cells #[.int .i64 0, .int .i64 0, .int .i64 0, .int .i64 0] 68)).drew.heap.size (w.alloc (Obj.cells #[.int .i64 0, .int .i64 0, .int .i64 0, .int .i64 0] 68)).drew w7) :
    w7.heap[w.heap.size]? = some (Obj.cells #[.int .i64 0, .int .i64 0, .int .i64 0, .int .i64 0] 68) ∧ Below w.heap.size w w7 ∧ ∀ a v, w.cell? a = some v → w7.cell? a = some v := by
  have h1 : (w.alloc (Obj.cells #[.int .i64 0, .int .i64 0, .int .i64 0, .int .i64 0] 68)).drew.heap[w.heap.size]? = some (Obj.cells #[.int .i64 0, .int .i64 0, .int .i64 0, .int .i64 0] 68) := heap_alloc_new w _
  have h2 := belowDrawn (below_box w (Obj.cells #[.int .i64 0, .int .i64 0, .int .i64 0, .int .i64 0] 68))
  have h3 := below_step h2 h2.size hb
  exact ⟨by rw [hb.block _ (lt_of_block h1)]; exact h1, h3, fun a v h => below_cell h3 h⟩
theorem opsB_succ (x : Ins) (k : Nat) : opsB x (k + 1) = opsB x k ++ putL (opdI x k) (wid ((clsL x.op).getD k 0)) := by
  unfold opsB
  rw [List.range_succ, List.map_append, List.flatten_append]; simp
theorem wid_le (c : UInt8) : wid c ≤ 8 := by rcases wid_cases c with e | e | e <;> omega
theorem opsB_len (x : Ins) : ∀ k, (opsB x k).length ≤ 8 * k
  | 0 => by simp [opsB]
  | k + 1 => by
    rw [opsB_succ, List.length_append, putL_len]
    have := opsB_len x k
    have := wid_le ((clsL x.op).getD k 0)
    omega
theorem encI_len (x : Ins) : (encI x).length ≤ 33 := by
  unfold encI
  have := opsB_len x (clsL x.op).length
  have := (clsL_len x.op).2
  simp; omega
/-- What is written when k instructions are. -/
def encP (l : List Ins) (k : Nat) : List UInt8 := putL l.length 4 ++ ((l.take k).map encI).flatten
theorem encP_succ {l : List Ins} {k : Nat} (h : k < l.length) : encP l (k + 1) = encP l k ++ encI l[k] := by
  unfold encP
  rw [List.take_succ_eq_append_getElem h, List.map_append, List.flatten_append, List.append_assoc]; simp
theorem encP_len (l : List Ins) : ∀ k, k ≤ l.length → (encP l k).length ≤ 4 + 33 * k
  | 0, _ => by unfold encP; simp [putL_len]
  | k + 1, h => by
    rw [encP_succ (show k < l.length by omega), List.length_append]
    have := encP_len l k (by omega)
    have := encI_len (l[k]'(by omega))
    omega
theorem encP_all (l : List Ins) : encP l l.length = encA l := by unfold encP encA; rw [List.take_length]
/-- What the call hands back. -/
def RetE (l : List Ins) (w : World) (e : Ending) (w' : World) : Prop :=
  if checkA l = 0 then ∃ v, e = .returned (.tuple #[v, .int .i64 0]) ∧ WB w.heap.size w w' v (encA l)
  else e = .returned (.tuple #[.slice none 0 0, .int .i64 (checkA l)]) ∧ Below w.heap.size w w'
/-- Where the classes and the operands are laid. -/
def CutE (x : Ins) (w wc : World) (p q v : Value) (l : List UInt8) : Prop := p = .string (bs (clsL x.op)) ∧ Ar wc q x ∧ WB w.heap.size w wc v l
theorem bs_get (l : List UInt8) {j : Nat} (h : j < (bs l).size) : (bs l)[j]'h = l.getD j 0 := by
  rw [bs_size] at h
  rw [List.getD_eq_getElem?_getD, List.getElem?_eq_getElem h]; rfl

set_option maxRecDepth 100000 in
set_option maxHeartbeats 4000000 in
theorem encode_any (l : List Ins) (A : Option Addr) (cap : Nat) (w : World) (hC : CodeAt w A l) (hY : Bytes l) (hT : Tab w) (hl : l.length ≤ 140737488355328) :
    Calls Tryd.prog 15 #[.slice A l.length cap] w (RetE l w) := by
  have HC := Lib.hid hC
  have HCK := Lib.hid (check_any l A cap w hC hY hT hl)
  clear hC hT
  by_cases hk0 : checkA l = 0
  rotate_left
  · have HR := Lib.hid (fun (w' : World) (hb : Below w.heap.size w w') => show RetE l w (.returned (.tuple #[.slice none 0 0, .int .i64 (checkA l)])) w' from by unfold RetE; rw [if_neg hk0]; exact ⟨rfl, hb⟩)
    have hne : (checkA l != 0) = true := bne_iff_ne.2 hk0
    clear hk0
    generalize checkA l = ce at *
    go_enter Tryd.func15, Tryd.ntmps15
    go_wp2_with fail
    refine HCK.out.mono ?_
    rintro e w1 ⟨rfl, hb1⟩
    go_wp2_with fail
    exact bodyPost_ret (v := .tuple #[.slice none 0 0, .int .i64 ce]) (by simp [results, Tryd.results15]) rfl (HR.out _ hb1)
  · obtain ⟨hn, hval⟩ := checkA_zero hk0
    have HR := Lib.hid (fun (w' : World) (v : Value) (hb : WB w.heap.size w w' v (encA l)) => show RetE l w (.returned (.tuple #[v, .int .i64 0])) w' from by unfold RetE; rw [if_pos hk0]; exact ⟨v, rfl, hb⟩)
    have HV := Lib.hid hval
    rw [hk0] at HCK
    clear hk0 hval
    obtain ⟨i0, hi0, hz0, hz1, hz2⟩ := info_parts info_u8
    have HI := Lib.hid (And.intro hi0 (And.intro hz0 (And.intro hz1 hz2)))
    clear hi0 hz0 hz1 hz2
    go_enter Tryd.func15, Tryd.ntmps15
    go_wp2_with fail
    refine HCK.out.mono ?_
    rintro e w1 ⟨rfl, hb1⟩
    go_wp2_with fail
    refine (put_any w.heap.size (.slice none 0 0) [] l.length 4 w1 (by omega) hb1.size (World.ownsRow_nil _ _ _ _) (by simp)).mono ?_
    rintro e w2 ⟨u, rfl, hw2⟩
    have H2 := Lib.hid (show WB w.heap.size w w2 u (encP l 0) from ⟨hb1.trans hw2.1, by unfold encP; simpa using hw2.2.1, kept_below (Lib.OthersKept.refl _ _ _) hb1 |>.trans hw2.2.2⟩)
    clear hb1 hw2 HCK
    go_wp2_with fail
    go_loopw [5, 21] (fun v i wr => ∃ k : Nat, k ≤ l.length ∧ i = .int .i64 k ∧ Hid (WB w.heap.size w wr v (encP l k))) (fun _ i _ => l.length - (intOf i).toNat)
    case atStart => exact ⟨0, by omega, rfl, H2⟩
    case round =>
      obtain ⟨k, hk, rfl, hw⟩ := hrel
      have hsz := hw.out.1.size
      have hlen := encP_len l k hk
      by_cases hin : k < l.length
      · obtain ⟨b, o, rfl, hi⟩ := (HC.out.mono hw.out.1).at_ hin
        have hop := hY.at_ hin
        have HE := Lib.hid (encP_succ hin)
        have hlt := hi.lt
        obtain ⟨c0, c1, c2, c3, c4⟩ := id hi
        generalize l[k] = x at *
        have r1 : (0 : Int) ≤ k := by omega
        have r2 : (k : Int) < l.length := by omega
        have hcl := (clsL_len x.op).2
        go_upto_region 8 with fail
        have HS1 := Lib.hid (bx_new wr #[.int .u8 x.op, .int .i64 x.a, .int .i64 x.b, .int .i64 x.c, .int .i64 x.d] 43)
        have HX1 : Hid ((wr.alloc (Obj.cells #[.int .u8 x.op, .int .i64 x.a, .int .i64 x.b, .int .i64 x.c, .int .i64 x.d] 43)).heap[wr.heap.size]? = some (Obj.cells #[.int .u8 x.op, .int .i64 x.a, .int .i64 x.b, .int .i64 x.c, .int .i64 x.d] 43)) := heap_alloc_new wr _
        have HW8 := Lib.hid (hw.out.below hsz (below_box wr (Obj.cells #[.int .u8 x.op, .int .i64 x.a, .int .i64 x.b, .int .i64 x.c, .int .i64 x.d] 43)))
        have hszi : wr.heap.size + 1 = (wr.alloc (Obj.cells #[.int .u8 x.op, .int .i64 x.a, .int .i64 x.b, .int .i64 x.c, .int .i64 x.d] 43)).heap.size := by simp
        clear c0 c1 c2 c3 c4 hi hw HS1
        generalize wr.alloc _ = Wi at HX1 HW8 hszi ⊢
        have hs8 := HW8.out.1.size
        have HO := Lib.hid (WB.below (B := w.heap.size) (show WB w.heap.size Wi Wi u5 (encP l k) from ⟨Below.refl _ _, HW8.out.2.1, Lib.OthersKept.refl _ _ _⟩) hs8 (below_box Wi (Obj.cells #[.int .u8 x.op] 5)))
        have hs9 : w.heap.size ≤ (Wi.alloc (Obj.cells #[.int .u8 x.op] 5)).heap.size := by simp; omega
        have HB := Lib.hid (show (x.op : Int) = ((UInt8.ofNat x.op).toNat : Int) by rw [UInt8.toNat_ofNat']; omega)
        have d0 : Wi.cell? ⟨wr.heap.size, 0, none⟩ = some (.int .u8 x.op) := Bx.cell (cs := #[.int .u8 x.op, .int .i64 x.a, .int .i64 x.b, .int .i64 x.c, .int .i64 x.d]) ⟨_, HX1.out⟩ rfl
        go_upto_region 9 with (at_builtin; go_loud (refine wpList_app _ rfl _ _ 29 rfl w.heap.size 5 i0 (.int .u8 0) 1 1 Tryd.underlying29 HI.out.1 HI.out.2.1 HI.out.2.2.1 HI.out.2.2.2 rfl (by decide) _ _ _ rfl HO.out.2.1 (some ⟨Wi.heap.size, 0, none⟩) 1 1 [.int .u8 x.op] rfl rfl (cells_newU Wi rfl _ _) (one_u8 _) (by unfold maxLen; omega) (by omega) hs9 ?_; intro v' w6 hown' hgrow _; rw [HB.out] at hown'; have NX := Lib.hid (HO.out.push hs9 _ hgrow hown'); clear hown' hgrow HO hs9))
        have HX6 := Lib.hid (NX.out.2.2 _ _ HX1.out (by simp) (by intro c fz e; cases e))
        have HW6 := Lib.hid (HW8.out.trans NX.out)
        obtain ⟨e0, e1, e2, e3, e4, _⟩ := Bx.five (show Bx w6 wr.heap.size #[.int .u8 x.op, .int .i64 x.a, .int .i64 x.b, .int .i64 x.c, .int .i64 x.d] from ⟨_, HX6.out⟩)
        have hl6 := lt_of_block HX6.out
        go_cut [8, 9] (fun p q wc => Hid (CutE x w wc p q v' (encP l k ++ [UInt8.ofNat x.op])))
        case first =>
          go_region_law (first
            | (go_simp; go_at_call 30; refine (classes_any x.op hop _).mono ?_; rintro e w7 ⟨rfl, rfl⟩)
            | (go_simp; go_at_call 31; refine (operandsA_any x.op x.a x.b x.c x.d (w6.alloc _).drew).mono ?_; rintro e w7 ⟨rfl, hb7⟩; obtain ⟨hz, hbw, hcl7⟩ := zer4 hb7; have HF := Lib.hid (And.intro hz hbw); have g0 := hcl7 _ _ e0; obtain ⟨z0, z1, z2, z3, f0, f1, f2, f3⟩ := Bx.four (show Bx w7 w6.heap.size _ from ⟨_, hz⟩); clear hz hbw hcl7 hb7)
            | (go_simp; go_at_call 31; refine (operandsA_any x.op x.a x.b x.c x.d w6.drew).mono ?_; rintro e w7 ⟨rfl, hb7⟩; have g0 := below_cell hb7 e0; have hb8 := Lib.hid (below_step (belowDrawn (Below.refl w6.heap.size w6)) (Nat.le_refl _) hb7); clear hb7)
            | fail)
          all_goals
            go_wp2_with fail
            go_meet
            first
              | exact ⟨rfl, ⟨_, rfl, bt_set4 HF.out.1 _ _ _ _⟩, HW6.out.below HW6.out.1.size (below_set4 HF.out.2 (Nat.le_refl _) _ _ _ _)⟩
              | exact ⟨rfl, ⟨_, rfl, heap_alloc_new _ _⟩, HW6.out.below HW6.out.1.size (hb8.out.alloc hb8.out.size _)⟩
        case rest =>
          obtain ⟨hp, hq, hw9⟩ := hcut.out
          clear hcut
          subst hp
          obtain ⟨bk, rfl, hbk⟩ := hq
          have HA := Lib.hid hbk
          have HW9 := Lib.hid hw9
          have hsz8 := bs_size (clsL x.op)
          have HLE := Lib.hid (show encP l (k + 1) = (encP l k ++ [UInt8.ofNat x.op]) ++ opsB x (clsL x.op).length by rw [HE.out, List.append_assoc]; rfl)
          have hq0 : (encP l k ++ [UInt8.ofNat x.op]).length ≤ 10000000 := by rw [List.length_append]; simp; omega
          clear hbk hw9 e0 e1 e2 e3 e4 d0 HX1 HX6 HW8 NX HW6 HE
          generalize encP l k ++ [UInt8.ofNat x.op] = q at *
          go_upto_region 11 with fail
          go_loopw [5, 37] (fun u i wr => ∃ j : Nat, j ≤ (clsL x.op).length ∧ i = .int .i64 j ∧ Hid (WB w.heap.size wc wr u (q ++ opsB x j))) (fun _ i _ => (clsL x.op).length - (intOf i).toNat)
          case atStart => exact ⟨0, Nat.zero_le _, rfl, by
            rw [show q ++ opsB x 0 = q by simp [opsB]]
            exact ⟨Below.refl _ _ |>.mono (Nat.le_refl _) , HW9.out.2.1, Lib.OthersKept.refl _ _ _⟩⟩
          case round =>
            obtain ⟨j, hj, rfl, hwm⟩ := hrel
            have hszm := Nat.le_trans HW9.out.1.size hwm.out.1.size
            have hll : (q ++ opsB x j).length ≤ 20000000 := by have := opsB_len x j; rw [List.length_append]; omega
            by_cases hjn : j < (clsL x.op).length
            · have hAj : wr.cell? ⟨bk, j, none⟩ = some (.int .i64 (opdI x j)) := Ar.get (hwm.out.2.2 _ _ HA.out (by simp) (by intro c fz e; cases e)) (by omega)
              have s1 : (0 : Int) ≤ j := by omega
              have s2 : (j : Int) < 4 := by omega
              have s3 : (j : Int) < (bs (clsL x.op)).size := by omega
              have HS := Lib.hid (show (q ++ opsB x j) ++ putL (opdI x j) (wid ((bs (clsL x.op))[j]'(by omega))) = q ++ opsB x (j + 1) by rw [bs_get, opsB_succ, List.append_assoc])
              have HD := Lib.hid (show WB w.heap.size wc wr.drew _ _ from ⟨belowDrawn hwm.out.1, hwm.out.2.1, hwm.out.2.2⟩)
              have HP := Lib.hid (put_any w.heap.size _ _ (opdI x j) (wid ((bs (clsL x.op))[j]'(by omega))) wr.drew (wid_le _) hszm HD.out.2.1 (by omega))
              rw [HS.out] at HP
              go_upto_region 13 with fail
              go_region_law (first
                | (go_simp; go_at_call 37; refine (width_any _ _).mono ?_; rintro e w7 ⟨rfl, rfl⟩)
                | (go_simp; go_at_call 36; refine HP.out.mono ?_; rintro e w8 ⟨v8, rfl, hw8⟩; have HW8 := Lib.hid (HD.out.trans hw8); clear hw8)
                | fail)
              all_goals
                go_wp2_with fail
                exact ⟨⟨j + 1, by omega, by go_num, HW8⟩, by simp [intOf]; omega⟩
            · obtain rfl : j = (clsL x.op).length := by omega
              have HN := Lib.hid (show WB w.heap.size w wr _ (encP l (k + 1)) from by rw [HLE.out]; exact HW9.out.trans hwm.out)
              go_wp2_with fail
              exact ⟨⟨k + 1, by omega, by go_num, HN⟩, by simp [intOf]; omega⟩
      · obtain rfl : k = l.length := by omega
        have HN := Lib.hid (show WB w.heap.size w wr _ (encA l) from by rw [← encP_all]; exact hw.out)
        go_wp2_with fail
        exact bodyPost_ret (v := .tuple #[u5, .int .i64 0]) (by simp [results, Tryd.results15]) rfl (HR.out _ _ HN.out)

end Go.Proofs.YtodiijoeeeeicaaDoor
