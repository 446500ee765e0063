/-
  The contract of asm.Parse.
-/
import Derived.Test.YtodiijoeeeeicaaDoorAsmIns
import Derived.Test.YtodiijoeeeeicaaDoorAsmDecA
namespace Go.Proofs.YtodiijoeeeeicaaDoor
open Go.ChangeShapes Go.WideShapes Go.ChangeAt Go.RowKit Go.Sort

/-- What Parse hands back. -/
def RetPA (s : List UInt8) (w : World) (e : Ending) (w' : World) : Prop :=
  match parseA s with
  | .err n c => Below w.heap.size w w' ∧ e = .returned (.tuple #[.slice none 0 0, .int .i64 (n : Nat), .int .i64 c])
  | .ok l => ∃ v, e = .returned (.tuple #[v, .int .i64 0, .int .i64 0]) ∧ WI w.heap.size w w' v l ∧ Bytes l
/-- Where the loop stands. -/
def PrR (w wr : World) (u : Value) (s r : List UInt8) (acc : List Ins) : Prop :=
  WI w.heap.size w wr u acc ∧ Bytes acc ∧ acc.length ≤ 65536 ∧ r.length ≤ s.length ∧ parseA s = prsA (r.length + 1) r acc
theorem ownlen {w : World} {B : Nat} {e : TypeId} {v : Value} {l : List Ins} (h : w.ownsRow B e 5 v l.length (cellsL l)) : ∃ A c, v = .slice A l.length c := by
  obtain ⟨A, c, e, _⟩ := code_of_own h
  exact ⟨A, c, e⟩
theorem cutA_len (s : List UInt8) : (cutA s).1.length ≤ s.length ∧ (cutA s).2.1.length ≤ s.length := by
  unfold cutA
  cases hc : cutL s with
  | none => simp
  | some p =>
    obtain ⟨a, r⟩ := p
    obtain ⟨e, _⟩ := cutL_some hc
    have := congrArg List.length e
    simp at this ⊢
    omega
set_option maxRecDepth 100000 in
set_option maxHeartbeats 4000000 in
theorem parse_any (s : List UInt8) (w : World) (hs : s.length < 4294967281) (hT : Tab w) (hS : TabS w) (hW : Wld w) :
    Calls Tryd.prog 17 #[.string (bs s)] w (RetPA s w) := by
  have HTS := Lib.hid (And.intro hT (And.intro hS hW))
  have HSL := Lib.hid hs
  clear hT hS hW hs
  obtain ⟨i0, hi0, hz0, hz1, hz2⟩ := info_parts info_ins
  have HI := Lib.hid (And.intro hi0 (And.intro hz0 (And.intro hz1 hz2)))
  clear hi0 hz0 hz1 hz2
  have H0 := Lib.hid (show PrR w w (.slice none 0 0) s s [] from ⟨⟨Below.refl _ _, World.ownsRow_nil _ _ _ _⟩, fun k x h => by simp at h, by simp, Nat.le_refl _, rfl⟩)
  go_enter Tryd.func17, Tryd.ntmps17
  go_wp2_with fail
  go_loopw [0, 5] (fun t u wr => ∃ (r : List UInt8) (acc : List Ins), t = .string (bs r) ∧ Hid (PrR w wr u s r acc)) (fun t _ _ => match t with | .string q => q.size | _ => 0)
  case atStart => exact ⟨s, [], rfl, H0⟩
  case round =>
    obtain ⟨r, acc, rfl, hd⟩ := hrel
    obtain ⟨A, c, rfl⟩ := ownlen hd.out.1.2
    by_cases hr0 : r = []
    · subst hr0
      have HR := Lib.hid (show RetPA s w (.returned (.tuple #[.slice A acc.length c, .int .i64 0, .int .i64 0])) wr from by
        unfold RetPA
        rw [hd.out.2.2.2.2, prsA, if_pos rfl]
        exact ⟨_, rfl, hd.out.1, hd.out.2.1⟩)
      have hne : (bs ([] : List UInt8)).toList.isEmpty = true := by rw [ByteArray.toList_eq, data_bs]; rfl
      clear hd H0
      go_wp2_with fail
      exact bodyPost_ret (v := .tuple #[.slice A acc.length c, .int .i64 0, .int .i64 0]) (by simp [results, Tryd.results17]) rfl HR.out
    · have hne : (bs r).toList.isEmpty = false := by
        rw [ByteArray.toList_eq, data_bs]
        simpa using hr0
      have hst : parseA s = if 65536 ≤ acc.length then .err (acc.length + 1) 5 else match readI (cutA r).1 with
          | none => .err (acc.length + 1) 3
          | some x => if (cutA r).2.2 = false then .err (acc.length + 1) 4 else prsA r.length (cutA r).2.1 (acc ++ [x]) := by
        rw [hd.out.2.2.2.2, prsA, if_neg hr0]
        by_cases hfu : 65536 ≤ acc.length
        · rw [if_pos hfu, if_pos hfu]
        · rw [if_neg hfu, if_neg hfu]
          cases readI (cutA r).1 <;> rfl
      have HCU := Lib.hid (cut_any r wr (by have := hd.out.2.2.2.1; have := HSL.out; omega) (HTS.out.2.2.below hd.out.1.1))
      have hwp : wrap64 ((acc.length : Int) + 1) = (acc.length : Int) + 1 := by have := hd.out.2.2.1; unfold wrap64; omega
      have hlen := cutA_len r
      have HRS := Lib.hid (And.intro hd.out.2.2.2.1 hd.out.2.2.1)
      have HW0 := Lib.hid hd.out.1
      have HY := Lib.hid hd.out.2.1
      clear hd H0
      have hcs : (cutA r).2.2 = true → r = (cutA r).1 ++ [10] ++ (cutA r).2.1 := fun h => (cutA_some (s := r) (a := (cutA r).1) (r := (cutA r).2.1) (by rw [← h])).1
      generalize cutA r = cu at *
      obtain ⟨l1, l2, en⟩ := cu
      dsimp only at *
      by_cases hfull : 65536 ≤ acc.length
      · rw [if_pos hfull] at hst
        have HR := Lib.hid (fun (w' : World) (hb : Below w.heap.size w w') => show RetPA s w (.returned (.tuple #[.slice none 0 0, .int .i64 ((acc.length + 1 : Nat) : Int), .int .i64 5])) w' from by unfold RetPA; rw [hst]; exact ⟨hb, rfl⟩)
        have hf2 : (65536 : Int) ≤ acc.length := by omega
        clear hst hfull
        go_wp2_with fail
        refine HCU.out.mono ?_
        rintro e w1 ⟨rfl, hb1⟩
        have HB1 := Lib.hid (below_step HW0.out.1 HW0.out.1.size hb1)
        clear hb1
        go_wp2_with fail
        exact bodyPost_ret (v := .tuple #[.slice none 0 0, .int .i64 ((acc.length + 1 : Nat) : Int), .int .i64 5]) (by simp [results, Tryd.results17, hwp]) rfl (HR.out _ HB1.out)
      · rw [if_neg hfull] at hst
        have HFU := Lib.hid hfull
        have HL1 := Lib.hid (show l1.length < 4294967281 by have := HSL.out; have := HRS.out.1; omega)
        clear hfull
        go_wp2_with fail
        refine HCU.out.mono ?_
        rintro e w1 ⟨rfl, hb1⟩
        have HW1 := Lib.hid (HW0.out.below HW0.out.1.size hb1)
        clear hb1 HCU HW0
        have HST := Lib.hid hst
        have HCS := Lib.hid (And.intro hlen hcs)
        clear hst hcs hlen hr0 hne
        have HIN := Lib.hid (instr_any l1 w1 HL1.out (HTS.out.1.mono HW1.out.1) (HTS.out.2.1.mono HW1.out.1) (HTS.out.2.2.below HW1.out.1))
        go_upto_region 4 with fail
        have hf2 : (acc.length : Int) < 65536 := by have := HFU.out; omega
        revert hf2
        generalize (65536 : Int) = mx
        intro hf2
        go_wp2_with fail
        refine HIN.out.mono ?_
        rintro e w2 ⟨hb2, he⟩
        have hst := HST.out
        have hlen := HCS.out.1
        have hcs := HCS.out.2
        clear HST HCS
        have HW2 := Lib.hid (HW1.out.below HW1.out.1.size hb2)
        clear hb2 HIN HW1
        cases hri : readI l1 with
        | none =>
          rw [hri] at he hst
          obtain ⟨y, he⟩ := he
          rw [show y.val = .agg #[.int .u8 y.op, .int .i64 y.a, .int .i64 y.b, .int .i64 y.c, .int .i64 y.d] from rfl] at he
          subst he
          have HR := Lib.hid (fun (w' : World) (hb : Below w.heap.size w w') => show RetPA s w (.returned (.tuple #[.slice none 0 0, .int .i64 ((acc.length + 1 : Nat) : Int), .int .i64 3])) w' from by unfold RetPA; rw [hst]; exact ⟨hb, rfl⟩)
          have HB := Lib.hid (below_step HW2.out.1 HW2.out.1.size (below_box w2 (Obj.cells #[.int .u8 y.op, .int .i64 y.a, .int .i64 y.b, .int .i64 y.c, .int .i64 y.d] 43)))
          clear hst
          go_wp2_with fail
          exact bodyPost_ret (v := .tuple #[.slice none 0 0, .int .i64 ((acc.length + 1 : Nat) : Int), .int .i64 3]) (by simp [results, Tryd.results17, hwp]) rfl (HR.out _ HB.out)
        | some x =>
          rw [hri] at he hst
          dsimp only at hst
          obtain ⟨hop, he⟩ := he
          rw [show x.val = .agg #[.int .u8 x.op, .int .i64 x.a, .int .i64 x.b, .int .i64 x.c, .int .i64 x.d] from rfl] at he
          subst he
          have HX := Lib.hid (bx_new w2 #[.int .u8 x.op, .int .i64 x.a, .int .i64 x.b, .int .i64 x.c, .int .i64 x.d] 43)
          have hW5 := Lib.hid (HW2.out.below HW2.out.1.size (below_box w2 (Obj.cells #[.int .u8 x.op, .int .i64 x.a, .int .i64 x.b, .int .i64 x.c, .int .i64 x.d] 43)))
          cases en with
          | false =>
            rw [if_pos rfl] at hst
            have HR := Lib.hid (fun (w' : World) (hb : Below w.heap.size w w') => show RetPA s w (.returned (.tuple #[.slice none 0 0, .int .i64 ((acc.length + 1 : Nat) : Int), .int .i64 4])) w' from by unfold RetPA; rw [hst]; exact ⟨hb, rfl⟩)
            clear hst
            go_wp2_with fail
            exact bodyPost_ret (v := .tuple #[.slice none 0 0, .int .i64 ((acc.length + 1 : Nat) : Int), .int .i64 4]) (by simp [results, Tryd.results17, hwp]) rfl (HR.out _ hW5.out.1)
          | true =>
            rw [if_neg (by simp)] at hst
            have hll := congrArg List.length (hcs rfl)
            simp at hll
            have HN := Lib.hid (fun (w' : World) (v' : Value) (h : WI w.heap.size w w' v' (acc ++ [x])) => show PrR w w' v' s l2 (acc ++ [x]) from ⟨h, HY.out.push hop, by have := HFU.out; simp; omega, by have := HRS.out.1; omega, by rw [hst]; exact prsA_fuel _ _ _ _ (by omega) (by omega)⟩)
            clear hst HY HW2 hcs
            go_upto_region 11 with fail
            generalize w2.alloc _ = W5 at HX hW5 ⊢
            obtain ⟨x0, x1, x2, x3, x4, _⟩ := HX.out.five
            have hsz5 := hW5.out.1.size
            have HO := Lib.hid (hW5.out.below hsz5 (below_box W5 (Obj.cells #[.int .u8 x.op, .int .i64 x.a, .int .i64 x.b, .int .i64 x.c, .int .i64 x.d] 43)))
            have hs6 := HO.out.1.size
            go_wp2_with (at_builtin; go_loud (refine wpList_app _ rfl _ _ 22 rfl w.heap.size 43 i0 (.agg #[.int .u8 0, .int .i64 0, .int .i64 0, .int .i64 0, .int .i64 0]) 5 40 Tryd.underlying22 HI.out.1 HI.out.2.1 HI.out.2.2.1 HI.out.2.2.2 rfl (by decide) _ _ _ rfl HO.out.2 (some ⟨W5.heap.size, 0, none⟩) 1 1 [.int .u8 x.op, .int .i64 x.a, .int .i64 x.b, .int .i64 x.c, .int .i64 x.d] rfl rfl (cells_newU W5 rfl _ _) (one_ins x) (by have := HFU.out; unfold maxLen; omega) (by have := HFU.out; omega) hs6 ?_; intro v' w6 hown' hgrow _; have NX := Lib.hid (HN.out _ _ (HO.out.push hs6 x hgrow hown')); clear hown' hgrow HO hs6 HN))
            exact ⟨⟨l2, acc ++ [x], rfl, NX⟩, by show (bs l2).size < (bs r).size; rw [bs_size, bs_size]; omega⟩

end Go.Proofs.YtodiijoeeeeicaaDoor
