/-
  The laws' own examples of layer 22 hold: awake returns true.
-/
import Derived.Test.YtodiijoeeeeicaaDoorAsmPrs
import Derived.Test.YtodiijoeeeeicaaDoorAsmFmt
import Derived.Test.YtodiijoeeeeicaaDoorAsmSame
import Derived.Laws.BytesString
import Derived.Laws.Cells
namespace Go.Proofs.YtodiijoeeeeicaaDoor
open Go.ChangeShapes Go.WideShapes Go.ChangeAt Go.RowKit Go.Sort

theorem code_new (w : World) (T : TypeId) (l : List Ins) (cs : Array Value) (hcs : cs = (cellsL l).toArray) : CodeAt (w.alloc (Obj.cells cs T)) (some ⟨w.heap.size, 0, none⟩) l := fun k x hk => by
  subst hcs
  refine ⟨w.heap.size, 0, rfl, ?_⟩
  have hget : ∀ r, r < 5 → (w.alloc (Obj.cells (cellsL l).toArray T)).cell? ⟨w.heap.size, k * 5 + r, none⟩ = x.five[r]? := fun r hr => by
    rw [← cellsL_get l k r x hk hr]
    simp [go_sem]
  rw [Nat.zero_add]
  exact ⟨hget 0 (by omega), hget 1 (by omega), hget 2 (by omega), hget 3 (by omega), hget 4 (by omega)⟩
theorem bytes_of {l : List Ins} (h : l.all (fun x => decide (x.op < 256)) = true) : Bytes l := fun k x hk => by
  have := List.all_eq_true.1 h x (List.mem_of_getElem? hk)
  simpa using this
/-- A row of bytes of the call's own, as a slice. -/
theorem bys_of_own {w : World} {base : Nat} {e : TypeId} {v : Value} {l : List UInt8} (h : w.ownsRow base e 1 v l.length (Lib.byteCells l)) : ∃ A c, v = .slice A l.length c ∧ l.length ≤ c ∧ BysAt w A l := by
  rcases id h.2 with ⟨rfl, h0⟩ | ⟨g, cap, cur, rfl, hg, hh, hc1, hc2, hc3, hc4⟩
  · refine ⟨none, 0, by rw [h0], by omega, fun k x hk => ?_⟩
    have : l = [] := List.length_eq_zero_iff.1 h0
    subst this; simp at hk
  · refine ⟨some ⟨g, 0, none⟩, cap, rfl, by omega, fun k x hk => ⟨g, 0, rfl, ?_⟩⟩
    rw [Nat.zero_add, h.cellAt k (by have := (List.getElem?_eq_some_iff.1 hk).1; omega)]
    unfold Lib.byteCells
    rw [List.getElem?_map, hk]; rfl
theorem foldl_bs (l : List UInt8) : ∀ (acc : ByteArray), (l.map fun c => (c.toNat : Int)).foldl (fun r n => r.push (UInt8.ofNat n.toNat)) acc = ⟨(acc.data.toList ++ l).toArray⟩ := by
  induction l with
  | nil => intro acc; simp
  | cons c l ih =>
    intro acc
    rw [List.map_cons, List.foldl_cons, ih]
    congr 1
    simp [ByteArray.push]
/-- The conversion of bytes to a string. -/
theorem bstr_run {w : World} {A : Option Addr} {l : List UInt8} (h : BysAt w A l) (c : Nat) : (convert 29 9 (.slice A l.length c)).run Tryd.prog w = .ok (.string (bs l)) w := by
  rw [run_convert_bytes_string w 29 9 5 A l.length c Tryd.underlying29 Tryd.underlying5 Tryd.underlying9]
  have key : ∀ a : Addr, (∀ j v, (l.map fun c => Value.int .u8 (c.toNat : Int))[j]? = some v → w.cell? (a.add j) = some v) → (Conv.bytesToString (.slice (some a) l.length c)).run Tryd.prog w = .ok (.string (bs l)) w := fun a ha => by
    have h1 := run_loadCells_list (P := Tryd.prog) w a (l.map fun c => Value.int .u8 (c.toNat : Int)) ha
    rw [List.length_map] at h1
    rw [run_bytesToString w a l.length c (l.map fun c => (c.toNat : Int)) (by rw [h1, List.map_map]; rfl), foldl_bs]
    rfl
  cases A with
  | none =>
    cases l with
    | nil => rfl
    | cons x r =>
      obtain ⟨_, _, e, _⟩ := h 0 x rfl
      cases e
  | some a =>
    refine key a fun j v hj => ?_
    rw [List.getElem?_map] at hj
    obtain ⟨x, hx, rfl⟩ := Option.map_eq_some_iff.1 hj
    obtain ⟨b, o, e, h1⟩ := h j x hx
    cases e
    have hadd : (⟨b, o, none⟩ : Addr).add j = ⟨b, o + j, none⟩ := by unfold Addr.add; by_cases h : j = 0 <;> simp [h]
    rw [hadd]; exact h1

def exL : List Ins := [⟨9, 1, 2, 3, 8⟩, ⟨4, 0, -5, 0, 0⟩]
def exE : List Ins := [⟨8, 7, 0, 0, 0⟩]
def exP : List Ins := [⟨4, 0, -5, 0, 0⟩]
theorem itoa_small (n : Nat) (h : n < 10) : Lib.itoa (n : Int) = [UInt8.ofNat (48 + n)] := by rw [Lib.itoa_nonneg, dec_small h]
theorem itoa_m5 : Lib.itoa (-5) = [45, 53] := by
  unfold Lib.itoa
  rw [if_pos (by omega)]
  show 45 :: Lib.decDigits 5 = _
  rw [dec_small (by decide)]; rfl
theorem line1 : lineI ⟨9, 1, 2, 3, 8⟩ = [99, 97, 108, 99, 32, 114, 49, 32, 114, 50, 32, 114, 51, 32, 43] := by
  have : lineI ⟨9, 1, 2, 3, 8⟩ = Lib.join [[99, 97, 108, 99], 114 :: Lib.itoa ((1 : Nat) : Int), 114 :: Lib.itoa ((2 : Nat) : Int), 114 :: Lib.itoa ((3 : Nat) : Int), [43]] [32] := rfl
  rw [this, itoa_small 1 (by decide), itoa_small 2 (by decide), itoa_small 3 (by decide)]
  rfl
theorem line2 : lineI ⟨4, 0, -5, 0, 0⟩ = [97, 100, 100, 105, 32, 114, 48, 32, 45, 53] := by
  have : lineI ⟨4, 0, -5, 0, 0⟩ = Lib.join [[97, 100, 100, 105], 114 :: Lib.itoa ((0 : Nat) : Int), Lib.itoa (-5)] [32] := rfl
  rw [this, itoa_small 0 (by decide), itoa_m5]
  rfl
theorem fmt_exL : fmtA exL = [99, 97, 108, 99, 32, 114, 49, 32, 114, 50, 32, 114, 51, 32, 43, 10, 97, 100, 100, 105, 32, 114, 48, 32, 45, 53, 10] := by
  unfold exL
  rw [fmtA_cons, fmtA_cons, line1, line2]; rfl
theorem prs_exP : parseA [97, 100, 100, 105, 32, 114, 48, 32, 45, 53, 10] = .ok exP := by
  have h : fmtA exP = [97, 100, 100, 105, 32, 114, 48, 32, 45, 53, 10] := by
    unfold exP
    rw [fmtA_cons, line2]; rfl
  rw [← h]
  refine parseA_fmt (fun x hx => ?_) (by decide)
  simp only [exP, List.mem_cons, List.not_mem_nil, or_false] at hx
  subst hx
  exact ⟨by decide, by decide, by decide, by decide, by decide⟩
theorem chk_exL : checkA exL = 0 := by decide
theorem chk_exE : checkA exE = 0 := by decide
theorem enc_exE : encA exE = [0, 0, 0, 1, 8, 7] := by decide +kernel

set_option maxRecDepth 100000 in
set_option maxHeartbeats 1000000 in
theorem awake_any (w : World) (hT : Tab w) (hS : TabS w) (hW : Wld w) : Calls Tryd.prog 12 #[] w fun e w' => e = .returned (.bool true) ∧ Below w.heap.size w w' := by
  have HT := Lib.hid hT
  have HS := Lib.hid hS
  have HW := Lib.hid hW
  clear hT hS hW
  go_enter Tryd.func12, Tryd.ntmps12
  go_wp2_with fail
  have q1 := Lib.hid (below_box w (Obj.cells (cellsL exL).toArray 43))
  have HC1 := Lib.hid (code_new w 43 exL _ rfl)
  have HF := Lib.hid (format_any exL _ 2 _ HC1.out (bytes_of (by decide)) (by
    intro x hx
    simp only [exL, List.mem_cons, List.not_mem_nil, or_false] at hx
    rcases hx with e | e <;> subst e <;> exact ⟨by decide, by decide, by decide, by decide⟩) (HT.out.mono q1.out) (HS.out.mono q1.out) (HW.out.below q1.out) (by decide))
  refine HF.out.mono ?_
  rintro e W2 ⟨he, hb2⟩
  rw [if_pos chk_exL, chk_exL, fmt_exL] at he
  subst he
  have q2 := Lib.hid (below_step q1.out q1.out.size hb2)
  clear HF HC1 q1 hb2
  have q3 := Lib.hid (below_step q2.out q2.out.size (below_box W2 (Obj.cells (cellsL exE).toArray 43)))
  have HE := Lib.hid (encode_any exE _ 1 _ (code_new W2 43 exE _ rfl) (bytes_of (by decide)) (HT.out.mono q3.out) (by decide))
  go_wp2_with fail
  refine HE.out.mono ?_
  rintro e W4 he
  unfold RetE at he
  rw [if_pos chk_exE, enc_exE] at he
  obtain ⟨v, rfl, hw4⟩ := he
  obtain ⟨A4, c4, rfl, _, hby⟩ := bys_of_own hw4.2.1
  have q4 := Lib.hid (below_step q3.out q3.out.size hw4.1)
  have HB4 := Lib.hid hby
  clear HE q3 q2 hw4 hby
  have HP := Lib.hid (parse_any [97, 100, 100, 105, 32, 114, 48, 32, 45, 53, 10] W4 (by decide) (HT.out.mono q4.out) (HS.out.mono q4.out) (HW.out.below q4.out))
  go_wp2_with fail
  refine HP.out.mono ?_
  rintro e W5 he
  unfold RetPA at he
  rw [prs_exP] at he
  obtain ⟨v, rfl, hw5, _⟩ := he
  obtain ⟨A5, c5, rfl, hcode⟩ := code_of_own hw5.2
  have q5 := Lib.hid (below_step q4.out q4.out.size hw5.1)
  obtain ⟨b, o, rfl, hi⟩ := hcode 0 _ rfl
  obtain ⟨x0, x1, x2, x3, x4⟩ := hi
  have hlt := block_lt_of_cell x2
  have hcv := bstr_run (HB4.out.mono hw5.1) c4
  have he3 : ∀ l : List UInt8, (bs l).toList = l := fun l => by rw [ByteArray.toList_eq, data_bs]
  have he4 := he3 [99, 97, 108, 99, 32, 114, 49, 32, 114, 50, 32, 114, 51, 32, 43, 10, 97, 100, 100, 105, 32, 114, 48, 32, 45, 53, 10]
  have he5 := he3 [0, 0, 0, 1, 8, 7]
  have hl1 : exP.length = 1 := rfl
  rw [show o + 0 * 5 + 2 = o + 2 by omega] at x2
  rw [show ([0, 0, 0, 1, 8, 7] : List UInt8).length = 6 from rfl] at hcv
  clear he3 x0 x1 x3 x4
  clear hw5 hcode HP HB4
  go_wp2_with fail
  go_ret
  exact ⟨rfl, q5.out⟩

end Go.Proofs.YtodiijoeeeeicaaDoor
