/-
  The functions that write operands, and the map that holds them.
-/
import Derived.Test.YtodiijoeeeeicaaDoorAsmWld
import Derived.Test.YtodiijoeeeeicaaDoorAsmMap
import Derived.Test.YtodiijoeeeeicaaDoorAsmEnc
import Derived.Lib.ItoaLen
namespace Go.Proofs.YtodiijoeeeeicaaDoor
open Go.ChangeShapes Go.WideShapes Go.ChangeAt Go.RowKit Go.Sort Go.Maps

def fv (n : Nat) : Value := .func (.func n) #[] #[]
def wrF : Int → Option Value := setF (setF (setF (setF (setF (setF (fun _ => none) 114 (fv 55)) 111 (fv 57)) 107 (fv 56)) 110 (fv 56)) 116 (fv 56)) 101 (fv 56)
def fnOf (c : UInt8) : Nat := if c = 114 then 55 else if c = 111 then 57 else 56
theorem wrF_at {c : UInt8} (h : c = 114 ∨ c = 107 ∨ c = 110 ∨ c = 116 ∨ c = 101 ∨ c = 111) : (wrF (c.toNat : Int)).getD .nilFunc = fv (fnOf c) := by
  rcases h with rfl | rfl | rfl | rfl | rfl | rfl <;> rfl
theorem MapF.kept {w w' : World} {b n : Nat} {raw : Int → Option Value} {e : TypeId} {c : Option Nat} (h : MapF w b n raw) (hk : Lib.OthersKept e c w w') (hc : some b ≠ c) : MapF w' b n raw := by
  obtain ⟨D, ⟨es, cc, h1, h2⟩, h3⟩ := h
  exact ⟨D, ⟨es, cc, hk b _ h1 hc (by intro c fz e; cases e), h2⟩, h3⟩

set_option maxRecDepth 100000 in
set_option maxHeartbeats 1000000 in
theorem writers_any (w : World) :
    Calls Tryd.prog 28 #[] w fun e w' => e = .returned (.map (some w.heap.size)) ∧ MapF w' w.heap.size 6 wrF ∧ Below w.heap.size w w' := by
  have hmm := @run_makeMap Tryd.prog
  have HM := mapF_made w
  have hbM := below_box w (.map #[] 0)
  go_enter Tryd.func28, Tryd.ntmps28
  go_wp2_with (first
    | (refine wpList_put_F _ rfl _ _ _ 62 (.inr rfl) Tryd.underlying62 w.heap.size _ _ rfl HM (by decide) _ _ rfl rfl (by decide) ?_; intro w1 HM1 hT; have hbM := hbM.grown hT.grown (by have := hbM.size; omega) (by intro k hk; cases hk; exact Nat.le_refl _); have HM := HM1; clear hT HM1))
  exact bodyPost_ret (v := .map (some w.heap.size)) (by simp [results, Tryd.results28]) rfl ⟨rfl, HM, hbM⟩

/-- The operators' symbols lie in memory. -/
def TabS (w : World) : Prop := ∀ i, i < 16 → w.cell? ⟨1, i + 8, none⟩ = some (.string (bs (symL.getD i [])))
theorem TabS.mono {w w' : World} (h : TabS w) (hb : Below w.heap.size w w') : TabS w' := fun i hi => below_cell hb (h i hi)
theorem symbol_any (v : Nat) (h8 : 8 ≤ v) (h23 : v ≤ 23) (w : World) (hT : TabS w) :
    Calls Tryd.prog 58 #[.int .u8 v] w fun e w' => e = .returned (.string (bs (symb v))) ∧ w = w' := by
  have h1 := hT (v - 8) (by omega)
  rw [show v - 8 + 8 = v by omega] at h1
  have hR := Lib.hid (show symb v = symL.getD (v - 8) [] by unfold symb; rw [if_pos (by omega)]; rfl)
  clear hT
  generalize symL.getD (v - 8) [] = s at *
  go_enter Tryd.func58, Tryd.ntmps58
  go_wp2
  go_ret
  exact ⟨by rw [hR.out]; rfl, rfl⟩
theorem wr1_any (v : Int) (w : World) (hW : Wld w) (h0 : -9223372036854775808 ≤ v) (h1 : v ≤ 9223372036854775807) :
    Calls Tryd.prog 55 #[.int .i64 v] w fun e w' => e = .returned (.string (bs (114 :: Lib.itoa v))) ∧ Below w.heap.size w w' := by
  have HI := Lib.hid (itoa_any v w hW h0 h1)
  have HE := Lib.hid (show (⟨#[114]⟩ : ByteArray) ++ bs (Lib.itoa v) = bs (114 :: Lib.itoa v) by rw [show (⟨#[114]⟩ : ByteArray) = bs [114] from rfl, bs_app]; rfl)
  have hl := Lib.itoa_length_le v h0 h1
  have hsz := bs_size (Lib.itoa v)
  go_enter Tryd.func55, Tryd.ntmps55
  go_wp2_with fail
  refine HI.out.mono ?_
  rintro e w1 ⟨rfl, hb1⟩
  go_wp2_with fail
  exact bodyPost_ret (v := .string (⟨#[114]⟩ ++ bs (Lib.itoa v))) (by simp [results, Tryd.results55]) rfl ⟨by rw [HE.out], hb1⟩
theorem wr2_any (v : Nat) (h8 : 8 ≤ v) (h23 : v ≤ 23) (w : World) (hT : TabS w) :
    Calls Tryd.prog 57 #[.int .i64 v] w fun e w' => e = .returned (.string (bs (symb v))) ∧ w = w' := by
  have HS := Lib.hid (symbol_any v h8 h23 w hT)
  have hm : (v : Int) % 256 = v := by omega
  go_enter Tryd.func57, Tryd.ntmps57
  go_wp2_with fail
  refine HS.out.mono ?_
  rintro e w1 ⟨rfl, rfl⟩
  go_wp2_with fail
  exact bodyPost_ret (v := .string (bs (symb v))) (by simp [results, Tryd.results57]) rfl ⟨rfl, rfl⟩
/-- A writer writes the operand's word. -/
theorem wrf_any {c : UInt8} {v : Int} (hv : okW c v) (h0 : -9223372036854775808 ≤ v) (h1 : v ≤ 9223372036854775807) (w : World) (hW : Wld w) (hT : TabS w) :
    Calls Tryd.prog (fnOf c) #[.int .i64 v] w fun e w' => e = .returned (.string (bs (wrd c v))) ∧ Below w.heap.size w w' := by
  unfold okW at hv
  unfold fnOf wrd
  by_cases e1 : c = 114
  · rw [if_pos e1, if_pos e1]
    exact wr1_any v w hW h0 h1
  · rw [if_neg e1, if_neg e1]
    by_cases e2 : c = 111
    · rw [if_pos e2] at hv
      rw [if_pos e2, if_pos e2]
      obtain ⟨n, rfl⟩ : ∃ n : Nat, v = n := ⟨v.toNat, by omega⟩
      refine (wr2_any n (by omega) (by omega) w hT).mono ?_
      rintro e w' ⟨rfl, rfl⟩
      exact ⟨rfl, Below.refl _ _⟩
    · rw [if_neg e2, if_neg e2]
      exact itoa_any v w hW h0 h1

end Go.Proofs.YtodiijoeeeeicaaDoor
