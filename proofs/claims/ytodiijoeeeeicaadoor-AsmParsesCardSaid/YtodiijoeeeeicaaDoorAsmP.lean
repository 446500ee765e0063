/-
  The textual form of machine code, plainly: what is written, and what reads it.
-/
import Derived.Test.YtodiijoeeeeicaaDoorScrP
import Derived.Test.YtodiijoeeeeicaaDoorAsmIsa
namespace Go.Proofs.YtodiijoeeeeicaaDoor
open Go.Lib

/-- The classes of the operands of an opcode. -/
def clsL (op : Nat) : List UInt8 :=
  ([[], [114, 114], [114, 114], [114, 114], [114, 110], [114, 110], [114, 110], [114, 114], [114], [114, 114, 114, 111], [114, 107], [114, 114, 107, 107], [114, 107], [114, 107], [114, 107], [114, 107], [107, 107], [114], [114], [114], [114], [114, 101], [116], [114, 116], [114, 116], [116], [114, 116], [114, 116], [107, 107], [107, 107], [116], [116], [116], [116], []] : List (List UInt8)).getD op []
theorem clsL_hi {op : Nat} (h : ¬ op < 35) : clsL op = [] := by
  unfold clsL
  rw [List.getD_eq_getElem?_getD, List.getElem?_eq_none (by simp; omega)]; rfl
theorem lt35 {op : Nat} (h : op < 35) : op = 0 ∨ op = 1 ∨ op = 2 ∨ op = 3 ∨ op = 4 ∨ op = 5 ∨ op = 6 ∨ op = 7 ∨ op = 8 ∨ op = 9 ∨ op = 10 ∨ op = 11 ∨ op = 12 ∨ op = 13 ∨ op = 14 ∨ op = 15 ∨ op = 16 ∨ op = 17 ∨ op = 18 ∨ op = 19 ∨ op = 20 ∨ op = 21 ∨ op = 22 ∨ op = 23 ∨ op = 24 ∨ op = 25 ∨ op = 26 ∨ op = 27 ∨ op = 28 ∨ op = 29 ∨ op = 30 ∨ op = 31 ∨ op = 32 ∨ op = 33 ∨ op = 34 := by omega
theorem all35 {p : Nat → Bool} (h : (List.range 35).all p = true) {op : Nat} (ho : op < 35) : p op = true := List.all_eq_true.1 h op (by simpa using ho)
theorem clsL_len (op : Nat) : (clsL op).length = opsN op ∧ (clsL op).length ≤ 4 := by
  by_cases h : op < 35
  · have := all35 (p := fun op => decide ((clsL op).length = opsN op ∧ (clsL op).length ≤ 4)) (by decide) h
    simpa using this
  · rw [clsL_hi h]
    refine ⟨?_, by simp⟩
    unfold opsN
    rw [List.getD_eq_getElem?_getD, List.getElem?_eq_none (by simp; omega)]; rfl
theorem clsL_mem {op : Nat} {c : UInt8} (h : c ∈ clsL op) : c = 114 ∨ c = 107 ∨ c = 110 ∨ c = 116 ∨ c = 101 ∨ c = 111 := by
  by_cases h35 : op < 35
  · have := all35 (p := fun op => (clsL op).all fun c => decide (c = 114 ∨ c = 107 ∨ c = 110 ∨ c = 116 ∨ c = 101 ∨ c = 111)) (by decide) h35
    have := List.all_eq_true.1 this c h
    simpa using this
  · rw [clsL_hi h35] at h; simp at h
/-- The operators' symbols. -/
def symL : List (List UInt8) := [[43], [45], [42], [47], [37], [38], [124], [94], [61, 61], [33, 61], [60], [60, 61], [62], [62, 61], [38, 38], [124, 124]]
def symb (v : Int) : List UInt8 := if 8 ≤ v then symL.getD (v.toNat - 8) [] else []
def symO (w : List UInt8) : Option Int := (symL.findIdx? fun s => decide (s = w)).map fun i : Nat => (i : Int) + 8
theorem sym_back {i : Nat} (h : i < 16) : symO (symb (i + 8)) = some (i + 8) ∧ (∀ b ∈ symb ((i : Int) + 8), b ≠ 32 ∧ b ≠ 10) := by
  rcases (show i = 0 ∨ i = 1 ∨ i = 2 ∨ i = 3 ∨ i = 4 ∨ i = 5 ∨ i = 6 ∨ i = 7 ∨ i = 8 ∨ i = 9 ∨ i = 10 ∨ i = 11 ∨ i = 12 ∨ i = 13 ∨ i = 14 ∨ i = 15 by omega) with h | h | h | h | h | h | h | h | h | h | h | h | h | h | h | h <;> (subst h; exact ⟨by decide, by decide⟩)
theorem symO_some {w : List UInt8} {v : Int} (h : symO w = some v) : 8 ≤ v ∧ v ≤ 23 ∧ symb v = w := by
  unfold symO at h
  obtain ⟨i, hi, rfl⟩ := Option.map_eq_some_iff.1 h
  obtain ⟨hl, hp⟩ := List.findIdx?_eq_some_iff_getElem.1 hi
  have h16 : i < 16 := hl
  refine ⟨by omega, by omega, ?_⟩
  unfold symb
  rw [if_pos (by omega), show (((i : Int) + 8).toNat - 8) = i by omega, List.getD_eq_getElem?_getD, List.getElem?_eq_getElem hl]
  have := hp.1
  simpa using this
/-- The word of an operand. -/
def wrd (c : UInt8) (v : Int) : List UInt8 := if c = 114 then 114 :: itoa v else if c = 111 then symb v else itoa v
/-- The operand of a word. -/
def rdW (c : UInt8) (w : List UInt8) : Option Int := if c = 111 then symO w else if c = 114 then (match w with | [] => none | b :: r => if b = 114 then numO r else none) else numO w
def okW (c : UInt8) (v : Int) : Prop := if c = 111 then 8 ≤ v ∧ v ≤ 23 else -9223372036854775808 ≤ v ∧ v ≤ 9223372036854775807
theorem rdW_wrd {c : UInt8} {v : Int} (h : okW c v) : rdW c (wrd c v) = some v := by
  unfold okW at h
  unfold rdW wrd
  by_cases h1 : c = 111
  · rw [if_pos h1] at h
    rw [if_pos h1, if_neg (by rw [h1]; decide), if_pos h1]
    obtain ⟨i, rfl⟩ : ∃ i : Nat, v = i + 8 := ⟨(v - 8).toNat, by omega⟩
    exact (sym_back (i := i) (by omega)).1
  · rw [if_neg h1] at h
    rw [if_neg h1]
    by_cases h2 : c = 114
    · rw [if_pos h2, if_pos h2]
      dsimp only
      rw [if_pos rfl, numO_itoa h.1 h.2]
    · rw [if_neg h2, if_neg h2, if_neg h1, numO_itoa h.1 h.2]
theorem rdW_some {c : UInt8} {w : List UInt8} {v : Int} (h : rdW c w = some v) : okW c v ∧ wrd c v = w := by
  unfold rdW at h
  unfold okW wrd
  by_cases h1 : c = 111
  · rw [if_pos h1] at h
    obtain ⟨a, b, e⟩ := symO_some h
    rw [if_pos h1, if_neg (by rw [h1]; decide), if_pos h1]
    exact ⟨⟨a, b⟩, e⟩
  · rw [if_neg h1] at h
    rw [if_neg h1]
    by_cases h2 : c = 114
    · rw [if_pos h2] at h
      rw [if_pos h2]
      cases w with
      | nil => cases h
      | cons b r =>
        dsimp only at h
        split at h
        · rename_i hb
          obtain ⟨e, h0, h3⟩ := numO_some h
          exact ⟨⟨h0, h3⟩, by rw [e, hb]⟩
        · cases h
    · rw [if_neg h2] at h
      rw [if_neg h2, if_neg h1]
      obtain ⟨e, h0, h3⟩ := numO_some h
      exact ⟨⟨h0, h3⟩, e⟩
theorem wrd_byte {c : UInt8} {v : Int} (h : okW c v) : ∀ b ∈ wrd c v, b ≠ 32 ∧ b ≠ 10 := by
  intro b hb
  unfold okW at h
  unfold wrd at hb
  have hi : ∀ v : Int, b ∈ itoa v → b ≠ 32 ∧ b ≠ 10 := fun v hv => by
    rcases itoa_dig v b hv with h | h
    · have := digB_iff.1 h
      constructor <;> (rintro rfl; simp at this)
    · rw [h]; decide
  by_cases h1 : c = 111
  · rw [if_pos h1] at h
    rw [if_neg (by rw [h1]; decide), if_pos h1] at hb
    obtain ⟨i, rfl⟩ : ∃ i : Nat, v = i + 8 := ⟨(v - 8).toNat, by omega⟩
    exact (sym_back (i := i) (by omega)).2 b hb
  · rw [if_neg h1] at h hb
    by_cases h2 : c = 114
    · rw [if_pos h2] at hb
      rcases List.mem_cons.1 hb with hb | hb
      · rw [hb]; decide
      · exact hi v hb
    · rw [if_neg h2] at hb
      exact hi v hb

/-! ### Lines -/
def opdI (x : Ins) (k : Nat) : Int := opd x.a x.b x.c x.d k
/-- The words of the first k operands. -/
def wdsI (x : Ins) (k : Nat) : List (List UInt8) := (List.range k).map fun j => wrd ((clsL x.op).getD j 0) (opdI x j)
def lineI (x : Ins) : List UInt8 := join (mnem x.op :: wdsI x (clsL x.op).length) [32]
def fmtA (l : List Ins) : List UInt8 := (l.map fun x => lineI x ++ [10]).flatten
def vIns (x : Ins) : Bool := validB x.op x.a x.b x.c x.d
/-- Operands that are 64-bit numbers. -/
def FitI (x : Ins) : Prop := (-9223372036854775808 ≤ x.a ∧ x.a ≤ 9223372036854775807) ∧ (-9223372036854775808 ≤ x.b ∧ x.b ≤ 9223372036854775807) ∧ (-9223372036854775808 ≤ x.c ∧ x.c ≤ 9223372036854775807) ∧ (-9223372036854775808 ≤ x.d ∧ x.d ≤ 9223372036854775807)
theorem FitI.opd {x : Ins} (h : FitI x) (k : Nat) : -9223372036854775808 ≤ opdI x k ∧ opdI x k ≤ 9223372036854775807 := by
  obtain ⟨h0, h1, h2, h3⟩ := h
  unfold opdI Go.Proofs.YtodiijoeeeeicaaDoor.opd
  match k with
  | 0 => exact h0
  | 1 => exact h1
  | 2 => exact h2
  | 3 => exact h3
  | k + 4 => simp
theorem mnem_back : ∀ op, op < 35 → ∀ q, q < 35 → mnem q = mnem op → q = op := by
  intro op ho q hq e
  have := all35 (p := fun op => (List.range 35).all fun q => decide (mnem q = mnem op → q = op)) (by decide +kernel) ho
  have := List.all_eq_true.1 this q (by simpa using hq)
  simp only [decide_eq_true_eq] at this
  exact this e
theorem mnem_byte {op : Nat} : ∀ b ∈ mnem op, b ≠ 32 ∧ b ≠ 10 := by
  intro b hb
  by_cases h35 : op < 35
  · have := all35 (p := fun op => (mnem op).all fun b => decide (b ≠ 32 ∧ b ≠ 10)) (by decide +kernel) h35
    have := List.all_eq_true.1 this b hb
    simpa using this
  · unfold mnem at hb
    rw [List.getD_eq_getElem?_getD, List.getElem?_eq_none (by simp; omega)] at hb
    simp at hb
/-- What valid says of the operands. -/
theorem valid_lt {x : Ins} (h : vIns x = true) : x.op < 35 := by
  unfold vIns validB at h
  simp only [Bool.and_eq_true, decide_eq_true_eq] at h
  exact h.1.1
theorem valid_opr {x : Ins} (h : vIns x = true) {k : Nat} (hk : (clsL x.op)[k]? = some 111) : 8 ≤ opdI x k ∧ opdI x k ≤ 23 := by
  have h35 := valid_lt h
  have h9 : x.op = 9 ∧ k = 3 := by
    have hlt := (List.getElem?_eq_some_iff.1 hk).1
    have hl4 := (clsL_len x.op).2
    have := all35 (p := fun op => (List.range 4).all fun k => decide ((clsL op)[k]? = some 111 → op = 9 ∧ k = 3)) (by decide +kernel) h35
    have := List.all_eq_true.1 this k (by simp; omega)
    simp only [decide_eq_true_eq] at this
    exact this hk
  unfold vIns validB formB at h
  rw [h9.1] at h
  simp [oprB] at h
  rw [h9.2]
  show 8 ≤ x.d ∧ x.d ≤ 23
  omega
theorem valid_okW {x : Ins} (h : vIns x = true) (hf : FitI x) {k : Nat} (hk : k < (clsL x.op).length) : okW ((clsL x.op).getD k 0) (opdI x k) := by
  unfold okW
  split
  · rename_i e
    refine valid_opr h ?_
    rw [List.getD_eq_getElem?_getD, List.getElem?_eq_getElem hk] at e
    rw [List.getElem?_eq_getElem hk]
    exact congrArg some e
  · exact hf.opd k

/-! ### Reading a line -/
def opcO (w : List UInt8) : Option Nat := (List.range 35).find? fun op => decide (mnem op = w)
def rdL : List UInt8 → List (List UInt8) → Option (List Int)
  | [], [] => some []
  | c :: cs, w :: ws => match rdW c w, rdL cs ws with
    | some v, some vs => some (v :: vs)
    | _, _ => none
  | _, _ => none
def mkI (op : Nat) (vs : List Int) : Ins := ⟨op, vs.getD 0 0, vs.getD 1 0, vs.getD 2 0, vs.getD 3 0⟩
def readI (s : List UInt8) : Option Ins :=
  match splitL s with
  | [] => none
  | w :: ws => match opcO w with
    | none => none
    | some op => match rdL (clsL op) ws with
      | none => none
      | some vs => if vIns (mkI op vs) = true then some (mkI op vs) else none
theorem opcO_mnem {op : Nat} (h : op < 35) : opcO (mnem op) = some op := by
  unfold opcO
  cases hf : (List.range 35).find? fun q => decide (mnem q = mnem op) with
  | none =>
    have := List.find?_eq_none.1 hf op (by simpa using h)
    simp at this
  | some q =>
    have h1 := List.mem_of_find?_eq_some hf
    have h2 := List.find?_some hf
    simp at h1 h2
    rw [mnem_back op h q h1 h2]
theorem opcO_some {w : List UInt8} {op : Nat} (h : opcO w = some op) : op < 35 ∧ mnem op = w := by
  unfold opcO at h
  have h1 := List.mem_of_find?_eq_some h
  have h2 := List.find?_some h
  simp at h1 h2
  exact ⟨h1, h2⟩
theorem rdL_some : ∀ {cs : List UInt8} {ws : List (List UInt8)} {vs : List Int}, rdL cs ws = some vs → vs.length = cs.length ∧ ws.length = cs.length ∧ ∀ k, k < cs.length → okW (cs.getD k 0) (vs.getD k 0) ∧ ws.getD k [] = wrd (cs.getD k 0) (vs.getD k 0)
  | [], [], vs, h => by rw [rdL] at h; cases h; exact ⟨rfl, rfl, fun k hk => by simp at hk⟩
  | [], _ :: _, vs, h => by simp [rdL] at h
  | _ :: _, [], vs, h => by simp [rdL] at h
  | c :: cs, w :: ws, vs, h => by
    rw [rdL] at h
    cases h1 : rdW c w with
    | none => rw [h1] at h; cases h
    | some v =>
      cases h2 : rdL cs ws with
      | none => rw [h1, h2] at h; cases h
      | some vs' =>
        rw [h1, h2] at h
        cases h
        obtain ⟨a, b, c'⟩ := rdL_some h2
        refine ⟨by simp [a], by simp [b], fun k hk => ?_⟩
        cases k with
        | zero => exact ⟨(rdW_some h1).1, (rdW_some h1).2.symm⟩
        | succ k => simpa using c' k (by simpa using hk)
theorem rdL_of : ∀ (cs : List UInt8) (vs : List Int), vs.length = cs.length → (∀ k, k < cs.length → okW (cs.getD k 0) (vs.getD k 0)) → rdL cs ((List.range cs.length).map fun j => wrd (cs.getD j 0) (vs.getD j 0)) = some vs
  | [], [], _, _ => rfl
  | [], _ :: _, h, _ => by simp at h
  | _ :: _, [], h, _ => by simp at h
  | c :: cs, v :: vs, h, hk => by
    have ih := rdL_of cs vs (by simpa using h) (fun k hk' => by simpa using hk (k + 1) (by simpa using hk'))
    rw [List.length_cons, List.range_succ_eq_map, List.map_cons, List.map_map, rdL]
    have e : ((fun j => wrd ((c :: cs).getD j 0) ((v :: vs).getD j 0)) ∘ Nat.succ) = fun j => wrd (cs.getD j 0) (vs.getD j 0) := by funext j; simp
    rw [e, ih]
    have h0 := rdW_wrd (hk 0 (by simp))
    have h0' : rdW c (wrd ((c :: cs).getD 0 0) ((v :: vs).getD 0 0)) = some v := h0
    rw [h0']
/-- The operands that an opcode uses. -/
def opsL (x : Ins) : List Int := (List.range (clsL x.op).length).map fun j => opdI x j
theorem opsL_get (x : Ins) (k : Nat) (hk : k < (clsL x.op).length) : (opsL x).getD k 0 = opdI x k := by
  unfold opsL
  rw [List.getD_eq_getElem?_getD, List.getElem?_map, List.getElem?_range hk]; rfl
theorem rest_zero {x : Ins} (h : vIns x = true) {k : Nat} (hk : (clsL x.op).length ≤ k) : opdI x k = 0 := by
  have hr : restB x.op x.a x.b x.c x.d = true := by
    unfold vIns validB at h
    simp only [Bool.and_eq_true] at h
    exact h.1.2
  rw [(clsL_len x.op).1] at hk
  unfold restB at hr
  simp only [Bool.and_eq_true, Bool.or_eq_true, decide_eq_true_eq, beq_iff_eq] at hr
  obtain ⟨⟨⟨h1, h2⟩, h3⟩, h4⟩ := hr
  unfold opdI Go.Proofs.YtodiijoeeeeicaaDoor.opd
  match k, hk with
  | 0, hk => rcases h1 with h1 | h1; omega; exact h1
  | 1, hk => rcases h2 with h2 | h2; omega; exact h2
  | 2, hk => rcases h3 with h3 | h3; omega; exact h3
  | 3, hk => rcases h4 with h4 | h4; omega; exact h4
  | k + 4, _ => simp
theorem mkI_opsL {x : Ins} (h : vIns x = true) : mkI x.op (opsL x) = x := by
  have key : ∀ k, (opsL x).getD k 0 = opdI x k := fun k => by
    by_cases hk : k < (clsL x.op).length
    · exact opsL_get x k hk
    · rw [rest_zero h (by omega)]
      unfold opsL
      rw [List.getD_eq_getElem?_getD, List.getElem?_eq_none (by simp; omega)]; rfl
  unfold mkI
  rw [key 0, key 1, key 2, key 3]
  rfl
theorem readI_line {x : Ins} (h : vIns x = true) (hf : FitI x) : readI (lineI x) = some x := by
  have h35 := valid_lt h
  unfold readI lineI
  rw [splitL_join _ (by simp) (fun w hw b hb => by
    rcases List.mem_cons.1 hw with e | e
    · rw [e] at hb; exact (mnem_byte b hb).1
    · unfold wdsI at e
      obtain ⟨j, hj, rfl⟩ := List.mem_map.1 e
      exact (wrd_byte (valid_okW h hf (by simpa using hj)) b hb).1)]
  dsimp only
  rw [opcO_mnem h35]
  dsimp only
  have h2 := rdL_of (clsL x.op) (opsL x) (by simp [opsL]) (fun k hk => by rw [opsL_get x k hk]; exact valid_okW h hf hk)
  have e : ((List.range (clsL x.op).length).map fun j => wrd ((clsL x.op).getD j 0) ((opsL x).getD j 0)) = wdsI x (clsL x.op).length := by
    unfold wdsI
    refine List.map_congr_left fun j hj => ?_
    rw [opsL_get x j (by simpa using hj)]
  rw [e] at h2
  rw [h2]
  dsimp only
  rw [mkI_opsL h, if_pos h]
theorem readI_some {s : List UInt8} {x : Ins} (h : readI s = some x) : vIns x = true ∧ FitI x ∧ lineI x = s := by
  unfold readI at h
  cases hs : splitL s with
  | nil => rw [hs] at h; cases h
  | cons w ws =>
    rw [hs] at h
    dsimp only at h
    cases ho : opcO w with
    | none => rw [ho] at h; cases h
    | some op =>
      rw [ho] at h
      dsimp only at h
      obtain ⟨h35, hm⟩ := opcO_some ho
      cases hr : rdL (clsL op) ws with
      | none => rw [hr] at h; cases h
      | some vs =>
        rw [hr] at h
        dsimp only at h
        split at h
        · rename_i hv
          cases h
          obtain ⟨h1, h2, h3⟩ := rdL_some hr
          have h4 := (clsL_len op).2
          have hfit : ∀ k, -9223372036854775808 ≤ vs.getD k 0 ∧ vs.getD k 0 ≤ 9223372036854775807 := fun k => by
            by_cases hk : k < (clsL op).length
            · have := (h3 k hk).1
              unfold okW at this
              split at this <;> omega
            · rw [List.getD_eq_getElem?_getD, List.getElem?_eq_none (by omega)]; simp
          refine ⟨hv, ⟨hfit 0, hfit 1, hfit 2, hfit 3⟩, ?_⟩
          have hws : wdsI (mkI op vs) (clsL op).length = ws := by
            unfold wdsI
            refine List.ext_getElem (by simp [h2]) fun k hk1 hk2 => ?_
            rw [List.getElem_map, List.getElem_range]
            have hk : k < (clsL op).length := by simpa using hk1
            have h5 := (h3 k hk).2
            rw [List.getD_eq_getElem?_getD, List.getElem?_eq_getElem hk2, Option.getD_some] at h5
            rw [h5]
            congr 1
            show opdI (mkI op vs) k = _
            unfold opdI mkI Go.Proofs.YtodiijoeeeeicaaDoor.opd
            match k, (show k < 4 by omega) with
            | 0, _ => rfl
            | 1, _ => rfl
            | 2, _ => rfl
            | 3, _ => rfl
          show join (mnem op :: wdsI (mkI op vs) (clsL op).length) [32] = s
          rw [hws, hm, ← hs, join_splitL]
        · cases h

/-! ### Texts -/
/-- Up to the first line feed, what follows it, and whether there is one. -/
def cutA (s : List UInt8) : List UInt8 × List UInt8 × Bool := match cutL s with | none => (s, [], false) | some (a, r) => (a, r, true)
inductive RA where
  | err (line : Nat) (e : Int)
  | ok (l : List Ins)
def prsA : Nat → List UInt8 → List Ins → RA
  | 0, _, acc => .ok acc
  | f + 1, s, acc =>
    if s = [] then .ok acc
    else if 65536 ≤ acc.length then .err (acc.length + 1) 5
    else match readI (cutA s).1 with
      | none => .err (acc.length + 1) 3
      | some x => if (cutA s).2.2 = false then .err (acc.length + 1) 4 else prsA f (cutA s).2.1 (acc ++ [x])
def parseA (s : List UInt8) : RA := prsA (s.length + 1) s []
theorem line_byte {x : Ins} (h : vIns x = true) (hf : FitI x) : ∀ b ∈ lineI x, b ≠ 10 := by
  intro b hb
  unfold lineI at hb
  rcases join_mem hb with e | ⟨w, hw, hb⟩
  · rw [e]; decide
  · rcases List.mem_cons.1 hw with e | e
    · rw [e] at hb; exact (mnem_byte b hb).2
    · unfold wdsI at e
      obtain ⟨j, hj, rfl⟩ := List.mem_map.1 e
      exact (wrd_byte (valid_okW h hf (by simpa using hj)) b hb).2
theorem cutA_line {x : Ins} (h : vIns x = true) (hf : FitI x) (s : List UInt8) : cutA (lineI x ++ [10] ++ s) = (lineI x, s, true) := by
  unfold cutA
  rw [show lineI x ++ [10] ++ s = lineI x ++ 10 :: s by simp, cutL_app (line_byte h hf)]
theorem cutA_some {s a r : List UInt8} (h : cutA s = (a, r, true)) : s = a ++ [10] ++ r ∧ ∀ b ∈ a, b ≠ 10 := by
  unfold cutA at h
  cases hc : cutL s with
  | none => rw [hc] at h; cases h
  | some p =>
    obtain ⟨a', r'⟩ := p
    rw [hc] at h
    cases h
    obtain ⟨h1, h2⟩ := cutL_some hc
    exact ⟨by rw [h1]; simp, h2⟩
theorem prsA_fuel : ∀ (f f' : Nat) (s : List UInt8) (acc : List Ins), s.length < f → s.length < f' → prsA f s acc = prsA f' s acc
  | 0, _, _, _, h, _ => absurd h (by omega)
  | _ + 1, 0, _, _, _, h => absurd h (by omega)
  | f + 1, f' + 1, s, acc, h, h' => by
    rw [prsA, prsA]
    split
    · rfl
    split
    · rfl
    cases readI (cutA s).1 with
    | none => rfl
    | some x =>
      dsimp only
      split
      · rfl
      rename_i hc
      have hc : (cutA s).2.2 = true := by simpa using hc
      have := (cutA_some (s := s) (a := (cutA s).1) (r := (cutA s).2.1) (by rw [← hc])).1
      have hl := congrArg List.length this
      simp at hl
      exact prsA_fuel f f' _ _ (by omega) (by omega)
theorem fmtA_cons (x : Ins) (l : List Ins) : fmtA (x :: l) = lineI x ++ [10] ++ fmtA l := rfl
theorem fmtA_app (a b : List Ins) : fmtA (a ++ b) = fmtA a ++ fmtA b := by unfold fmtA; simp
theorem prsA_fmt : ∀ (l : List Ins) (f : Nat) (s : List UInt8) (acc : List Ins), (∀ x ∈ l, vIns x = true ∧ FitI x) → acc.length + l.length ≤ 65536 → (fmtA l ++ s).length < f → prsA f (fmtA l ++ s) acc = prsA (s.length + 1) s (acc ++ l)
  | [], f, s, acc, _, _, hf => by
    rw [List.append_nil]
    show prsA f s acc = _
    exact prsA_fuel _ _ _ _ hf (by omega)
  | x :: l, f, s, acc, h, hn, hf => by
    obtain ⟨hv, hfi⟩ := h x (by simp)
    cases f with
    | zero => omega
    | succ f =>
      have hc := cutA_line hv hfi (fmtA l ++ s)
      rw [fmtA_cons, show lineI x ++ [10] ++ fmtA l ++ s = lineI x ++ [10] ++ (fmtA l ++ s) by simp] at hf ⊢
      rw [prsA, if_neg (by simp), if_neg (by simp at hn; omega), hc]
      dsimp only
      rw [readI_line hv hfi]
      dsimp only
      rw [if_neg (by simp), prsA_fmt l f s (acc ++ [x]) (fun y hy => h y (by simp [hy])) (by simp at hn ⊢; omega) (by simp at hf ⊢; omega)]
      simp
theorem parseA_fmt {l : List Ins} (h : ∀ x ∈ l, vIns x = true ∧ FitI x) (hn : l.length ≤ 65536) : parseA (fmtA l) = .ok l := by
  have := prsA_fmt l ((fmtA l).length + 1) [] [] h (by simpa using hn) (by simp)
  rw [List.append_nil] at this
  unfold parseA
  rw [this, prsA, if_pos rfl, List.nil_append]
theorem prsA_ok : ∀ (f : Nat) (s : List UInt8) (acc l : List Ins), s.length < f → acc.length ≤ 65536 → prsA f s acc = .ok l → ∃ l', l = acc ++ l' ∧ fmtA l' = s ∧ (∀ x ∈ l', vIns x = true ∧ FitI x) ∧ l.length ≤ 65536
  | 0, _, _, _, h, _, _ => absurd h (by omega)
  | f + 1, s, acc, l, hf, ha, h => by
    rw [prsA] at h
    split at h
    · rename_i hs
      cases h
      exact ⟨[], by simp, hs.symm, fun x hx => by simp at hx, ha⟩
    split at h
    · cases h
    cases hr : readI (cutA s).1 with
    | none => rw [hr] at h; cases h
    | some x =>
      rw [hr] at h
      dsimp only at h
      split at h
      · cases h
      rename_i hc
      have hc : (cutA s).2.2 = true := by simpa using hc
      have he := (cutA_some (s := s) (a := (cutA s).1) (r := (cutA s).2.1) (by rw [← hc])).1
      have hl := congrArg List.length he
      simp at hl
      obtain ⟨l', h1, h2, h3, h4⟩ := prsA_ok f _ _ _ (by omega) (by simp; omega) h
      obtain ⟨r1, r2, r3⟩ := readI_some hr
      refine ⟨x :: l', by rw [h1]; simp, ?_, fun y hy => ?_, h4⟩
      · rw [fmtA_cons, h2, r3]; exact he.symm
      · rcases List.mem_cons.1 hy with e | e
        · rw [e]; exact ⟨r1, r2⟩
        · exact h3 y e
theorem parseA_ok {s : List UInt8} {l : List Ins} (h : parseA s = .ok l) : fmtA l = s ∧ (∀ x ∈ l, vIns x = true ∧ FitI x) ∧ l.length ≤ 65536 := by
  obtain ⟨l', h1, h2, h3, h4⟩ := prsA_ok _ _ _ _ (by omega) (by simp) h
  rw [List.nil_append] at h1
  subst h1
  exact ⟨h2, h3, h4⟩
/-- An error's line moves with the lines ahead. -/
theorem prsA_shift : ∀ (f : Nat) (s : List UInt8) (acc pre : List Ins), acc.length + s.length ≤ 65000 → pre.length ≤ 500 → prsA f s (pre ++ acc) = (match prsA f s acc with | .err n e => .err (pre.length + n) e | .ok l => .ok (pre ++ l))
  | 0, s, acc, pre, _, _ => rfl
  | f + 1, s, acc, pre, h1, h2 => by
    rw [prsA, prsA]
    split
    · rfl
    rw [if_neg (by simp; omega), if_neg (by omega)]
    cases readI (cutA s).1 with
    | none => simp; omega
    | some x =>
      dsimp only
      split
      · simp; omega
      rename_i hc
      have hc : (cutA s).2.2 = true := by simpa using hc
      have he := (cutA_some (s := s) (a := (cutA s).1) (r := (cutA s).2.1) (by rw [← hc])).1
      have hl := congrArg List.length he
      simp at hl
      rw [show pre ++ acc ++ [x] = pre ++ (acc ++ [x]) by simp]
      exact prsA_shift f _ (acc ++ [x]) pre (by simp; omega) h2

end Go.Proofs.YtodiijoeeeeicaaDoor
