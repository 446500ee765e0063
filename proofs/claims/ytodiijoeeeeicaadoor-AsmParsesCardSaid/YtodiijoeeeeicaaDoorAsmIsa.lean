/-
  Contracts of package isa, over this seat's translation; instructions in memory.
-/
import Derived.Test.YtodiijoeeeeicaaDoorGMem
import Derived.Test.YtodiijoeeeeicaaDoorIsaPlain
namespace Go.Proofs.YtodiijoeeeeicaaDoor
open Go.ChangeShapes Go.WideShapes Go.ChangeAt Go.RowKit Go.Sort


theorem reg_any (x : Int) (w : World) :
    Calls Tryd.prog 45 #[.int .i64 x] w fun e w' => e = .returned (.bool (regB x)) ∧ w = w' := by
  go_enter Tryd.func45, Tryd.ntmps45
  go_wp2
  all_goals go_ret
  all_goals exact ⟨by simp [regB] <;> omega, rfl⟩
theorem num_any (x : Int) (w : World) :
    Calls Tryd.prog 47 #[.int .i64 x] w fun e w' => e = .returned (.bool (numB x)) ∧ w = w' := by
  go_enter Tryd.func47, Tryd.ntmps47
  go_wp2
  all_goals go_ret
  all_goals exact ⟨by simp [numB] <;> omega, rfl⟩
theorem idx_any (x : Int) (w : World) :
    Calls Tryd.prog 48 #[.int .i64 x] w fun e w' => e = .returned (.bool (idxB x)) ∧ w = w' := by
  go_enter Tryd.func48, Tryd.ntmps48
  go_wp2
  all_goals go_ret
  all_goals exact ⟨by simp [idxB] <;> omega, rfl⟩
theorem opr_any (x : Int) (w : World) :
    Calls Tryd.prog 46 #[.int .i64 x] w fun e w' => e = .returned (.bool (oprB x)) ∧ w = w' := by
  go_enter Tryd.func46, Tryd.ntmps46
  go_wp2
  all_goals go_ret
  all_goals exact ⟨by simp [oprB] <;> omega, rfl⟩
theorem ret_u8 {a b : Int} (h : a = b) : Ending.returned (.int .u8 a) = .returned (.int .u8 b) := by rw [h]
set_option maxRecDepth 100000 in
theorem invN_any (op : Nat) (_hx : op < 256) (w : World) :
    Calls Tryd.prog 49 #[.int .u8 op] w fun e w' => e = .returned (.int .u8 (invN op)) ∧ w = w' := by
  go_enter Tryd.func49, Tryd.ntmps49
  go_wp2
  all_goals go_ret
  all_goals refine ⟨ret_u8 ?_, rfl⟩
  all_goals simp only [beq_iff_eq, beq_eq_false_iff_ne, ne_eq] at *
  all_goals norm_cast at *
  all_goals simp [invN, *]
/-- Package isa's table lies in memory as its initialiser lays it. -/
def Tab (w : World) : Prop := ∀ i, i < 35 → w.cell? ⟨0, i * 2, none⟩ = some (.string ⟨(mnem i).toArray⟩) ∧ w.cell? ⟨0, i * 2 + 1, none⟩ = some (.int .i64 (opsN i))
theorem opsN_hi {op : Nat} (h : ¬ op < 35) : opsN op = 0 := by
  unfold opsN; rw [List.getD_eq_getElem?_getD, List.getElem?_eq_none (by simp; omega)]; rfl
theorem mnem_hi {op : Nat} (h : ¬ op < 35) : mnem op = [] := by
  unfold mnem; rw [List.getD_eq_getElem?_getD, List.getElem?_eq_none (by simp; omega)]; rfl
set_option maxRecDepth 100000 in
theorem inverse_any (op : Nat) (hx : op < 256) (A B C D : Int) (w : World) :
    Calls Tryd.prog 24 #[.agg #[.int .u8 op, .int .i64 A, .int .i64 B, .int .i64 C, .int .i64 D]] w fun e w' => e = .returned (.agg #[.int .u8 (invN op), .int .i64 A, .int .i64 B, .int .i64 C, .int .i64 D]) ∧ Below w.heap.size w w' := by
  go_enter Tryd.func24, Tryd.ntmps24
  go_wp2_with (go_at_call 49; refine (invN_any _ hx _).mono ?_; rintro e w' ⟨rfl, rfl⟩)
  exact bodyPost_ret (v := .agg #[.int .u8 (invN op), .int .i64 A, .int .i64 B, .int .i64 C, .int .i64 D]) (by simp [results, Tryd.results24, go_sem]) rfl ⟨rfl, ((Below.refl _ _).alloc (Nat.le_refl _) _).alloc (by simp) _⟩

theorem opd_rest {op : Nat} {A B C D : Int} (h : ∀ j, j < 4 → opsN op ≤ j → opd A B C D j = 0) : restB op A B C D = true := by
  have a0 := h 0 (by omega); have a1 := h 1 (by omega); have a2 := h 2 (by omega); have a3 := h 3 (by omega)
  simp only [opd, List.getD_cons_zero, List.getD_cons_succ] at a0 a1 a2 a3
  simp only [restB, Bool.and_eq_true, Bool.or_eq_true, decide_eq_true_eq, beq_iff_eq]
  refine ⟨⟨⟨?_, ?_⟩, ?_⟩, ?_⟩ <;> omega
theorem rest_opd {op : Nat} {A B C D : Int} (k : Nat) (hk : k < 4) (ho : opsN op ≤ k) (h0 : opd A B C D k ≠ 0) : restB op A B C D = false := by
  rw [← Bool.not_eq_true]
  simp only [restB, Bool.and_eq_true, Bool.or_eq_true, decide_eq_true_eq, beq_iff_eq]
  rintro ⟨⟨⟨b0, b1⟩, b2⟩, b3⟩
  have : k = 0 ∨ k = 1 ∨ k = 2 ∨ k = 3 := by omega
  rcases this with rfl | rfl | rfl | rfl <;> simp only [opd, List.getD_cons_zero, List.getD_cons_succ] at h0 <;> omega
theorem valid_of_rest {op : Nat} {A B C D : Int} (h : op < 35) (hr : restB op A B C D = true) : validB op A B C D = formB op A B C D := by
  simp [validB, h, hr]
theorem valid_not_rest {op : Nat} {A B C D : Int} (hr : restB op A B C D = false) : validB op A B C D = false := by
  simp [validB, hr]
set_option maxRecDepth 100000 in
set_option maxHeartbeats 4000000 in
theorem valid_any (op : Nat) (hx : op < 256) (A B C D : Int) (w : World) (hT : Tab w) :
    Calls Tryd.prog 20 #[.agg #[.int .u8 op, .int .i64 A, .int .i64 B, .int .i64 C, .int .i64 D]] w fun e w' => e = .returned (.bool (validB op A B C D)) ∧ Below w.heap.size w w' := by
  by_cases h35 : op < 35
  · obtain ⟨h1, h2⟩ := hT op h35
    clear hT h1
    have hB : 0 < w.heap.size := block_lt_of_cell h2
    go_enter Tryd.func20, Tryd.ntmps20
    go_wp2
    have i0 : ∀ w, (Instr.index 68 (.agg #[.int .i64 A, .int .i64 B, .int .i64 C, .int .i64 D]) (.int .i64 0)).run Tryd.prog w = .ok (.int .i64 A) w := fun _ => by kernel_rfl
    have i1 : ∀ w, (Instr.index 68 (.agg #[.int .i64 A, .int .i64 B, .int .i64 C, .int .i64 D]) (.int .i64 1)).run Tryd.prog w = .ok (.int .i64 B) w := fun _ => by kernel_rfl
    have i2 : ∀ w, (Instr.index 68 (.agg #[.int .i64 A, .int .i64 B, .int .i64 C, .int .i64 D]) (.int .i64 2)).run Tryd.prog w = .ok (.int .i64 C) w := fun _ => by kernel_rfl
    have i3 : ∀ w, (Instr.index 68 (.agg #[.int .i64 A, .int .i64 B, .int .i64 C, .int .i64 D]) (.int .i64 3)).run Tryd.prog w = .ok (.int .i64 D) w := fun _ => by kernel_rfl
    go_loop [17] (fun i => ∃ k : Nat, k ≤ 4 ∧ i = .int .i64 k ∧ Hid (∀ j, j < k → opsN op ≤ j → opd A B C D j = 0)) (fun i => 4 - (intOf i).toNat)
    case atStart => exact ⟨0, by omega, rfl, fun j hj => by omega⟩
    case round =>
      obtain ⟨k, hk, rfl, hz⟩ := hrel
      by_cases h4 : k = 4
      · subst h4
        have hv := Lib.hid (valid_of_rest h35 (opd_rest hz.out))
        clear hz h2 i0 i1 i2 i3
        have hcases : op = 0 ∨ op = 1 ∨ op = 2 ∨ op = 3 ∨ op = 4 ∨ op = 5 ∨ op = 6 ∨ op = 7 ∨ op = 8 ∨ op = 9 ∨ op = 10 ∨ op = 11 ∨ op = 12 ∨ op = 13 ∨ op = 14 ∨ op = 15 ∨ op = 16 ∨ op = 17 ∨ op = 18 ∨ op = 19 ∨ op = 20 ∨ op = 21 ∨ op = 22 ∨ op = 23 ∨ op = 24 ∨ op = 25 ∨ op = 26 ∨ op = 27 ∨ op = 28 ∨ op = 29 ∨ op = 30 ∨ op = 31 ∨ op = 32 ∨ op = 33 ∨ op = 34 := by omega
        clear h35 hx hB
        rcases hcases with rfl | rfl | rfl | rfl | rfl | rfl | rfl | rfl | rfl | rfl | rfl | rfl | rfl | rfl | rfl | rfl | rfl | rfl | rfl | rfl | rfl | rfl | rfl | rfl | rfl | rfl | rfl | rfl | rfl | rfl | rfl | rfl | rfl | rfl | rfl
        all_goals
          go_wp2_with (first
            | (go_at_call 45; refine (reg_any _ _).mono ?_; rintro e w' ⟨rfl, rfl⟩)
            | (go_at_call 47; refine (num_any _ _).mono ?_; rintro e w' ⟨rfl, rfl⟩)
            | (go_at_call 48; refine (idx_any _ _).mono ?_; rintro e w' ⟨rfl, rfl⟩)
            | (go_at_call 46; refine (opr_any _ _).mono ?_; rintro e w' ⟨rfl, rfl⟩))
          all_goals go_ret
          all_goals refine ⟨ret_bool ?_, (Below.refl _ _).alloc (Nat.le_refl _) _⟩
          all_goals rw [hv.out]
          all_goals first | (simp [formB, *]; done) | (simp [formB, *]; omega)
      · have h3 : k = 0 ∨ k = 1 ∨ k = 2 ∨ k = 3 := by omega
        by_cases ho : opsN op ≤ k
        · by_cases h0 : opd A B C D k = 0
          · have hz' : Hid (∀ j, j < k + 1 → opsN op ≤ j → opd A B C D j = 0) := fun j hj hoj => by
              by_cases e : j = k
              · rw [e]; exact h0
              · exact hz.out j (by omega) hoj
            clear hz
            rcases h3 with rfl | rfl | rfl | rfl
            all_goals simp only [opd, List.getD_cons_zero, List.getD_cons_succ] at h0
            all_goals subst h0
            all_goals go_wp2
            all_goals go_round
            all_goals first | exact ⟨_, by decide, by go_num, hz'⟩ | (simp [intOf]; done)
          · have hf := Lib.hid (valid_not_rest (rest_opd k (by omega) ho h0))
            clear hz
            rcases h3 with rfl | rfl | rfl | rfl
            all_goals simp only [opd, List.getD_cons_zero, List.getD_cons_succ] at h0
            all_goals have h0b := beq_eq_false_iff_ne.2 h0
            all_goals have h0c := bne_iff_ne.2 h0
            all_goals clear h0
            all_goals go_wp2
            all_goals go_ret
            all_goals exact ⟨ret_bool hf.out.symm, (Below.refl _ _).alloc (Nat.le_refl _) _⟩
        · have hz' : Hid (∀ j, j < k + 1 → opsN op ≤ j → opd A B C D j = 0) := fun j hj hoj => by
            by_cases e : j = k
            · omega
            · exact hz.out j (by omega) hoj
          clear hz
          rcases h3 with rfl | rfl | rfl | rfl
          all_goals go_wp2
          all_goals go_round
          all_goals first | exact ⟨_, by decide, by go_num, hz'⟩ | (simp [intOf]; done)
  · clear hT
    go_enter Tryd.func20, Tryd.ntmps20
    go_wp2
    go_ret
    exact ⟨ret_bool (by simp [validB, h35]), (Below.refl _ _).alloc (Nat.le_refl _) _⟩

theorem operands_any (op : Nat) (hx : op < 256) (w : World) (hT : Tab w) :
    Calls Tryd.prog 22 #[.int .u8 op] w fun e w' => e = .returned (.int .i64 (opsN op)) ∧ w = w' := by
  by_cases h : op < 35
  · obtain ⟨h1, h2⟩ := hT op h
    clear hT h1
    go_enter Tryd.func22, Tryd.ntmps22
    go_wp2
    go_ret
    exact ⟨rfl, rfl⟩
  · clear hT
    go_enter Tryd.func22, Tryd.ntmps22
    go_wp2
    go_ret
    exact ⟨by rw [opsN_hi h]; rfl, rfl⟩
theorem mnemonic_any (op : Nat) (hx : op < 256) (w : World) (hT : Tab w) :
    Calls Tryd.prog 23 #[.int .u8 op] w fun e w' => e = .returned (.string ⟨(mnem op).toArray⟩) ∧ w = w' := by
  by_cases h : op < 35
  · obtain ⟨h1, h2⟩ := hT op h
    clear hT h2
    go_enter Tryd.func23, Tryd.ntmps23
    go_wp2
    go_ret
    exact ⟨rfl, rfl⟩
  · clear hT
    go_enter Tryd.func23, Tryd.ntmps23
    go_wp2
    go_ret
    exact ⟨by rw [mnem_hi h]; rfl, rfl⟩

theorem Tab.mono {w w' : World} (h : Tab w) (hb : Below w.heap.size w w') : Tab w' := by
  intro i hi
  obtain ⟨h1, h2⟩ := h i hi
  have l : 0 < w.heap.size := block_lt_of_cell h1
  exact ⟨by rw [hb.cell (p := ⟨0, i * 2, none⟩) l]; exact h1, by rw [hb.cell (p := ⟨0, i * 2 + 1, none⟩) l]; exact h2⟩
theorem Tab.alloc {w : World} (h : Tab w) (o : Obj) : Tab (w.alloc o) := h.mono ((Below.refl _ _).alloc (Nat.le_refl _) _)
theorem op_cases {op : Nat} (h : op < 35) : op = 0 ∨ op = 1 ∨ op = 2 ∨ op = 3 ∨ op = 4 ∨ op = 5 ∨ op = 6 ∨ op = 7 ∨ op = 8 ∨ op = 9 ∨ op = 10 ∨ op = 11 ∨ op = 12 ∨ op = 13 ∨ op = 14 ∨ op = 15 ∨ op = 16 ∨ op = 17 ∨ op = 18 ∨ op = 19 ∨ op = 20 ∨ op = 21 ∨ op = 22 ∨ op = 23 ∨ op = 24 ∨ op = 25 ∨ op = 26 ∨ op = 27 ∨ op = 28 ∨ op = 29 ∨ op = 30 ∨ op = 31 ∨ op = 32 ∨ op = 33 ∨ op = 34 := by omega
theorem invN_hi {op : Nat} (h : ¬ op < 35) : invN op = op := by
  unfold invN
  rw [if_neg (by omega), if_neg (by omega), if_neg (by omega), if_neg (by omega), if_neg (by omega), if_neg (by omega), if_neg (by omega), if_neg (by omega), if_neg (by omega), if_neg (by omega), if_neg (by omega), if_neg (by omega), if_neg (by omega), if_neg (by omega), if_neg (by omega), if_neg (by omega), if_neg (by omega), if_neg (by omega), if_neg (by omega), if_neg (by omega)]
theorem invN_lt {op : Nat} (h : op < 35) : invN op < 35 := by
  rcases op_cases h with rfl | rfl | rfl | rfl | rfl | rfl | rfl | rfl | rfl | rfl | rfl | rfl | rfl | rfl | rfl | rfl | rfl | rfl | rfl | rfl | rfl | rfl | rfl | rfl | rfl | rfl | rfl | rfl | rfl | rfl | rfl | rfl | rfl | rfl | rfl <;> decide
theorem invN_256 {op : Nat} (h : op < 256) : invN op < 256 := by
  by_cases h35 : op < 35
  · have := invN_lt h35; omega
  · rw [invN_hi h35]; exact h
theorem invN_invN (op : Nat) : invN (invN op) = op := by
  by_cases h35 : op < 35
  · rcases op_cases h35 with rfl | rfl | rfl | rfl | rfl | rfl | rfl | rfl | rfl | rfl | rfl | rfl | rfl | rfl | rfl | rfl | rfl | rfl | rfl | rfl | rfl | rfl | rfl | rfl | rfl | rfl | rfl | rfl | rfl | rfl | rfl | rfl | rfl | rfl | rfl <;> rfl
  · rw [invN_hi h35, invN_hi h35]
theorem opsN_invN (op : Nat) : opsN (invN op) = opsN op := by
  by_cases h35 : op < 35
  · rcases op_cases h35 with rfl | rfl | rfl | rfl | rfl | rfl | rfl | rfl | rfl | rfl | rfl | rfl | rfl | rfl | rfl | rfl | rfl | rfl | rfl | rfl | rfl | rfl | rfl | rfl | rfl | rfl | rfl | rfl | rfl | rfl | rfl | rfl | rfl | rfl | rfl <;> rfl
  · rw [invN_hi h35]
theorem formB_invN {op : Nat} (h35 : op < 35) (A B C D : Int) : formB (invN op) A B C D = formB op A B C D := by
  rcases op_cases h35 with rfl | rfl | rfl | rfl | rfl | rfl | rfl | rfl | rfl | rfl | rfl | rfl | rfl | rfl | rfl | rfl | rfl | rfl | rfl | rfl | rfl | rfl | rfl | rfl | rfl | rfl | rfl | rfl | rfl | rfl | rfl | rfl | rfl | rfl | rfl <;> rfl
theorem valid_invN (op : Nat) (A B C D : Int) : validB (invN op) A B C D = validB op A B C D := by
  by_cases h35 : op < 35
  · have := invN_lt h35
    simp only [validB, restB, opsN_invN, formB_invN h35, h35, this]
  · rw [invN_hi h35]

structure Ins where
  op : Nat
  a : Int
  b : Int
  c : Int
  d : Int
  deriving DecidableEq
def Ins.val (x : Ins) : Value := .agg #[.int .u8 x.op, .int .i64 x.a, .int .i64 x.b, .int .i64 x.c, .int .i64 x.d]
/-- The five cells of an instruction, from an offset on. -/
structure InsO (w : World) (b o : Nat) (x : Ins) : Prop where
  c0 : w.cell? ⟨b, o, none⟩ = some (.int .u8 x.op)
  c1 : w.cell? ⟨b, o + 1, none⟩ = some (.int .i64 x.a)
  c2 : w.cell? ⟨b, o + 2, none⟩ = some (.int .i64 x.b)
  c3 : w.cell? ⟨b, o + 3, none⟩ = some (.int .i64 x.c)
  c4 : w.cell? ⟨b, o + 4, none⟩ = some (.int .i64 x.d)
theorem InsO.lt {w : World} {b o : Nat} {x : Ins} (h : InsO w b o x) : b < w.heap.size := block_lt_of_cell h.c0
theorem InsO.mono {w w' : World} {b o : Nat} {x : Ins} (h : InsO w b o x) (hb : Below w.heap.size w w') : InsO w' b o x := by
  have l := h.lt
  have e : ∀ o, w'.cell? ⟨b, o, none⟩ = w.cell? ⟨b, o, none⟩ := fun o => hb.cell (p := ⟨b, o, none⟩) l
  exact ⟨by rw [e]; exact h.c0, by rw [e]; exact h.c1, by rw [e]; exact h.c2, by rw [e]; exact h.c3, by rw [e]; exact h.c4⟩
/-- The slice at A holds these instructions. -/
def CodeAt (w : World) (A : Option Addr) (l : List Ins) : Prop :=
  ∀ k x, l[k]? = some x → ∃ b o, A = some ⟨b, o, none⟩ ∧ InsO w b (o + k * 5) x
theorem CodeAt.mono {w w' : World} {A : Option Addr} {l : List Ins} (h : CodeAt w A l) (hb : Below w.heap.size w w') : CodeAt w' A l := fun k x hk => by
  obtain ⟨b, o, e, hi⟩ := h k x hk
  exact ⟨b, o, e, hi.mono hb⟩
theorem CodeAt.at_ {w : World} {A : Option Addr} {l : List Ins} (h : CodeAt w A l) {k : Nat} (hk : k < l.length) : ∃ b o, A = some ⟨b, o, none⟩ ∧ InsO w b (o + k * 5) l[k] :=
  h k l[k] (List.getElem?_eq_getElem hk)
/-- Every opcode is a byte. -/
def Bytes (l : List Ins) : Prop := ∀ (k : Nat) (x : Ins), l[k]? = some x → x.op < 256
theorem Bytes.at_ {l : List Ins} (h : Bytes l) {k : Nat} (hk : k < l.length) : l[k].op < 256 := h k _ (List.getElem?_eq_getElem hk)

end Go.Proofs.YtodiijoeeeeicaaDoor
