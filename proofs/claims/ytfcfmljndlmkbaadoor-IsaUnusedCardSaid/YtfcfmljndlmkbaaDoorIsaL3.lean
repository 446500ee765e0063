/-
  The walk of the law IsaUnused.
-/
import Derived.Test.YtfcfmljndlmkbaaDoorIsaL4
namespace Go.Proofs.YtfcfmljndlmkbaaDoor
open Go.ChangeShapes Go.WideShapes Go.ChangeAt Go.RowKit Go.Sort

theorem opsN_le (op : Nat) : opsN op ≤ 4 := by
  by_cases h35 : op < 35
  · rcases op_cases h35 with rfl | rfl | rfl | rfl | rfl | rfl | rfl | rfl | rfl | rfl | rfl | rfl | rfl | rfl | rfl | rfl | rfl | rfl | rfl | rfl | rfl | rfl | rfl | rfl | rfl | rfl | rfl | rfl | rfl | rfl | rfl | rfl | rfl | rfl | rfl <;> decide
  · rw [opsN_hi h35]; decide
theorem mnem_inj {a b : Nat} (ha : a < 35) (hb : b < 35) (h : mnem a = mnem b) : a = b := by
  have key : ∀ a, a < 35 → ∀ b, b < 35 → mnem a = mnem b → a = b := by decide
  exact key a ha b hb h
theorem mnem_ne {a : Nat} (ha : a < 35) : mnem a ≠ [] := by
  have key : ∀ a, a < 35 → mnem a ≠ [] := by decide
  exact key a ha
theorem rest_zero {op : Nat} {A B C D : Int} (h : validB op A B C D = true) (k : Nat) (hk : k < 4) (ho : opsN op ≤ k) : opd A B C D k = 0 := by
  simp only [validB, restB, Bool.and_eq_true, Bool.or_eq_true, decide_eq_true_eq, beq_iff_eq] at h
  obtain ⟨⟨_, ⟨⟨⟨b0, b1⟩, b2⟩, b3⟩⟩, _⟩ := h
  have : k = 0 ∨ k = 1 ∨ k = 2 ∨ k = 3 := by omega
  rcases this with rfl | rfl | rfl | rfl <;> simp only [opd, List.getD_cons_zero, List.getD_cons_succ] <;> omega

theorem mcases (op other : Nat) : (op = other ∧ ¬ mnem op = []) ∨ (op = other ∧ mnem op = [])
    ∨ (¬ (op : Int) = other ∧ ((op : Int) == other) = false ∧ (mnem op == mnem other) = true ∧ mnem op = [] ∧ mnem other = [] ∧ mnem op = mnem other)
    ∨ (¬ (op : Int) = other ∧ ((op : Int) == other) = false ∧ (mnem op == mnem other) = false ∧ ¬ mnem op = [] ∧ mnem other = [] ∧ ¬ mnem op = mnem other)
    ∨ (¬ (op : Int) = other ∧ ((op : Int) == other) = false ∧ (mnem op == mnem other) = false ∧ mnem op = [] ∧ ¬ mnem other = [] ∧ ¬ mnem op = mnem other)
    ∨ (¬ (op : Int) = other ∧ ((op : Int) == other) = false ∧ (mnem op == mnem other) = false ∧ ¬ mnem op = [] ∧ ¬ mnem other = [] ∧ ¬ mnem op = mnem other) := by
  by_cases h : op = other
  · by_cases h2 : mnem op = []
    · exact .inr (.inl ⟨h, h2⟩)
    · exact .inl ⟨h, h2⟩
  · have e1 : ¬ (op : Int) = other := by omega
    have e2 : ((op : Int) == other) = false := beq_eq_false_iff_ne.2 e1
    by_cases a : op < 35 <;> by_cases b : other < 35
    · have c := mnem_ne a
      have d := mnem_ne b
      have n : ¬ mnem op = mnem other := fun x => h (mnem_inj a b x)
      exact .inr (.inr (.inr (.inr (.inr ⟨e1, e2, beq_eq_false_iff_ne.2 n, c, d, n⟩))))
    · have c := mnem_ne a
      have d := mnem_hi b
      have n : ¬ mnem op = mnem other := fun x => c (x.trans d)
      exact .inr (.inr (.inr (.inl ⟨e1, e2, beq_eq_false_iff_ne.2 n, c, d, n⟩)))
    · have c := mnem_hi a
      have d := mnem_ne b
      have n : ¬ mnem op = mnem other := fun x => d (x.symm.trans c)
      exact .inr (.inr (.inr (.inr (.inl ⟨e1, e2, beq_eq_false_iff_ne.2 n, c, d, n⟩))))
    · have c := mnem_hi a
      have d := mnem_hi b
      have n : mnem op = mnem other := c.trans d.symm
      exact .inr (.inr (.inl ⟨e1, e2, beq_iff_eq.2 n, c, d, n⟩))

theorem close1 {n : Nat} (h : n ≤ 4) : decide ((n : Int) ≤ 4) = true := by simp; omega
theorem close2 {n : Nat} (h : n ≤ 4) {l : List UInt8} (hl : ¬ l = []) : (!l.isEmpty && decide ((n : Int) ≤ 4)) = true := by simp [hl]; omega

theorem four_cells (w : World) (T : TypeId) (A B C D : Int) (k : Nat) (hk : k < 4) : (w.alloc (Obj.cells #[Value.int IntKind.i64 A, Value.int IntKind.i64 B, Value.int IntKind.i64 C, Value.int IntKind.i64 D] T)).cell? ⟨w.heap.size, k, none⟩ = some (.int .i64 (opd A B C D k)) := by
  have : k = 0 ∨ k = 1 ∨ k = 2 ∨ k = 3 := by omega
  rcases this with rfl | rfl | rfl | rfl <;> simp [go_sem, opd]

set_option maxRecDepth 100000 in
set_option maxHeartbeats 800000 in
theorem isaUnused_walk (op : Nat) (hx : op < 256) (A B C D : Int) (other : Nat) (hy : other < 256) (w : World) (hT : Tab w) :
    Calls Tryd.prog 5 #[.agg #[.int .u8 op, .int .i64 A, .int .i64 B, .int .i64 C, .int .i64 D], .int .u8 other] w fun e w' => e = .returned (.bool true) ∧ Below w.heap.size w w' := by
  have h4 := opsN_le op
  have ib := insAt_box w 23 op A B C D
  have hTW := Lib.hid (hT.alloc (Obj.cells #[Value.int IntKind.u8 ↑op, Value.int IntKind.i64 A, Value.int IntKind.i64 B, Value.int IntKind.i64 C, Value.int IntKind.i64 D] 23))
  have hbW := below_box w (Obj.cells #[Value.int IntKind.u8 ↑op, Value.int IntKind.i64 A, Value.int IntKind.i64 B, Value.int IntKind.i64 C, Value.int IntKind.i64 D] 23)
  clear hT
  go_enter Tryd.func5, Tryd.ntmps5
  go_wp2_with fail
  generalize w.alloc _ = W at ib hTW hbW ⊢
  refine (awake21_any _ hTW.out).mono ?_
  rintro e w1 ⟨rfl, hb1⟩
  have ib1 := ib.mono hb1
  have hT1 := Lib.hid (hTW.out.mono hb1)
  have q1 := below_step hbW hbW.size hb1
  clear ib hTW hbW hb1
  obtain ⟨c0, c1, c2, c3, c4, fz⟩ := id ib1
  have s1 := ib1.lt
  go_wp2_with fail
  refine (operands_any op hx _ hT1.out).mono ?_
  rintro e w2 ⟨rfl, rfl⟩
  go_wp2_with fail
  have hl := four_cells w1 3 A B C D
  have hbx := below_box w1 (Obj.cells #[Value.int IntKind.i64 A, Value.int IntKind.i64 B, Value.int IntKind.i64 C, Value.int IntKind.i64 D] 3)
  have hsz : (w1.alloc (Obj.cells #[Value.int IntKind.i64 A, Value.int IntKind.i64 B, Value.int IntKind.i64 C, Value.int IntKind.i64 D] 3)).heap.size = w1.heap.size + 1 := by simp [go_sem]
  generalize w1.alloc _ = W2 at hl hbx hsz ⊢
  have ib2 := ib1.mono hbx
  have q2 := below_step q1 q1.size hbx
  have hT2 := Lib.hid (hT1.out.mono hbx)
  clear ib1 q1 hT1 hbx c0 c1 c2 c3 c4 fz
  refine (valid_any op hx A B C D _ hT2.out).mono ?_
  rintro e w3 ⟨rfl, hb3⟩
  have ib3 := ib2.mono hb3
  have q3 := below_step q2 q2.size hb3
  have hT3 := Lib.hid (hT2.out.mono hb3)
  have hl3 : ∀ k, k < 4 → w3.cell? ⟨w1.heap.size, k, none⟩ = some (.int .i64 (opd A B C D k)) := fun k hk => by
    rw [hb3.cell (p := ⟨w1.heap.size, k, none⟩) (by rw [hsz]; exact Nat.lt_succ_self _)]; exact hl k hk
  have HL := Lib.hid hl3
  clear ib2 q2 hT2 hb3 hl hl3 hsz
  obtain ⟨c0, c1, c2, c3, c4, fz⟩ := id ib3
  by_cases hv : validB op A B C D = true
  · have hz := Lib.hid (fun k => rest_zero hv k)
    have hlo : mnem op ≠ [] := mnem_ne (by
      simp only [validB, Bool.and_eq_true, decide_eq_true_eq] at hv
      exact hv.1.1)
    have HLO := Lib.hid hlo
    clear hlo
    go_wp2
    go_loop [7] (fun i => ∃ k : Nat, opsN op ≤ k ∧ k ≤ 4 ∧ i = .int .i64 k) (fun i => 4 - (intOf i).toNat)
    case atStart => exact ⟨opsN op, Nat.le_refl _, h4, rfl⟩
    case round =>
      obtain ⟨k, hk1, hk2, rfl⟩ := hrel
      by_cases hk4 : k < 4
      · have hz' := hz.out k hk4 hk1
        have hc := HL.out k hk4
        rw [hz'] at hc
        clear hz'
        go_wp2
        exact ⟨⟨k + 1, by omega, by omega, by go_num⟩, by simp [intOf]; omega⟩
      · clear hz
        go_wp2_with fail
        refine (mnemonic_any op hx _ hT3.out).mono ?_
        rintro e w4 ⟨rfl, rfl⟩
        go_wp2_with fail
        refine (mnemonic_any _ hy _ hT3.out).mono ?_
        rintro e w4 ⟨rfl, rfl⟩
        rcases mcases op other with ⟨m0, m1⟩ | ⟨m0, m1⟩ | ⟨m0, m1, m2, m3, m4, m5⟩ | ⟨m0, m1, m2, m3, m4, m5⟩ | ⟨m0, m1, m2, m3, m4, m5⟩ | ⟨m0, m1, m2, m3, m4, m5⟩
        all_goals first
          | exact absurd m1 HLO.out
          | exact absurd m3 HLO.out
          | skip
        · subst m0
          go_wp2
          go_ret
          first | exact ⟨ret_bool (close1 h4), q3⟩ | exact ⟨ret_bool (close2 h4 m3), q3⟩
        · go_wp2
          go_ret
          first | exact ⟨ret_bool (close1 h4), q3⟩ | exact ⟨ret_bool (close2 h4 m3), q3⟩
        · go_wp2
          go_ret
          first | exact ⟨ret_bool (close1 h4), q3⟩ | exact ⟨ret_bool (close2 h4 m3), q3⟩
  · have hv' : validB op A B C D = false := by simpa using hv
    clear hv
    go_wp2_with fail
    refine (mnemonic_any op hx _ hT3.out).mono ?_
    rintro e w4 ⟨rfl, rfl⟩
    go_wp2_with fail
    refine (mnemonic_any _ hy _ hT3.out).mono ?_
    rintro e w4 ⟨rfl, rfl⟩
    rcases mcases op other with ⟨m0, m1⟩ | ⟨m0, m1⟩ | ⟨m0, m1, m2, m3, m4, m5⟩ | ⟨m0, m1, m2, m3, m4, m5⟩ | ⟨m0, m1, m2, m3, m4, m5⟩ | ⟨m0, m1, m2, m3, m4, m5⟩
    · subst m0
      go_wp2
      go_ret
      first | exact ⟨ret_bool (close1 h4), q3⟩ | exact ⟨ret_bool (close2 h4 m3), q3⟩
    · subst m0
      go_wp2_with (go_at_call 12; refine (valid_any op hx A B C D _ hT3.out).mono ?_; rintro e w5 ⟨rfl, hb5⟩)
      go_ret
      first | exact ⟨ret_bool (close1 h4), below_step q3 q3.size hb5⟩ | exact ⟨ret_bool (close2 h4 m3), below_step q3 q3.size hb5⟩
    all_goals
      go_wp2_with (go_at_call 12; refine (valid_any op hx A B C D _ hT3.out).mono ?_; rintro e w5 ⟨rfl, hb5⟩)
      go_ret
      first
        | exact ⟨ret_bool (close1 h4), q3⟩
        | exact ⟨ret_bool (close2 h4 m3), q3⟩
        | exact ⟨ret_bool (close1 h4), below_step q3 q3.size hb5⟩ | exact ⟨ret_bool (close2 h4 m3), below_step q3 q3.size hb5⟩

end Go.Proofs.YtfcfmljndlmkbaaDoor
