/-
  The binary form of machine code: reading what was written, cutting it, extending it.
-/
import Derived.Test.YtodiijoeeeeicaaDoorAsmB
namespace Go.Proofs.YtodiijoeeeeicaaDoor
open Go.Lib

/-- Operands written one after the other. -/
def putsL : List UInt8 → List Int → List UInt8
  | c :: cs, v :: vs => putL v (wid c) ++ putsL cs vs
  | _, _ => []
theorem rdB_puts : ∀ (cs : List UInt8) (vs : List Int) (r : List UInt8), vs.length = cs.length → (∀ k, k < cs.length → fitW (wid (cs.getD k 0)) (vs.getD k 0)) → rdB cs (putsL cs vs ++ r) = some (vs, r)
  | [], [], r, _, _ => rfl
  | [], _ :: _, _, h, _ => by simp at h
  | _ :: _, [], _, h, _ => by simp at h
  | c :: cs, v :: vs, r, h, hk => by
    have ih := rdB_puts cs vs r (by simpa using h) (fun k hk' => by simpa using hk (k + 1) (by simpa using hk'))
    have h0 : fitW (wid c) v := by simpa using hk 0 (by simp)
    have hl := putL_len v (wid c)
    rw [putsL, rdB, if_neg (by simp [hl]), List.append_assoc, List.drop_left' hl, ih]
    dsimp only
    rw [List.take_left' hl, get_put (wid_cases c) h0]
theorem rdB_some : ∀ (cs : List UInt8) (b : List UInt8) (vs : List Int) (r : List UInt8), rdB cs b = some (vs, r) → vs.length = cs.length ∧ b = putsL cs vs ++ r ∧ ∀ k, -9223372036854775808 ≤ vs.getD k 0 ∧ vs.getD k 0 ≤ 9223372036854775807
  | [], b, vs, r, h => by
    rw [rdB] at h
    cases h
    exact ⟨rfl, rfl, fun k => by simp⟩
  | c :: cs, b, vs, r, h => by
    rw [rdB] at h
    split at h
    · cases h
    rename_i hl
    cases hr : rdB cs (b.drop (wid c)) with
    | none => rw [hr] at h; cases h
    | some p =>
      obtain ⟨vs', r'⟩ := p
      rw [hr] at h
      cases h
      obtain ⟨h1, h2, h3⟩ := rdB_some cs _ _ _ hr
      have hw : wid c ≤ 8 := by rcases wid_cases c with e | e | e <;> omega
      have htl : (b.take (wid c)).length = wid c := by rw [List.length_take]; omega
      refine ⟨by simp [h1], ?_, fun k => ?_⟩
      · rw [putsL, put_getV htl hw, List.append_assoc, ← h2, List.take_append_drop]
      · cases k with
        | zero => exact getV_fit (by rw [htl]; exact hw)
        | succ k => simpa using h3 k
theorem rdB_cut : ∀ (cs : List UInt8) (vs : List Int) (k : Nat), vs.length = cs.length → (∀ k, k < cs.length → fitW (wid (cs.getD k 0)) (vs.getD k 0)) → k < (putsL cs vs).length → rdB cs ((putsL cs vs).take k) = none
  | [], [], k, _, _, h => by simp [putsL] at h
  | [], _ :: _, _, h, _, _ => by simp at h
  | _ :: _, [], _, h, _, _ => by simp at h
  | c :: cs, v :: vs, k, h, hk, hlt => by
    have hl := putL_len v (wid c)
    rw [rdB]
    by_cases hc : k < wid c
    · rw [if_pos (by rw [List.length_take]; omega)]
    · have e : (putsL (c :: cs) (v :: vs)).take k = putL v (wid c) ++ (putsL cs vs).take (k - wid c) := by
        rw [putsL, List.take_append, hl, List.take_of_length_le (by omega)]
      rw [putsL, List.length_append, hl] at hlt
      have ih := rdB_cut cs vs (k - wid c) (by simpa using h) (fun k hk' => by simpa using hk (k + 1) (by simpa using hk')) (by omega)
      rw [e, if_neg (by simp [hl]), List.drop_left' hl, ih]
theorem puts_ops (x : Ins) : ∀ (n : Nat), n ≤ (clsL x.op).length → putsL ((clsL x.op).drop n) ((opsL x).drop n) = ((List.range ((clsL x.op).length - n)).map fun j => putL (opdI x (n + j)) (wid ((clsL x.op).getD (n + j) 0))).flatten := by
  intro n hn
  generalize hd : (clsL x.op).length - n = d
  induction d generalizing n with
  | zero =>
    have : n = (clsL x.op).length := by omega
    subst this
    rw [List.drop_length]
    simp [putsL]
  | succ d ih =>
    have hlt : n < (clsL x.op).length := by omega
    have hlo : (opsL x).length = (clsL x.op).length := by simp [opsL]
    rw [List.drop_eq_getElem_cons hlt, List.drop_eq_getElem_cons (show n < (opsL x).length by omega), putsL, ih (n + 1) (by omega) (by omega), List.range_succ_eq_map, List.map_cons, List.map_map, List.flatten_cons]
    have e1 : (opsL x)[n]'(by omega) = opdI x (n + 0) := by
      have := opsL_get x n hlt
      rw [List.getD_eq_getElem?_getD, List.getElem?_eq_getElem (by omega)] at this
      exact this
    have e2 : (clsL x.op)[n] = (clsL x.op).getD (n + 0) 0 := by
      rw [List.getD_eq_getElem?_getD, Nat.add_zero, List.getElem?_eq_getElem hlt]; rfl
    rw [e1, e2]
    congr 2
    refine List.map_congr_left fun j _ => ?_
    show _ = putL (opdI x (n + Nat.succ j)) _
    rw [show n + Nat.succ j = n + 1 + j by omega]
theorem opsB_puts (x : Ins) : opsB x (clsL x.op).length = putsL (clsL x.op) (opsL x) := by
  have := puts_ops x 0 (Nat.zero_le _)
  rw [List.drop_zero, List.drop_zero, Nat.sub_zero] at this
  rw [this]
  unfold opsB
  simp only [Nat.zero_add]
theorem op_byte {op : Nat} (h : op < 256) : (UInt8.ofNat op).toNat = op := by rw [UInt8.toNat_ofNat']; omega
theorem opsL_fit {x : Ins} (h : vIns x = true) (hf : FitI x) : ∀ k, k < (clsL x.op).length → fitW (wid ((clsL x.op).getD k 0)) ((opsL x).getD k 0) := fun k hk => by rw [opsL_get x k hk]; exact valid_fitW h hf hk
theorem decI_enc {x : Ins} (h : vIns x = true) (hf : FitI x) (r : List UInt8) : decI (encI x ++ r) = .ok x r := by
  have h35 := valid_lt h
  unfold decI encI
  rw [List.cons_append]
  dsimp only
  rw [op_byte (by omega), if_neg (by omega), opsB_puts, rdB_puts _ _ _ (by simp [opsL]) (opsL_fit h hf)]
  dsimp only
  rw [mkI_opsL h, if_pos h]
theorem decI_cut {x : Ins} (h : vIns x = true) (hf : FitI x) {k : Nat} (hk : k < (encI x).length) : decI ((encI x).take k) = .err 4 := by
  have h35 := valid_lt h
  unfold decI
  cases k with
  | zero => rw [List.take_zero]
  | succ k =>
    unfold encI at hk ⊢
    rw [List.take_succ_cons]
    dsimp only
    rw [opsB_puts] at hk ⊢
    rw [op_byte (by omega), if_neg (by omega), rdB_cut _ _ _ (by simp [opsL]) (opsL_fit h hf) (by simpa using hk)]
theorem decI_ok {b r : List UInt8} {x : Ins} (h : decI b = .ok x r) : vIns x = true ∧ FitI x ∧ encI x ++ r = b := by
  unfold decI at h
  cases b with
  | nil => cases h
  | cons o b =>
    dsimp only at h
    split at h
    · cases h
    rename_i ho
    cases hr : rdB (clsL o.toNat) b with
    | none => rw [hr] at h; cases h
    | some p =>
      obtain ⟨vs, r'⟩ := p
      rw [hr] at h
      dsimp only at h
      split at h
      · rename_i hv
        cases h
        obtain ⟨h1, h2, h3⟩ := rdB_some _ _ _ _ hr
        have h4 := (clsL_len o.toNat).2
        refine ⟨hv, ⟨h3 0, h3 1, h3 2, h3 3⟩, ?_⟩
        have hol : opsL (mkI o.toNat vs) = vs := by
          unfold opsL
          refine List.ext_getElem (by simp [h1]; rfl) fun k hk1 hk2 => ?_
          rw [List.getElem_map, List.getElem_range]
          have hk : k < 4 := by omega
          have e : opdI (mkI o.toNat vs) k = vs.getD k 0 := by
            unfold opdI mkI Go.Proofs.YtodiijoeeeeicaaDoor.opd
            match k, hk with
            | 0, _ => rfl
            | 1, _ => rfl
            | 2, _ => rfl
            | 3, _ => rfl
          rw [e, List.getD_eq_getElem?_getD, List.getElem?_eq_getElem hk2]; rfl
        have hb := opsB_puts (mkI o.toNat vs)
        rw [hol] at hb
        have hop : (mkI o.toNat vs).op = o.toNat := rfl
        unfold encI
        rw [hb, hop, h2]
        simp
      · cases h

/-! ### Code -/
theorem decN_succ (n : Nat) (b : List UInt8) (acc : List Ins) : decN (n + 1) b acc = (match decI b with | .err e => .err e | .ok x r => decN n r (acc ++ [x])) := rfl
theorem decN_enc : ∀ (l : List Ins) (r : List UInt8) (acc : List Ins), (∀ x ∈ l, vIns x = true ∧ FitI x) → decN l.length ((l.map encI).flatten ++ r) acc = decN 0 r (acc ++ l)
  | [], r, acc, _ => by simp
  | x :: l, r, acc, h => by
    obtain ⟨hv, hf⟩ := h x (by simp)
    rw [List.length_cons, List.map_cons, List.flatten_cons, List.append_assoc, decN_succ, decI_enc hv hf]
    dsimp only
    rw [decN_enc l r (acc ++ [x]) (fun y hy => h y (by simp [hy]))]
    simp
theorem len4 {n : Nat} (h : n ≤ 65536) : valB (putL (n : Int) 4) = n := by
  have := valB_put (n : Int) 4
  have h5 : (256 : Int) ^ 4 = 4294967296 := by decide
  rw [h5] at this
  omega
theorem decA_pre {l : List Ins} {r : List UInt8} (h : ∀ x ∈ l, vIns x = true ∧ FitI x) (hn : l.length ≤ 65536) : decA (encA l ++ r) = decN 0 r l := by
  have hl := putL_len (l.length : Int) 4
  have ht : (encA l ++ r).take 4 = putL (l.length : Int) 4 := by
    unfold encA
    rw [List.append_assoc, List.take_left' hl]
  have hd : (encA l ++ r).drop 4 = (l.map encI).flatten ++ r := by
    unfold encA
    rw [List.append_assoc, List.drop_left' hl]
  unfold decA
  rw [if_neg (by unfold encA; simp [hl]), ht, len4 hn, if_neg (by omega), hd, decN_enc l r [] h, List.nil_append]
theorem decA_enc {l : List Ins} (h : ∀ x ∈ l, vIns x = true ∧ FitI x) (hn : l.length ≤ 65536) : decA (encA l) = .ok l := by
  have := decA_pre (r := []) h hn
  rw [List.append_nil] at this
  rw [this, decN, if_pos rfl]
theorem decA_more {l : List Ins} (h : ∀ x ∈ l, vIns x = true ∧ FitI x) (hn : l.length ≤ 65536) (c : UInt8) : decA (encA l ++ [c]) = .err 3 := by
  rw [decA_pre h hn, decN, if_neg (by simp)]
theorem decN_cut : ∀ (l : List Ins) (k : Nat) (acc : List Ins), (∀ x ∈ l, vIns x = true ∧ FitI x) → k < ((l.map encI).flatten).length → decN l.length (((l.map encI).flatten).take k) acc = .err 4
  | [], k, acc, _, hk => by simp at hk
  | x :: l, k, acc, h, hk => by
    obtain ⟨hv, hf⟩ := h x (by simp)
    rw [List.map_cons, List.flatten_cons] at hk ⊢
    rw [List.length_cons, decN]
    by_cases hc : k < (encI x).length
    · rw [List.take_append_of_le_length (by omega), decI_cut hv hf hc]
    · rw [List.take_append, List.take_of_length_le (by omega), decI_enc hv hf]
      dsimp only
      rw [List.length_append] at hk
      exact decN_cut l (k - (encI x).length) _ (fun y hy => h y (by simp [hy])) (by omega)
theorem decA_cut {l : List Ins} (h : ∀ x ∈ l, vIns x = true ∧ FitI x) (hn : l.length ≤ 65536) {k : Nat} (hk : k < (encA l).length) : decA ((encA l).take k) = .err 4 := by
  have hl := putL_len (l.length : Int) 4
  unfold decA
  by_cases h4 : k < 4
  · rw [if_pos (by rw [List.length_take]; omega)]
  · have e : (encA l).take k = putL (l.length : Int) 4 ++ ((l.map encI).flatten).take (k - 4) := by
      unfold encA
      rw [List.take_append, hl, List.take_of_length_le (by omega)]
    have hk' : k - 4 < ((l.map encI).flatten).length := by
      unfold encA at hk
      rw [List.length_append, hl] at hk
      omega
    rw [e, if_neg (by simp [hl]), List.take_left' hl, len4 hn, if_neg (by omega), List.drop_left' hl, decN_cut l (k - 4) [] h hk']
theorem decN_ok : ∀ (n : Nat) (b : List UInt8) (acc l : List Ins), decN n b acc = .ok l → ∃ l', l = acc ++ l' ∧ l'.length = n ∧ (l'.map encI).flatten = b ∧ ∀ x ∈ l', vIns x = true ∧ FitI x
  | 0, b, acc, l, h => by
    rw [decN] at h
    split at h
    · rename_i hb
      cases h
      exact ⟨[], by simp, rfl, hb.symm, fun x hx => by simp at hx⟩
    · cases h
  | n + 1, b, acc, l, h => by
    rw [decN] at h
    cases hd : decI b with
    | err e => rw [hd] at h; cases h
    | ok x r =>
      rw [hd] at h
      obtain ⟨l', h1, h2, h3, h4⟩ := decN_ok n r _ _ h
      obtain ⟨d1, d2, d3⟩ := decI_ok hd
      refine ⟨x :: l', by rw [h1]; simp, by simp [h2], by rw [List.map_cons, List.flatten_cons, h3, d3], fun y hy => ?_⟩
      rcases List.mem_cons.1 hy with e | e
      · rw [e]; exact ⟨d1, d2⟩
      · exact h4 y e
theorem decA_ok {b : List UInt8} {l : List Ins} (h : decA b = .ok l) : encA l = b ∧ (∀ x ∈ l, vIns x = true ∧ FitI x) ∧ l.length ≤ 65536 := by
  unfold decA at h
  split at h
  · cases h
  rename_i h4
  split at h
  · cases h
  rename_i hn
  obtain ⟨l', h1, h2, h3, h5⟩ := decN_ok _ _ _ _ h
  rw [List.nil_append] at h1
  subst h1
  have htl : (b.take 4).length = 4 := by rw [List.length_take]; omega
  refine ⟨?_, h5, by omega⟩
  unfold encA
  rw [h3, h2]
  have hg := getV_small (l := b.take 4) (by omega)
  have := put_getV (l := b.take 4) htl (by decide)
  rw [hg.1] at this
  rw [this, List.take_append_drop]

end Go.Proofs.YtodiijoeeeeicaaDoor
