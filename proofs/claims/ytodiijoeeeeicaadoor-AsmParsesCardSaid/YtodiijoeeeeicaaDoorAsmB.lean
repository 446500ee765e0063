/-
  The binary form of machine code, plainly.
-/
import Derived.Test.YtodiijoeeeeicaaDoorAsmP
namespace Go.Proofs.YtodiijoeeeeicaaDoor
open Go.Lib

/-! ### Numbers as bytes, the most significant one first -/
def wid (c : UInt8) : Nat := if c = 107 ∨ c = 116 then 4 else if c = 110 then 8 else 1
def byteOf (x : Int) : UInt8 := UInt8.ofNat (x % 256).toNat
theorem byteOf_toNat (x : Int) : ((byteOf x).toNat : Int) = x % 256 := by
  have h0 := Int.emod_nonneg x (show (256 : Int) ≠ 0 by decide)
  have h1 := Int.emod_lt_of_pos x (show (0 : Int) < 256 by decide)
  unfold byteOf
  rw [UInt8.toNat_ofNat']
  omega
def putL (x : Int) : Nat → List UInt8
  | 0 => []
  | n + 1 => byteOf (x / 256 ^ n) :: putL x n
def valB (l : List UInt8) : Nat := l.foldl (fun a b => a * 256 + b.toNat) 0
theorem putL_len (x : Int) : ∀ n, (putL x n).length = n
  | 0 => rfl
  | n + 1 => by rw [putL, List.length_cons, putL_len x n]
theorem valB_from : ∀ (l : List UInt8) (a : Nat), l.foldl (fun a b => a * 256 + b.toNat) a = a * 256 ^ l.length + valB l
  | [], a => by simp [valB]
  | b :: l, a => by
    rw [List.foldl_cons, valB_from l (a * 256 + b.toNat)]
    unfold valB
    rw [List.foldl_cons, valB_from l (0 * 256 + b.toNat), List.length_cons, Nat.pow_succ]
    simp only [Nat.zero_mul, Nat.zero_add, Nat.add_mul]
    rw [Nat.mul_assoc, Nat.mul_comm (256 ^ l.length) 256, Nat.add_assoc]
    rfl
theorem valB_cons (b : UInt8) (l : List UInt8) : valB (b :: l) = b.toNat * 256 ^ l.length + valB l := by
  unfold valB
  rw [List.foldl_cons, valB_from l (0 * 256 + b.toNat)]
  simp only [Nat.zero_mul, Nat.zero_add]
  rfl
theorem valB_snoc (l : List UInt8) (b : UInt8) : valB (l ++ [b]) = valB l * 256 + b.toNat := by unfold valB; rw [List.foldl_append]; rfl
theorem valB_lt : ∀ (l : List UInt8), valB l < 256 ^ l.length
  | [] => by simp [valB]
  | b :: l => by
    rw [valB_cons, List.length_cons, Nat.pow_succ]
    have h1 := valB_lt l
    have h2 := b.toNat_lt
    have h3 : b.toNat * 256 ^ l.length ≤ 255 * 256 ^ l.length := Nat.mul_le_mul_right _ (by omega)
    omega
theorem valB_inj : ∀ (l m : List UInt8), l.length = m.length → valB l = valB m → l = m
  | [], [], _, _ => rfl
  | [], _ :: _, h, _ => by simp at h
  | _ :: _, [], h, _ => by simp at h
  | a :: l, b :: m, h, hv => by
    have hl : l.length = m.length := by simpa using h
    rw [valB_cons, valB_cons, hl] at hv
    have h1 := valB_lt l
    have h2 := valB_lt m
    rw [hl] at h1
    have hp : 0 < 256 ^ m.length := Nat.pow_pos (by decide)
    have hab : a.toNat = b.toNat := by
      have e1 : (a.toNat * 256 ^ m.length + valB l) / 256 ^ m.length = a.toNat := by
        rw [Nat.mul_comm, Nat.mul_add_div hp, Nat.div_eq_of_lt h1, Nat.add_zero]
      have e2 : (b.toNat * 256 ^ m.length + valB m) / 256 ^ m.length = b.toNat := by
        rw [Nat.mul_comm, Nat.mul_add_div hp, Nat.div_eq_of_lt h2, Nat.add_zero]
      rw [← e1, hv, e2]
    rw [hab] at hv
    rw [UInt8.toNat_inj.1 hab, valB_inj l m hl (by omega)]
theorem emod_split (x a : Int) (ha : 0 < a) : x % (a * 256) = a * ((x / a) % 256) + x % a := by
  have h1 := Int.mul_ediv_add_emod x a
  have h2 := Int.mul_ediv_add_emod (x / a) 256
  have h3 := Int.emod_nonneg x (Int.ne_of_gt ha)
  have h4 := Int.emod_lt_of_pos x ha
  have h5 := Int.emod_nonneg (x / a) (show (256 : Int) ≠ 0 by decide)
  have h6 := Int.emod_lt_of_pos (x / a) (show (0 : Int) < 256 by decide)
  have e : x = (a * ((x / a) % 256) + x % a) + (a * 256) * (x / a / 256) := by
    rw [Int.mul_assoc]
    have : a * ((x / a) % 256) + a * (256 * (x / a / 256)) = a * (x / a) := by rw [← Int.mul_add, Int.add_comm, h2]
    omega
  have h7 : a * ((x / a) % 256) ≤ a * 255 := Int.mul_le_mul_of_nonneg_left (by omega) (by omega)
  have h8 : 0 ≤ a * ((x / a) % 256) := Int.mul_nonneg (by omega) h5
  conv => lhs; rw [e, Int.add_mul_emod_self_left]
  exact Int.emod_eq_of_lt (by omega) (by omega)
theorem valB_put (x : Int) : ∀ n, ((valB (putL x n) : Nat) : Int) = x % 256 ^ n
  | 0 => by simp [putL, valB, Int.emod_one]
  | n + 1 => by
    have hp : (0 : Int) < 256 ^ n := Int.pow_pos (by decide)
    rw [putL, valB_cons, putL_len, Int.pow_succ, emod_split x _ hp, ← valB_put x n, Int.natCast_add, Int.natCast_mul, byteOf_toNat, Int.natCast_pow, Int.mul_comm]
    rfl
/-- The number that was read: eight bytes are a 64-bit number. -/
def getV (l : List UInt8) : Int := if valB l < 9223372036854775808 then valB l else (valB l : Int) - 18446744073709551616
theorem getV_small {l : List UInt8} (h : l.length ≤ 4) : getV l = valB l ∧ (0 : Int) ≤ valB l ∧ (valB l : Int) < 4294967296 := by
  have h1 := valB_lt l
  have h2 : 256 ^ l.length ≤ 256 ^ 4 := Nat.pow_le_pow_right (by decide) h
  have h3 : (256 : Nat) ^ 4 = 4294967296 := by decide
  unfold getV
  rw [if_pos (by omega)]
  exact ⟨rfl, by omega, by omega⟩
theorem getV_fit {l : List UInt8} (h : l.length ≤ 8) : -9223372036854775808 ≤ getV l ∧ getV l ≤ 9223372036854775807 := by
  have h1 := valB_lt l
  have h2 : 256 ^ l.length ≤ 256 ^ 8 := Nat.pow_le_pow_right (by decide) h
  have h3 : (256 : Nat) ^ 8 = 18446744073709551616 := by decide
  unfold getV
  split <;> omega
theorem put_getV {l : List UInt8} {n : Nat} (hl : l.length = n) (hn : n ≤ 8) : putL (getV l) n = l := by
  refine valB_inj _ _ (by rw [putL_len, hl]) ?_
  have h1 := valB_put (getV l) n
  have h2 := valB_lt l
  rw [hl] at h2
  have hp : (0 : Int) < 256 ^ n := Int.pow_pos (by decide)
  have h2' : (valB l : Int) < 256 ^ n := by
    have : ((256 ^ n : Nat) : Int) = 256 ^ n := by rw [Int.natCast_pow]; rfl
    omega
  have key : getV l % 256 ^ n = valB l := by
    unfold getV
    split
    · exact Int.emod_eq_of_lt (by omega) h2'
    · rename_i hb
      have hn8 : n = 8 := by
        rcases Nat.lt_or_ge n 8 with h | h
        · have h3 : 256 ^ n ≤ 256 ^ 7 := Nat.pow_le_pow_right (by decide) (by omega)
          have h4 : (256 : Nat) ^ 7 = 72057594037927936 := by decide
          omega
        · omega
      subst hn8
      have h5 : (256 : Int) ^ 8 = 18446744073709551616 := by decide
      rw [h5] at h2' ⊢
      omega
  rw [key] at h1
  omega
/-- Operands that n bytes hold. -/
def fitW (n : Nat) (v : Int) : Prop := if n = 8 then -9223372036854775808 ≤ v ∧ v ≤ 9223372036854775807 else 0 ≤ v ∧ v < 256 ^ n
theorem get_put {n : Nat} {v : Int} (hn : n = 1 ∨ n = 4 ∨ n = 8) (h : fitW n v) : getV (putL v n) = v := by
  have h1 := valB_put v n
  unfold fitW at h
  unfold getV
  rcases hn with rfl | rfl | rfl
  · rw [if_neg (by decide)] at h
    have h5 : (256 : Int) ^ 1 = 256 := by decide
    rw [h5] at h1 h
    rw [if_pos (by omega)]; omega
  · rw [if_neg (by decide)] at h
    have h5 : (256 : Int) ^ 4 = 4294967296 := by decide
    rw [h5] at h1 h
    rw [if_pos (by omega)]; omega
  · rw [if_pos rfl] at h
    have h5 : (256 : Int) ^ 8 = 18446744073709551616 := by decide
    rw [h5] at h1
    split <;> omega
theorem wid_cases (c : UInt8) : wid c = 1 ∨ wid c = 4 ∨ wid c = 8 := by
  unfold wid
  split
  · exact .inr (.inl rfl)
  · split
    · exact .inr (.inr rfl)
    · exact .inl rfl

/-! ### One instruction -/
def opsB (x : Ins) (k : Nat) : List UInt8 := ((List.range k).map fun j => putL (opdI x j) (wid ((clsL x.op).getD j 0))).flatten
def encI (x : Ins) : List UInt8 := UInt8.ofNat x.op :: opsB x (clsL x.op).length
def encA (l : List Ins) : List UInt8 := putL l.length 4 ++ (l.map encI).flatten
def rdB : List UInt8 → List UInt8 → Option (List Int × List UInt8)
  | [], b => some ([], b)
  | c :: cs, b => if b.length < wid c then none else match rdB cs (b.drop (wid c)) with
    | none => none
    | some (vs, r) => some (getV (b.take (wid c)) :: vs, r)
inductive RI where
  | err (e : Int)
  | ok (x : Ins) (r : List UInt8)
def decI (b : List UInt8) : RI :=
  match b with
  | [] => .err 4
  | o :: b => if 35 ≤ o.toNat then .err 3 else match rdB (clsL o.toNat) b with
    | none => .err 4
    | some (vs, r) => if vIns (mkI o.toNat vs) = true then .ok (mkI o.toNat vs) r else .err 3
inductive RD where
  | err (e : Int)
  | ok (l : List Ins)
def decN : Nat → List UInt8 → List Ins → RD
  | 0, b, acc => if b = [] then .ok acc else .err 3
  | n + 1, b, acc => match decI b with
    | .err e => .err e
    | .ok x r => decN n r (acc ++ [x])
def decA (b : List UInt8) : RD :=
  if b.length < 4 then .err 4
  else if 65536 < valB (b.take 4) then .err 5
  else decN (valB (b.take 4)) (b.drop 4) []
theorem valid_fitW {x : Ins} (h : vIns x = true) (hf : FitI x) {k : Nat} (hk : k < (clsL x.op).length) : fitW (wid ((clsL x.op).getD k 0)) (opdI x k) := by
  have h35 := valid_lt h
  have h4 := (clsL_len x.op).2
  have hfit := hf.opd k
  unfold fitW
  split
  · exact hfit
  · rename_i hne
    have hform : formB x.op x.a x.b x.c x.d = true := by
      unfold vIns validB at h
      simp only [Bool.and_eq_true] at h
      exact h.2
    obtain ⟨op, a, b, c, d⟩ := x
    simp only at *
    have key : 0 ≤ opdI ⟨op, a, b, c, d⟩ k ∧ opdI ⟨op, a, b, c, d⟩ k < (if wid ((clsL op).getD k 0) = 1 then 256 else 65536) := by
      have k4 : k = 0 ∨ k = 1 ∨ k = 2 ∨ k = 3 := by omega
      clear hfit hf h4
      rcases lt35 h35 with h | h | h | h | h | h | h | h | h | h | h | h | h | h | h | h | h | h | h | h | h | h | h | h | h | h | h | h | h | h | h | h | h | h | h <;> subst h
      all_goals simp [formB, regB, numB, idxB, oprB] at hform
      all_goals rcases k4 with h | h | h | h <;> subst h
      all_goals first | (exfalso; simp [clsL] at hk; done) | (exfalso; simp [clsL, wid] at hne; done) | (simp [clsL, wid, opdI, opd]; omega)
    rcases wid_cases ((clsL op).getD k 0) with e | e | e
    · rw [e] at key ⊢
      rw [if_pos rfl] at key
      have h5 : (256 : Int) ^ 1 = 256 := by decide
      rw [h5]; exact key
    · rw [e] at key ⊢
      rw [if_neg (by decide)] at key
      have h5 : (256 : Int) ^ 4 = 4294967296 := by decide
      rw [h5]; omega
    · exact absurd e hne

end Go.Proofs.YtodiijoeeeeicaaDoor
