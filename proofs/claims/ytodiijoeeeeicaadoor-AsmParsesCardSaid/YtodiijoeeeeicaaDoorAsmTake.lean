/-
  The contract of asm.take.
-/
import Derived.Test.YtodiijoeeeeicaaDoorAsmEnc
import Derived.BigQuiet
namespace Go.Proofs.YtodiijoeeeeicaaDoor
open Go.ChangeShapes Go.WideShapes Go.ChangeAt Go.RowKit Go.Sort

/-- The slice at A holds these bytes. -/
def BysAt (w : World) (A : Option Addr) (l : List UInt8) : Prop := ∀ (k : Nat) (c : UInt8), l[k]? = some c → ∃ b o, A = some ⟨b, o, none⟩ ∧ w.cell? ⟨b, o + k, none⟩ = some (.int .u8 c.toNat)
theorem BysAt.mono {w w' : World} {A : Option Addr} {l : List UInt8} (h : BysAt w A l) (hb : Below w.heap.size w w') : BysAt w' A l := fun k c hk => by
  obtain ⟨b, o, e, h1⟩ := h k c hk
  exact ⟨b, o, e, below_cell hb h1⟩
theorem BysAt.at_ {w : World} {A : Option Addr} {l : List UInt8} (h : BysAt w A l) {k : Nat} (hk : k < l.length) : ∃ b o, A = some ⟨b, o, none⟩ ∧ w.cell? ⟨b, o + k, none⟩ = some (.int .u8 l[k].toNat) := h k l[k] (List.getElem?_eq_getElem hk)
theorem BysAt.drop {w : World} {b o n : Nat} {l : List UInt8} (h : BysAt w (some ⟨b, o, none⟩) l) : BysAt w (some ⟨b, o + n, none⟩) (l.drop n) := fun k c hk => by
  rw [List.getElem?_drop] at hk
  obtain ⟨b', o', e, h1⟩ := h _ c hk
  cases e
  exact ⟨b, o + n, rfl, by rw [Nat.add_assoc]; exact h1⟩

theorem or_byte (v c : Nat) (hv : v < 72057594037927936) (hc : c < 256) : bits .or .i64 (wrap64 ((v : Int) * 256)) (wrap64 (c : Int)) = wrap64 ((v : Int) * 256 + c) := by
  have h1 : (BitVec.ofInt 64 (wrap64 ((v : Int) * 256))).toNat = 2 ^ 8 * v := by
    rw [BitVec.toNat_ofInt]
    unfold wrap64
    omega
  have h2 : (BitVec.ofInt 64 (wrap64 (c : Int))).toNat = c := by
    rw [BitVec.toNat_ofInt]
    unfold wrap64
    omega
  show IntKind.i64.wrap ((BitVec.ofInt 64 (wrap64 ((v : Int) * 256)) ||| BitVec.ofInt 64 (wrap64 (c : Int))).toNat : Int) = _
  rw [BitVec.toNat_or, h1, h2, ← Nat.two_pow_add_eq_or_of_lt (i := 8) (by omega) v, IntKind.wrap_i64]
  unfold wrap64
  omega
theorem getV_snoc {q : List UInt8} {c : UInt8} (h : q.length ≤ 7) : bits .or .i64 (wrap64 (getV q * 256)) (wrap64 (c.toNat : Int)) = getV (q ++ [c]) := by
  have h1 := valB_lt q
  have h2 : 256 ^ q.length ≤ 256 ^ 7 := Nat.pow_le_pow_right (by decide) h
  have h3 : (256 : Nat) ^ 7 = 72057594037927936 := by decide
  have h4 := c.toNat_lt
  have e : getV q = valB q := by unfold getV; rw [if_pos (by omega)]
  rw [e, or_byte _ _ (by omega) h4]
  unfold getV
  rw [valB_snoc]
  unfold wrap64
  split <;> omega

/-- What take hands back. -/
def RetT (W0 : World) (l : List UInt8) (cap n : Nat) (w : World) (e : Ending) (w' : World) : Prop :=
  Below w.heap.size w w' ∧ if l.length < n then e = .returned (.tuple #[.int .i64 0, .slice none 0 0, .bool false]) else ∃ A, e = .returned (.tuple #[.int .i64 (getV (l.take n)), .slice A (l.length - n : Nat) (cap - n), .bool true]) ∧ BysAt W0 A (l.drop n)
set_option maxRecDepth 100000 in
set_option maxHeartbeats 4000000 in
theorem take_any (W0 : World) (l : List UInt8) (A : Option Addr) (cap n : Nat) (w : World) (hL : BysAt W0 A l) (hW : Below W0.heap.size W0 w) (hcap : l.length ≤ cap) (hn : n ≤ 8) (h1 : 1 ≤ n) :
    Calls Tryd.prog 50 #[.slice A l.length cap, .int .i64 n] w (RetT W0 l cap n w) := by
  by_cases hnl : l.length < n
  · have HR := Lib.hid (show RetT W0 l cap n w (.returned (.tuple #[.int .i64 0, .slice none 0 0, .bool false])) w from ⟨Below.refl _ _, by rw [if_pos hnl]⟩)
    clear hL hW
    go_enter Tryd.func50, Tryd.ntmps50
    go_wp2
    exact bodyPost_ret (v := .tuple #[.int .i64 0, .slice none 0 0, .bool false]) (by simp [results, Tryd.results50, go_sem]) rfl HR.out
  have HR := Lib.hid (fun (A' : Option Addr) (w' : World) (hb : Below w.heap.size w w') (hB : BysAt W0 A' (l.drop n)) => show RetT W0 l cap n w (.returned (.tuple #[.int .i64 (getV (l.take n)), .slice A' (l.length - n : Nat) (cap - n), .bool true])) w' from ⟨hb, by rw [if_neg hnl]; exact ⟨A', rfl, hB⟩⟩)
  obtain ⟨b, o, rfl, _⟩ := hL.at_ (k := 0) (by omega)
  have HL := Lib.hid hL
  have HW := Lib.hid hW
  clear hL hW
  go_enter Tryd.func50, Tryd.ntmps50
  go_wp2
  go_loopw [7, 18] (fun x i wr => ∃ k : Nat, k ≤ n ∧ i = .int .i64 k ∧ x = .int .i64 (getV (l.take k)) ∧ Hid (Below w.heap.size w wr)) (fun _ i _ => n - (intOf i).toNat)
  case atStart => exact ⟨0, by omega, rfl, rfl, Below.refl _ _⟩
  case round =>
    obtain ⟨k, hk, rfl, rfl, hb⟩ := hrel
    by_cases hin : k < n
    · obtain ⟨b', o', e, hc0⟩ := (HL.out.mono (below_step HW.out HW.out.size hb.out)).at_ (show k < l.length by omega)
      cases e
      have r1 : (0 : Int) ≤ k := by omega
      have r2 : (k : Int) < n := by omega
      have HG := Lib.hid (getV_snoc (q := l.take k) (c := l[k]'(by omega)) (by rw [List.length_take]; omega))
      have HTK := Lib.hid (List.take_succ_eq_append_getElem (show k < l.length by omega))
      go_wp2
      exact ⟨⟨k + 1, by omega, by go_num, by rw [HG.out, HTK.out], hb⟩, by simp [intOf]; omega⟩
    · obtain rfl : k = n := by omega
      have s1 : (0 : Int) ≤ k := by omega
      have s2 : (k : Int) ≤ l.length := by omega
      have HB2 := HL
      by_cases hck : cap = k
      · have HE := Lib.hid (show BysAt W0 (some ⟨b, o, none⟩) (l.drop k) from by rw [List.drop_of_length_le (by omega)]; intro j c hj; simp at hj)
        subst hck
        go_wp2
        go_quiet (fail)
        go_wp2
        have e1 : l.length - cap = 0 := by omega
        exact bodyPost_ret (v := .tuple #[.int .i64 (getV (l.take cap)), .slice (some ⟨b, o, none⟩) (l.length - cap) (cap - cap), .bool true]) (by simp [results, Tryd.results50, go_sem, e1]) rfl (HR.out _ _ (below_drewN hb.out _) HE.out)
      · have hck2 : k < cap := by omega
        go_wp2
        go_quiet (fail)
        go_wp2
        exact bodyPost_ret (v := .tuple #[.int .i64 (getV (l.take k)), .slice (some ⟨b, o + k, none⟩) (l.length - k) (cap - k), .bool true]) (by simp [results, Tryd.results50, go_sem]) rfl (HR.out _ _ (below_drewN hb.out _) HB2.out.drop)

end Go.Proofs.YtodiijoeeeeicaaDoor
