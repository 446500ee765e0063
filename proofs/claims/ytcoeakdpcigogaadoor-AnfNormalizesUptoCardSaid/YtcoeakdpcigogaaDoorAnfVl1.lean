/-
  anf.Valid: fields, operation, slices.Equal of bools.
  anf.Valid: operation.
  anf.Valid: the checker in memory; a call.
-/
import Derived.Test.YtcoeakdpcigogaaDoorAnfPlain
import Derived.Test.YtcoeakdpcigogaaDoorAnfMap
import Derived.Test.YtcoeakdpcigogaaDoorAnfNz
namespace Go.Proofs.YtcoeakdpcigogaaDoor
open Go.ChangeShapes Go.WideShapes Go.ChangeAt Go.RowKit Go.Sort Go.Maps

def fieldsV (op : Nat) (num : Int) (name : ByteArray) (n1 n2 : Nat) : Bool :=
  if op ≠ 80 ∧ op ≠ 82 ∧ num ≠ 0 then false
  else if op ≠ 85 ∧ name ≠ eS then false
  else if op ≠ 83 ∧ 0 < n1 + n2 then false
  else if op = 80 then decide (0 ≤ num)
  else if op = 82 then decide (8 ≤ num ∧ num ≤ 23)
  else decide (op = 81 ∨ op = 83 ∨ op = 85 ∨ op = 86 ∨ op = 87 ∨ op = 88 ∨ op = 89 ∨ op = 90)
theorem fields_eq (b : Bd) : fieldsB b = fieldsV b.op b.num b.name b.thn.length b.els.length := rfl

theorem nameE (s : ByteArray) : s.toList.isEmpty = decide (s = eS) := by
  rw [ByteArray.toList_eq, Bool.eq_iff_iff]
  obtain ⟨⟨l⟩⟩ := s
  unfold eS
  cases l with
  | nil => simp
  | cons x r => simp

set_option maxRecDepth 100000 in
set_option maxHeartbeats 4000000 in
theorem fieldsV_any (w : World) (op : Nat) (num : Int) (name : ByteArray) (n1 n2 : Nat) (s0 : ByteArray) (b0 : Bool) (n0 : Nat) (Aa At Ae : Option Addr) (ca ct ce : Nat) (h1 : n1 ≤ 1000000) (h2 : n2 ≤ 1000000) :
    Calls Tryd.prog 69 #[.agg #[.string s0, .bool b0, .int .u8 op, .int .i64 num, .string name, .slice Aa n0 ca, .slice At n1 ct, .slice Ae n2 ce]] w fun e w' => e = .returned (.bool (fieldsV op num name n1 n2)) ∧ Below w.heap.size w w' := by
  have HBX := Lib.hid (below_box w (Obj.cells #[.string s0, .bool b0, .int .u8 op, .int .i64 num, .string name, .slice Aa n0 ca, .slice At n1 ct, .slice Ae n2 ce] 67))
  have HV := Lib.hid (fieldsV.eq_def op num name n1 n2)
  have hop : op = 80 ∨ op = 82 ∨ op = 81 ∨ op = 83 ∨ op = 85 ∨ op = 86 ∨ op = 87 ∨ op = 88 ∨ op = 89 ∨ op = 90 ∨ (op ≠ 80 ∧ op ≠ 82 ∧ op ≠ 81 ∧ op ≠ 83 ∧ op ≠ 85 ∧ op ≠ 86 ∧ op ≠ 87 ∧ op ≠ 88 ∧ op ≠ 89 ∧ op ≠ 90) := by omega
  have hE := nameE name
  have HS := Lib.hid hE
  by_cases hs : name = eS
  · have HSS := Lib.hid hs
    rw [decide_eq_true hs] at hE
    clear hs
    rcases hop with rfl | rfl | rfl | rfl | rfl | rfl | rfl | rfl | rfl | rfl | ⟨k0, k2, k1, k3, k5, k6, k7, k8, k9, k10⟩
    all_goals
      try (have e0 := kindF k0; have e2 := kindF k2; have e1 := kindF k1; have e3 := kindF k3; have e5 := kindF k5; have e6 := kindF k6; have e7 := kindF k7; have e8 := kindF k8; have e9 := kindF k9; have e10 := kindF k10)
      go_enter Tryd.func69, Tryd.ntmps69
      go_wp2_with fail
      all_goals
        go_ret
        refine ⟨?_, HBX.out⟩
        rw [HV.out]
        simp_all [HSS.out] <;> (intros; omega)
  · have HSS := Lib.hid hs
    rw [decide_eq_false hs] at hE
    clear hs
    rcases hop with rfl | rfl | rfl | rfl | rfl | rfl | rfl | rfl | rfl | rfl | ⟨k0, k2, k1, k3, k5, k6, k7, k8, k9, k10⟩
    all_goals
      try (have e0 := kindF k0; have e2 := kindF k2; have e1 := kindF k1; have e3 := kindF k3; have e5 := kindF k5; have e6 := kindF k6; have e7 := kindF k7; have e8 := kindF k8; have e9 := kindF k9; have e10 := kindF k10)
      go_enter Tryd.func69, Tryd.ntmps69
      go_wp2_with fail
      all_goals
        go_ret
        refine ⟨?_, HBX.out⟩
        rw [HV.out]
        simp_all [HSS.out] <;> (intros; omega)

end Go.Proofs.YtcoeakdpcigogaaDoor

namespace Go.Proofs.YtcoeakdpcigogaaDoor
open Go.ChangeShapes Go.WideShapes Go.ChangeAt Go.RowKit Go.Sort Go.Maps

def RetOt (op : Nat) (w : World) (e : Ending) (w' : World) : Prop := ∃ A c, e = .returned (.tuple #[.slice A (operT op).1.length c, .bool (operT op).2]) ∧ BlsAt w' A (operT op).1 ∧ Below w.heap.size w w'
theorem ret_ot {op : Nat} {w : World} (l : List Bool) (r : Bool) (h : operT op = (l, r)) (cs : Array Value) (hcs : cs = (l.map Value.bool).toArray) (n : Nat) (hn : l.length = n) : RetOt op w (.returned (.tuple #[.slice (some ⟨w.heap.size, 0, none⟩) n n, .bool r])) (w.alloc (Obj.cells cs 4)) := by
  subst hn
  refine ⟨some ⟨w.heap.size, 0, none⟩, l.length, by rw [h], ?_, below_box w _⟩
  rw [h]; exact bls_new w 4 l cs hcs
set_option maxRecDepth 100000 in
set_option maxHeartbeats 4000000 in
theorem operation_any (w : World) (op : Nat) :
    Calls Tryd.prog 73 #[.int .u8 op] w (RetOt op w) := by
  have hop : op = 82 ∨ op = 86 ∨ op = 87 ∨ op = 88 ∨ op = 89 ∨ op = 90 ∨ (op ≠ 82 ∧ op ≠ 86 ∧ op ≠ 87 ∧ op ≠ 88 ∧ op ≠ 89 ∧ op ≠ 90) := by omega
  rcases hop with rfl | rfl | rfl | rfl | rfl | rfl | ⟨k2, k6, k7, k8, k9, k10⟩
  · have HF := Lib.hid (ret_ot (op := 82) (w := w) [false, false] false rfl #[.bool false, .bool false] rfl 2 rfl)
    go_enter Tryd.func73, Tryd.ntmps73
    go_wp2_with fail
    go_ret2
    exact HF.out
  · have HF := Lib.hid (show RetOt 86 w (.returned (.tuple #[.slice none 0 0, .bool true])) w from ⟨none, 0, rfl, bls_nil w, Below.refl _ _⟩)
    go_enter Tryd.func73, Tryd.ntmps73
    go_wp2_with fail
    go_ret2
    exact HF.out
  · have HF := Lib.hid (ret_ot (op := 87) (w := w) [false, true] true rfl #[.bool false, .bool true] rfl 2 rfl)
    go_enter Tryd.func73, Tryd.ntmps73
    go_wp2_with fail
    go_ret2
    exact HF.out
  · have HF := Lib.hid (ret_ot (op := 88) (w := w) [true] false rfl #[.bool true] rfl 1 rfl)
    go_enter Tryd.func73, Tryd.ntmps73
    go_wp2_with fail
    go_ret2
    exact HF.out
  · have HF := Lib.hid (ret_ot (op := 89) (w := w) [true] true rfl #[.bool true] rfl 1 rfl)
    go_enter Tryd.func73, Tryd.ntmps73
    go_wp2_with fail
    go_ret2
    exact HF.out
  · have HF := Lib.hid (ret_ot (op := 90) (w := w) [true] false rfl #[.bool true] rfl 1 rfl)
    go_enter Tryd.func73, Tryd.ntmps73
    go_wp2_with fail
    go_ret2
    exact HF.out
  · have HF := Lib.hid (show RetOt op w (.returned (.tuple #[.slice none 0 0, .bool false])) w from by
      have h : operT op = ([], false) := by unfold operT; simp [k2, k6, k7, k8, k9, k10]
      exact ⟨none, 0, by rw [h]; rfl, by rw [h]; exact bls_nil w, Below.refl _ _⟩)
    have e2 := kindF k2; have e6 := kindF k6; have e7 := kindF k7; have e8 := kindF k8; have e9 := kindF k9; have e10 := kindF k10
    go_enter Tryd.func73, Tryd.ntmps73
    go_wp2_with fail
    go_ret2
    exact HF.out

end Go.Proofs.YtcoeakdpcigogaaDoor

namespace Go.Proofs.YtcoeakdpcigogaaDoor
open Go.ChangeShapes Go.WideShapes Go.ChangeAt Go.RowKit Go.Sort Go.Maps

mutual
def bszT : Bd → Nat
  | .mk _ _ _ _ _ _ t e => 1 + bszL t + bszL e
def bszL : List Bd → Nat
  | [] => 0
  | b :: r => bszT b + bszL r
end
theorem bszT_eq (b : Bd) : bszT b = 1 + bszL b.thn + bszL b.els := by cases b; rw [bszT]; rfl
inductive BdFit : Bd → Prop
  | mk {t : Bd} (h0 : t.to.size ≤ 9223372036854775807) (h1 : t.name.size ≤ 9223372036854775807) (ha : ∀ a ∈ t.args, a.size ≤ 9223372036854775807) (hl : t.args.length ≤ 100000000000000) (ht : ∀ y ∈ t.thn, BdFit y) (he : ∀ y ∈ t.els, BdFit y) : BdFit t
theorem BdFit.facts {t : Bd} (h : BdFit t) : t.to.size ≤ 9223372036854775807 ∧ t.name.size ≤ 9223372036854775807 ∧ (∀ a ∈ t.args, a.size ≤ 9223372036854775807) ∧ t.args.length ≤ 100000000000000 ∧ (∀ y ∈ t.thn, BdFit y) ∧ (∀ y ∈ t.els, BdFit y) := by
  cases h with
  | mk h0 h1 ha hl ht he => exact ⟨h0, h1, ha, hl, ht, he⟩

/-- The library by names; the scope or the temporaries; the counts. -/
def LbM (W0 w : World) (L : Nat) (lib : ByteArray → Option Af) : Prop := ∃ n sz env, MapG zAf w L n sz env ∧ ∀ s, (lib s = none ∧ env s = none) ∨ ∃ f cs, lib s = some f ∧ env s = some (.agg cs.toArray) ∧ AfC W0 (fun _ => False) cs f
def ScM (w : World) (b n : Nat) (sc : Sc) : Prop := ∃ sz, MapG (.bool false) w b n sz (fun s => (sc s).map Value.bool)
def BnM (w : World) (b n : Nat) (bd : Bn) : Prop := ∃ sz env, MapG (.int .i64 0) w b n sz env ∧ ∀ s, (env s).getD (.int .i64 0) = .int .i64 (bd s) ∧ 0 ≤ bd s ∧ bd s ≤ n
theorem LbM.fr {W0 w w' : World} {L : Nat} {lib : ByteArray → Option Af} (h : LbM W0 w L lib) {m : Nat → Prop} (hf : Fr w w' m) (hn : ¬ m L) : LbM W0 w' L lib := by
  obtain ⟨n, sz, env, h1, h2⟩ := h
  exact ⟨n, sz, env, h1.fr hf hn, h2⟩
theorem ScM.fr {w w' : World} {b n : Nat} {sc : Sc} (h : ScM w b n sc) {m : Nat → Prop} (hf : Fr w w' m) (hn : ¬ m b) : ScM w' b n sc := by
  obtain ⟨sz, h1⟩ := h
  exact ⟨sz, h1.fr hf hn⟩
theorem BnM.fr {w w' : World} {b n : Nat} {bd : Bn} (h : BnM w b n bd) {m : Nat → Prop} (hf : Fr w w' m) (hn : ¬ m b) : BnM w' b n bd := by
  obtain ⟨sz, env, h1, h2⟩ := h
  exact ⟨sz, env, h1.fr hf hn, h2⟩
theorem LbM.lt {W0 w : World} {L : Nat} {lib : ByteArray → Option Af} (h : LbM W0 w L lib) : L < w.heap.size := by
  obtain ⟨n, sz, env, h1, _⟩ := h; exact h1.lt
theorem ScM.lt {w : World} {b n : Nat} {sc : Sc} (h : ScM w b n sc) : b < w.heap.size := by
  obtain ⟨sz, h1⟩ := h; exact h1.lt
theorem BnM.lt {w : World} {b n : Nat} {bd : Bn} (h : BnM w b n bd) : b < w.heap.size := by
  obtain ⟨sz, env, h1, _⟩ := h; exact h1.lt
/-- The checker of a function. -/
structure Ck (W0 w : World) (V L T S B : Nat) (lib : ByteArray → Option Af) (tp : Sc) (nS nB : Nat) (sc : Sc) (bd : Bn) : Prop where
  bw : Below W0.heap.size W0 w
  vx : Bx w V #[.map (some L), .map (some T), .map (some S), .map (some B)]
  lm : LbM W0 w L lib
  tm : ∃ n, ScM w T n tp
  sm : ScM w S nS sc
  bm : BnM w B nB bd
  sl : W0.heap.size ≤ S
  bl : W0.heap.size ≤ B
  ne : S ≠ V ∧ S ≠ L ∧ S ≠ T ∧ B ≠ V ∧ B ≠ L ∧ B ≠ T ∧ S ≠ B
variable {W0 w w' : World} {V L T S B : Nat} {lib : ByteArray → Option Af} {tp : Sc} {nS nB : Nat} {sc : Sc} {bd : Bn}
theorem Ck.below (h : Ck W0 w V L T S B lib tp nS nB sc bd) (hb : Below w.heap.size w w') : Ck W0 w' V L T S B lib tp nS nB sc bd := by
  have hf := Fr.of_below hb fun _ => False
  obtain ⟨n, ht⟩ := h.tm
  exact ⟨below_step h.bw h.bw.size hb, h.vx.below hb, h.lm.fr hf id, ⟨n, ht.fr hf id⟩, h.sm.fr hf id, h.bm.fr hf id, h.sl, h.bl, h.ne⟩
/-- What a bind, a branch writes. -/
def SB (S B k : Nat) : Prop := k = S ∨ k = B
theorem Ck.scope (h : Ck W0 w V L T S B lib tp nS nB sc bd) {sc' : Sc} {n' : Nat} (hf : Fr w w' (fun k => k = S)) (hs : ScM w' S n' sc') : Ck W0 w' V L T S B lib tp n' nB sc' bd := by
  obtain ⟨n, ht⟩ := h.tm
  obtain ⟨e1, e2, e3, e4, e5, e6, e7⟩ := h.ne
  have hsl := h.sl
  exact ⟨hf.toBelow h.bw h.bw.size (fun k e => by have e' : k = S := e; omega), h.vx.fr hf (fun e => e1 e.symm), h.lm.fr hf (fun e => e2 e.symm), ⟨n, ht.fr hf (fun e => e3 e.symm)⟩, hs, h.bm.fr hf (fun e => e7 e.symm), h.sl, h.bl, h.ne⟩
theorem Ck.bound (h : Ck W0 w V L T S B lib tp nS nB sc bd) {bd' : Bn} {n' : Nat} (hf : Fr w w' (fun k => k = B)) (hs : BnM w' B n' bd') : Ck W0 w' V L T S B lib tp nS n' sc bd' := by
  obtain ⟨n, ht⟩ := h.tm
  obtain ⟨e1, e2, e3, e4, e5, e6, e7⟩ := h.ne
  have hbl := h.bl
  exact ⟨hf.toBelow h.bw h.bw.size (fun k e => by have e' : k = B := e; omega), h.vx.fr hf (fun e => e4 e.symm), h.lm.fr hf (fun e => e5 e.symm), ⟨n, ht.fr hf (fun e => e6 e.symm)⟩, h.sm.fr hf (fun e => e7 e), hs, h.sl, h.bl, h.ne⟩
/-- The checker's box's cells. -/
theorem Ck.cells (h : Ck W0 w V L T S B lib tp nS nB sc bd) : w.cell? ⟨V, 0, none⟩ = some (.map (some L)) ∧ w.cell? ⟨V, 1, none⟩ = some (.map (some T)) ∧ w.cell? ⟨V, 2, none⟩ = some (.map (some S)) ∧ w.cell? ⟨V, 3, none⟩ = some (.map (some B)) ∧ V < w.heap.size := ⟨h.vx.cell rfl, h.vx.cell rfl, h.vx.cell rfl, h.vx.cell rfl, h.vx.lt⟩
/-! ### Lookups, as equations -/
theorem ScM.look {b n : Nat} (h : ScM w b n sc) (s : ByteArray) (hs : s.size ≤ 9223372036854775807) : (Instr.lookup 122 (.map (some b)) (.string s) true).run Tryd.prog w = .ok (.tuple #[.bool ((sc s).getD false), .bool (sc s).isSome]) w := by
  obtain ⟨sz, h1⟩ := h
  rw [mapG_look_ok Tryd.underlying122 zeroBool h1 s hs]
  cases sc s <;> rfl
theorem ScM.get {b n : Nat} (h : ScM w b n sc) (s : ByteArray) (hs : s.size ≤ 9223372036854775807) : (Instr.lookup 122 (.map (some b)) (.string s) false).run Tryd.prog w = .ok (.bool ((sc s).getD false)) w := by
  obtain ⟨sz, h1⟩ := h
  rw [mapG_look Tryd.underlying122 zeroBool h1 s hs]
  cases sc s <;> rfl
theorem BnM.look {b n : Nat} (h : BnM w b n bd) (s : ByteArray) (hs : s.size ≤ 9223372036854775807) : (Instr.lookup 123 (.map (some b)) (.string s) false).run Tryd.prog w = .ok (.int .i64 (bd s)) w := by
  obtain ⟨sz, env, h1, h2⟩ := h
  rw [mapG_look Tryd.underlying123 zeroInt h1 s hs, (h2 s).1]
theorem LbM.look (h : LbM W0 w L lib) (s : ByteArray) (hs : s.size ≤ 9223372036854775807) : ((lib s = none) ∧ ∀ w', Below w.heap.size w w' → (Instr.lookup 82 (.map (some L)) (.string s) true).run Tryd.prog w' = .ok (.tuple #[zAf, .bool false]) w') ∨ ∃ f cs, lib s = some f ∧ AfC W0 (fun _ => False) cs f ∧ ∀ w', Below w.heap.size w w' → (Instr.lookup 82 (.map (some L)) (.string s) true).run Tryd.prog w' = .ok (.tuple #[.agg cs.toArray, .bool true]) w' := by
  obtain ⟨n, sz, env, h1, h2⟩ := h
  have h3 := fun w' (hb : Below w.heap.size w w') => mapG_look_ok Tryd.underlying82 zeroAf (h1.below hb) s hs
  rcases h2 s with ⟨e1, e2⟩ | ⟨f, cs, e1, e2, e3⟩
  · rw [e2] at h3; exact .inl ⟨e1, h3⟩
  · rw [e2] at h3; exact .inr ⟨f, cs, e1, e3, h3⟩
/-! ### Stores -/
theorem ScM.map_set (sc : Sc) (s : ByteArray) (v : Option Bool) : setG (fun s => (sc s).map Value.bool) s (v.map Value.bool) = fun t => (setS sc s v t).map Value.bool := by
  funext t
  unfold setG setS
  by_cases e : t = s
  · rw [if_pos e, if_pos e]
  · rw [if_neg e, if_neg e]
theorem ScM.put {b n : Nat} (h : ScM w b n sc) (hn : n < 1000000000) (s : ByteArray) (hs : s.size ≤ 9223372036854775807) (v : Bool) : ∃ w', (Instr.mapUpdate 122 (.map (some b)) (.string s) (.bool v)).run Tryd.prog w = .ok () w' ∧ ScM w' b (n + 1) (setS sc s (some v)) ∧ Fr w w' (fun k => k = b) := by
  obtain ⟨sz, h1⟩ := h
  obtain ⟨w', e1, e2, e3⟩ := mapG_put Tryd.underlying122 h1 (by unfold maxLen; omega) s hs (.bool v)
  exact ⟨w', e1, ⟨_, e2.congr fun t => congrFun (ScM.map_set sc s (some v)) t⟩, Fr.of_turned e3⟩
theorem BnM.inc {b n : Nat} (h : BnM w b n bd) (hn : n < 1000000000) (s : ByteArray) (hs : s.size ≤ 9223372036854775807) : ∃ w', (Instr.mapUpdate 123 (.map (some b)) (.string s) (.int .i64 (bd s + 1))).run Tryd.prog w = .ok () w' ∧ BnM w' b (n + 1) (incB bd s) ∧ Fr w w' (fun k => k = b) := by
  obtain ⟨sz, env, h1, h2⟩ := h
  obtain ⟨w', e1, e2, e3⟩ := mapG_put Tryd.underlying123 h1 (by unfold maxLen; omega) s hs (.int .i64 (bd s + 1))
  refine ⟨w', e1, ⟨_, _, e2, fun t => ?_⟩, Fr.of_turned e3⟩
  unfold setG incB
  by_cases e : t = s
  · rw [if_pos e, if_pos e]; have := (h2 s).2; exact ⟨rfl, by omega, by omega⟩
  · rw [if_neg e, if_neg e]; have := (h2 t).2; exact ⟨(h2 t).1, by omega, by omega⟩
theorem BnM.le {b n : Nat} (h : BnM w b n bd) (s : ByteArray) : 0 ≤ bd s ∧ bd s ≤ n := by
  obtain ⟨sz, env, h1, h2⟩ := h; exact (h2 s).2
theorem strEq (s t : ByteArray) : (s.toList == t.toList) = decide (s = t) := by
  rw [ByteArray.toList_eq, ByteArray.toList_eq, Bool.eq_iff_iff]
  simp only [beq_iff_eq, decide_eq_true_eq]
  constructor
  · intro h; exact WideShapes.bytes_inj (by simpa using h)
  · intro h; rw [h]
theorem ScM.below {b n : Nat} (h : ScM w b n sc) (hb : Below w.heap.size w w') : ScM w' b n sc := h.fr (Fr.of_below hb fun _ => False) id
theorem BnM.below {b n : Nat} (h : BnM w b n bd) (hb : Below w.heap.size w w') : BnM w' b n bd := h.fr (Fr.of_below hb fun _ => False) id
theorem argsB_step {tp : Sc} {l : List ByteArray} {ts : List Bool} {ps : List Pm} {sn : ByteArray → Bool} {k : Nat} (h1 : k < l.length) (h2 : k < ts.length) (h3 : k < ps.length) : argsB tp (l.drop k) (ts.drop k) (ps.drop k) sn = if (tp l[k]).isSome = false ∨ sn l[k] = true ∨ ts[k] ≠ ps[k].list then false else argsB tp (l.drop (k + 1)) (ts.drop (k + 1)) (ps.drop (k + 1)) (fun q => if q = l[k] then true else sn q) := by
  rw [List.drop_eq_getElem_cons h1, List.drop_eq_getElem_cons h2, List.drop_eq_getElem_cons h3, argsB]

end Go.Proofs.YtcoeakdpcigogaaDoor
