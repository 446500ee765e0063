/-
  The table of the shapes: a map that the call makes; the contracts of script.shapes and script.find.
-/
import Derived.Test.YtklljdjeobifiaaDoorScrName2
import Derived.Maps.RangeWalk
namespace Go.Proofs.YtklljdjeobifiaaDoor
open Go.ChangeShapes Go.WideShapes Go.ChangeAt Go.RowKit Go.Sort Go.Maps

structure Sh where
  k : Nat
  n : Bool
  m : Int
  t : Bool
def shV (x : Sh) : Value := .agg #[.int .u8 x.k, .bool x.n, .int .i64 x.m, .bool x.t]
def shZ : Sh := ⟨0, false, 0, false⟩
theorem shV_inj {x y : Sh} (h : shV x = shV y) : x = y := by
  obtain ⟨a, b, c, d⟩ := x
  obtain ⟨a', b', c', d'⟩ := y
  simp [shV] at h
  obtain ⟨h1, rfl, rfl, rfl⟩ := h
  obtain rfl : a = a' := by omega
  rfl
theorem zeroSh (w : World) : (zeroValue 51).run Tryd.prog w = .ok (shV shZ) w := by kernel_rfl
open Classical in
/-- A shape is read as itself. -/
noncomputable def shR (v : Value) : Option (DataW Value × List MemPlace) := if ∃ x, v = shV x then some (.held v, []) else none
theorem shR_mk (x : Sh) : shR (shV x) = some (.held (shV x), []) := by unfold shR; rw [if_pos ⟨x, rfl⟩]
theorem shR_inv {v : Value} {y : DataW Value × List MemPlace} (h : shR v = some y) : ∃ x, v = shV x := by
  unfold shR at h
  split at h
  · assumption
  · cases h

/-- Block b is such a map: it has at most n entries, and answers as raw says. -/
def MapS (w : World) (b n : Nat) (raw : ByteArray → Option Sh) : Prop :=
  ∃ D : DataW Value, w.ownsMap Tryd.prog 9 shR b n D ∧ ∀ s : ByteArray, Maps.has D (klit s) = (raw s).isSome ∧ D.atKey (klit s) (.held (shV shZ)) = .held (shV ((raw s).getD shZ))
def setS (raw : ByteArray → Option Sh) (s : ByteArray) (v : Sh) : ByteArray → Option Sh := fun t => if t = s then some v else raw t
theorem MapS.lt {w : World} {b n : Nat} {raw : ByteArray → Option Sh} (h : MapS w b n raw) : b < w.heap.size := by
  obtain ⟨D, h1, _⟩ := h; exact h1.lt
theorem MapS.below {w w' : World} {b n : Nat} {raw : ByteArray → Option Sh} (h : MapS w b n raw) (hb : Below w.heap.size w w') : MapS w' b n raw := by
  have hl := h.lt
  obtain ⟨D, ⟨es, c, h1, h2⟩, h3⟩ := h
  exact ⟨D, ⟨es, c, by rw [hb.block b hl]; exact h1, h2⟩, h3⟩
theorem mapS_made (w : World) : MapS (w.alloc (.map #[] 0)) w.heap.size 0 (fun _ => none) :=
  ⟨.map [], World.ownsMap_made w _ _ _, fun _ => ⟨rfl, rfl⟩⟩
theorem mapS_put {w : World} {b n : Nat} {raw : ByteArray → Option Sh} {t : TypeId} (ht : Tryd.prog.underlying t = some (.map 9 51)) (h : MapS w b n raw) (hn : n < maxLen) (s : ByteArray) (hs : s.size ≤ maxLen) (x : Sh) :
    ∃ w', (Instr.mapUpdate t (.map (some b)) (.string s) (shV x)).run Tryd.prog w = .ok () w' ∧ MapS w' b (n + 1) (setS raw s x) ∧ w.mapTurned w' b := by
  obtain ⟨D, h1, h3⟩ := h
  obtain ⟨w', hrun, r1, r2⟩ := h1.store strKeyed ht hn (WideMaps.keyOf_string_mk Tryd.underlying9 hs) (shR_mk x)
  refine ⟨w', hrun, ⟨_, r1, fun u => ?_⟩, r2⟩
  unfold setS
  by_cases e : u = s
  · subst e
    rw [if_pos rfl]
    exact ⟨Maps.has_put_same h1.isMap (klit_key u) _, Maps.atKey_put_same h1.isMap (klit_key u) _ _⟩
  · rw [if_neg e]
    exact ⟨by rw [← (h3 u).1]; exact Maps.has_put_other (klit_ne e) _, by rw [← (h3 u).2]; exact Maps.atKey_put_other (klit_ne e) _ _⟩
theorem mapS_look {w : World} {b n : Nat} {raw : ByteArray → Option Sh} {t : TypeId} (ht : Tryd.prog.underlying t = some (.map 9 51)) (h : MapS w b n raw) (s : ByteArray) (hs : s.size ≤ maxLen) :
    (Instr.lookup t (.map (some b)) (.string s) true).run Tryd.prog w = .ok (.tuple #[shV ((raw s).getD shZ), .bool (raw s).isSome]) w := by
  obtain ⟨D, h1, h3⟩ := h
  obtain ⟨v, ps, hrun, hv⟩ := h1.look_ok strKeyed ht (zeroSh w) (shR_mk shZ) (WideMaps.keyOf_string_mk Tryd.underlying9 hs)
  have he := (h3 s).2
  have hh := (h3 s).1
  unfold klit at he hh
  rw [he] at hv
  obtain ⟨x, rfl⟩ := shR_inv hv
  rw [shR_mk] at hv
  simp at hv
  rw [hrun, hv.1, hh]

section
variable (w : World) {ops : Array Oper} {rest : List Oper} {o : Oper} {a : Act} {Q : Exit → Act → World → Prop}
theorem wpList_put_S (hg : o.guard = none) (m x v : Operand) (t : TypeId) (hop : o.op = Op.mapUpdate t m x v ∨ o.op = Op.insert t m x v) (ht : Tryd.prog.underlying t = some (.map 9 51)) (b n : Nat) (raw : ByteArray → Option Sh)
    (hm : a.eval m = .map (some b)) (h : MapS w b n raw) (hn : n < maxLen) (s : ByteArray) (y : Sh) (hx : a.eval x = .string s) (hv : a.eval v = shV y) (hs : s.size ≤ maxLen)
    (hK : ∀ w', MapS w' b (n + 1) (setS raw s y) → w.mapTurned w' b → wpList Tryd.prog ops Q rest (a.put o.dst undef) w') :
    wpList Tryd.prog ops Q (o :: rest) a w := by
  refine wpList_plain hg fun K' hK' => ?_
  obtain ⟨w', hrun, r1, r2⟩ := mapS_put ht h hn s hs y
  unfold Oper.wp
  rcases hop with hop | hop
  all_goals
    simp [execOp, hop, hm, hx, hv, hrun, Result.andThen]
    exact hK' _ _ (hK w' r1 r2)
theorem wpList_look_S (hg : o.guard = none) (m x : Operand) (t : TypeId) (hop : o.op = Op.lookup t m x true) (ht : Tryd.prog.underlying t = some (.map 9 51)) (b n : Nat) (raw : ByteArray → Option Sh)
    (hm : a.eval m = .map (some b)) (h : MapS w b n raw) (s : ByteArray) (hx : a.eval x = .string s) (hs : s.size ≤ maxLen)
    (hK : wpList Tryd.prog ops Q rest (a.put o.dst (.tuple #[shV ((raw s).getD shZ), .bool (raw s).isSome])) w) :
    wpList Tryd.prog ops Q (o :: rest) a w := by
  refine wpList_plain hg fun K' hK' => ?_
  unfold Oper.wp
  simp [execOp, hop, hm, hx, mapS_look ht h s hs, Result.andThen]
  exact hK' _ _ hK
end

/-! ### The table -/
def shOf (s : Shp) : Sh := ⟨s.kind, s.name, s.nums, s.text⟩
def rawE : List Shp → ByteArray → Option Sh
  | [] => fun _ => none
  | s :: r => setS (rawE r) (bs s.word) (shOf s)
/-- What the map answers. -/
def shEnv : ByteArray → Option Sh := rawE shpL.reverse
theorem rawE_some : ∀ {l : List Shp} {x : ByteArray} {c : Sh}, rawE l x = some c → ∃ s ∈ l, x = bs s.word ∧ c = shOf s
  | [], x, c, h => by cases h
  | s :: r, x, c, h => by
    rw [rawE] at h
    unfold setS at h
    by_cases e : x = bs s.word
    · rw [if_pos e] at h; cases h; exact ⟨s, by simp, e, rfl⟩
    · rw [if_neg e] at h
      obtain ⟨s', h1, h2⟩ := rawE_some h
      exact ⟨s', by simp [h1], h2⟩
theorem rawE_mem : ∀ {l : List Shp} {s : Shp}, (l.map Shp.word).Nodup → s ∈ l → rawE l (bs s.word) = some (shOf s)
  | [], s, _, h => by simp at h
  | a :: r, s, hn, h => by
    rw [List.map_cons, List.nodup_cons] at hn
    rw [rawE]
    unfold setS
    rcases List.mem_cons.1 h with rfl | h
    · rw [if_pos rfl]
    · rw [if_neg (fun e => hn.1 (by rw [← bs_inj e]; exact List.mem_map.2 ⟨s, h, rfl⟩)), rawE_mem hn.2 h]
theorem shEnv_some {x : ByteArray} {c : Sh} (h : shEnv x = some c) : ∃ s ∈ shpL, x = bs s.word ∧ c = shOf s := by
  obtain ⟨s, h1, h2⟩ := rawE_some h
  exact ⟨s, by simpa using h1, h2⟩
theorem shEnv_mem {s : Shp} (h : s ∈ shpL) : shEnv (bs s.word) = some (shOf s) := rawE_mem (by decide) (by simpa using h)
/-- A look-up by word. -/
theorem shEnv_look (x : ByteArray) : shEnv x = (lookW x.data.toList).map shOf := by
  cases h : shEnv x with
  | none =>
    cases h2 : lookW x.data.toList with
    | none => rfl
    | some s =>
      obtain ⟨h3, h4⟩ := lookW_some h2
      have := shEnv_mem h3
      rw [h4, bs_data, h] at this
      cases this
  | some c =>
    obtain ⟨s, h1, rfl, rfl⟩ := shEnv_some h
    rw [data_bs, (shp_all s h1).2.1]; rfl

def RetShapes (w : World) (e : Ending) (w' : World) : Prop := ∃ b, e = .returned (.map (some b)) ∧ w.heap.size ≤ b ∧ MapS w' b 14 shEnv ∧ Below w.heap.size w w'

set_option maxRecDepth 100000 in
set_option maxHeartbeats 1000000 in
theorem shapes_any (w : World) : Calls Tryd.prog 34 #[] w (RetShapes w) := by
  have hmm := @run_makeMap Tryd.prog
  have HM := mapS_made w
  have hbM := below_box w (.map #[] 0)
  go_enter Tryd.func34, Tryd.ntmps34
  go_wp2_with (refine wpList_put_S _ rfl _ _ _ 72 (.inr rfl) Tryd.underlying72 w.heap.size _ _ rfl HM (by decide) _ ⟨_, _, _, _⟩ rfl rfl (by decide) ?_; intro w1 HM1 hT; have hbM := hbM.grown hT.grown (by have := hbM.size; omega) (by intro k hk; cases hk; exact Nat.le_refl _); have HM := HM1; clear hT HM1)
  go_ret
  exact ⟨_, rfl, Nat.le_refl _, HM, hbM⟩

end Go.Proofs.YtklljdjeobifiaaDoor
