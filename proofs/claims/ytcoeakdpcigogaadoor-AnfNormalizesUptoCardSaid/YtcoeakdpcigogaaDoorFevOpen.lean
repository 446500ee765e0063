/-
  Arguments of layer 35 opened: expressions, parameters, libraries, values.
  A slice of values, opened.
  Arguments whose bulk is bounded, opened: no function has very many parameters or nodes.
-/
import Derived.Test.YtcoeakdpcigogaaDoorFrame
import Derived.Test.YtcoeakdpcigogaaDoorFunValid
import Derived.Test.YtcoeakdpcigogaaDoorFunEq
import Derived.Deep.Slices
import Derived.Test.YtcoeakdpcigogaaDoorFevMem
import Derived.Test.YtcoeakdpcigogaaDoorRows
namespace Go.Proofs.YtcoeakdpcigogaaDoor
open Go.ChangeShapes Go.WideShapes Go.ChangeAt Go.RowKit Go.Deep

theorem wf_u8 {n : Int} (h : (Lit.int .u8 n).wf = true) : ∃ k : Nat, k < 256 ∧ n = k := by
  simp only [Lit.wf, IntKind.min, IntKind.max, IntKind.signed, IntKind.bits, Bool.and_eq_true] at h
  exact ⟨n.toNat, by have := h.1; have := h.2; simp at *; omega, by have := h.1; simp at *; omega⟩
theorem wf_i64 {n : Int} (h : (Lit.int .i64 n).wf = true) : -9223372036854775808 ≤ n ∧ n ≤ 9223372036854775807 := by
  simp only [Lit.wf, IntKind.min, IntKind.max, IntKind.signed, IntKind.bits, Bool.and_eq_true, decide_eq_true_eq] at h
  simp at h; omega
theorem spot_none {w : World} {a : Addr} {v : Value} (h : w.cell? a = some v) : a.spot = none := by
  unfold World.cell? at h
  split at h
  · split at h
    · cases h
    · rename_i hs; simpa using hs
  · cases h
theorem add_pos (b o n : Nat) : (⟨b, o, none⟩ : Addr).add n = ⟨b, o + n, none⟩ := by
  unfold Addr.add; by_cases h : n = 0 <;> simp [h]

section
variable {H : Type} {enc : TypeId × Value → H} {w : World} {base : Nat} {spare : Nat → Bool} {held : Bool} {r : Reach} {b0 : Nat}

/-- A slice whose elements can be read. -/
theorem trod_list {α : Type} [Inhabited α] {t e : TypeId} {c : Nat} (ht : Tryd.prog.underlying t = some (.slice e)) (hc : Tryd.prog.cellsOf e = c) (hc0 : 0 < c) {p : List Value → α → Prop} {fuel : Nat} {cs : List Value} {x : DataW H × List MemPlace}
    (h : DataW.trod enc Tryd.prog w base spare held fuel t cs = some x)
    (hp : ∀ (n : Nat) (cs' : List Value) (y : DataW H × List MemPlace), n < fuel → DataW.trod enc Tryd.prog w base spare held n e cs' = some y → cs'.length = c → ∃ a, p cs' a) :
    ∃ (A : Option Addr) (l : List α) (cap : Nat), cs = [.slice A l.length cap] ∧ l.length ≤ 9223372036854775807 ∧
      ∀ (k : Nat) (a : α), l[k]? = some a → ∃ b o cs', A = some ⟨b, o, none⟩ ∧ p cs' a ∧ ∀ j, j < c → w.cell? ⟨b, o + k * c + j, none⟩ = cs'[j]? := by
  rcases DataW.trod_slice ht h with ⟨rfl, _⟩ | ⟨a, len, cap, elems, rest, n, hf, rfl, rfl, hb, hl, hm, hlen, hel, _, _⟩
  · exact ⟨none, [], 0, rfl, by simp, fun k a hk => by simp at hk⟩
  have key : ∀ i, i < len → ∃ q : α × List Value, p q.2 q.1 ∧ w.cells? base (a.add (i * c)) c = some q.2 := fun i hi => by
    have h1 := hel i hi
    rw [List.getElem?_eq_getElem (by omega), hc] at h1
    obtain ⟨cs', h2, h3⟩ := Option.bind_eq_some_iff.1 h1
    obtain ⟨_, h4, _⟩ := World.cells?_some h2
    obtain ⟨y, hy⟩ := hp n cs' _ (by omega) h3 h4
    exact ⟨(y, cs'), hy, h2⟩
  obtain ⟨f, hf'⟩ := choose_lt key
  have hlen' : ((List.range len).map fun i => (f i).1).length = len := by simp
  refine ⟨some a, (List.range len).map fun i => (f i).1, cap, by rw [hlen'], by rw [hlen']; unfold maxLen at hm; omega, fun k y hk => ?_⟩
  have hkl : k < len := by have := (List.getElem?_eq_some_iff.1 hk).1; simpa using this
  obtain rfl : (f k).1 = y := by simpa [hkl] using hk
  obtain ⟨h1, h2⟩ := hf' k hkl
  obtain ⟨_, h4, hat⟩ := World.cells?_some h2
  have hsp0 : a.spot = none := by
    obtain ⟨_, h5, hat0⟩ := World.cells?_some (hf' 0 (by omega)).2
    have hz := hat0 0 hc0
    rw [List.getElem?_eq_getElem (by omega)] at hz
    rw [Nat.zero_mul] at hz
    have e1 : (a.add 0).add 0 = a := by simp [Addr.add]
    rw [e1] at hz
    exact spot_none hz
  obtain ⟨b, o, sp⟩ := a
  have hsp : sp = none := hsp0
  subst hsp
  refine ⟨b, o, (f k).2, rfl, h1, fun j hj => ?_⟩
  have := hat j hj
  rw [add_pos, add_pos] at this
  exact this

theorem list_four {l : List Value} (h : l.length = 4) : ∃ a b c d, l = [a, b, c, d] := by
  match l, h with
  | [a, b, c, d], _ => exact ⟨a, b, c, d, rfl⟩
theorem list_three {l : List Value} (h : l.length = 3) : ∃ a b c, l = [a, b, c] := by
  match l, h with
  | [a, b, c], _ => exact ⟨a, b, c, rfl⟩
theorem list_two {l : List Value} (h : l.length = 2) : ∃ a b, l = [a, b] := by
  match l, h with
  | [a, b], _ => exact ⟨a, b, rfl⟩
theorem list_seven {l : List Value} (h : l.length = 7) : ∃ a b c d e f g, l = [a, b, c, d, e, f, g] := by
  match l, h with
  | [a, b, c, d, e, f, g], _ => exact ⟨a, b, c, d, e, f, g, rfl⟩

instance : Inhabited Nd := ⟨.mk 0 0 ⟨#[]⟩ []⟩
instance : Inhabited Pm := ⟨⟨⟨#[]⟩, false⟩⟩
instance : Inhabited Fn1 := ⟨⟨⟨#[]⟩, [], false, default⟩⟩

def NdCells (w : World) (cs : List Value) (y : Nd) : Prop := ∃ A cap, cs = [.int .u8 y.kind, .int .i64 y.num, .string y.name, .slice A y.kids.length cap] ∧ NdsAt w A y.kids ∧ NdFit y
theorem nds_of {A : Option Addr} {l : List Nd} (h : ∀ (k : Nat) (a : Nd), l[k]? = some a → ∃ b o cs', A = some ⟨b, o, none⟩ ∧ NdCells w cs' a ∧ ∀ j, j < 4 → w.cell? ⟨b, o + k * 4 + j, none⟩ = cs'[j]?) : NdsAt w A l := fun k y hk => by
  obtain ⟨b, o, cs', rfl, ⟨A', cap', rfl, hK, _⟩, hc⟩ := h k y hk
  refine ⟨b, o, rfl, ?_⟩
  have e0 := hc 0 (by omega)
  have e1 := hc 1 (by omega)
  have e2 := hc 2 (by omega)
  have e3 := hc 3 (by omega)
  simp at e0 e1 e2 e3
  by_cases h0 : 0 < y.kids.length
  · obtain ⟨b1, o1, hA, _⟩ := hK.at_ h0
    exact .mk e0 e1 e2 e3 (fun _ => hA) (fun j z hz => by
      obtain ⟨b2, o2, hA2, h2⟩ := hK j z hz
      rw [hA] at hA2
      simp at hA2
      obtain ⟨rfl, rfl⟩ := hA2
      exact h2)
  · exact .mk (b' := 0) (o' := 0) e0 e1 e2 e3 (fun h => absurd h h0) (fun j z hz => by
      have := (List.getElem?_eq_some_iff.1 hz).1; omega)

theorem trod_node : ∀ (fuel : Nat) (cs : List Value) (x : DataW H × List MemPlace), DataW.trod enc Tryd.prog w base spare held fuel 53 cs = some x → ∃ y, NdCells w cs y := by
  intro fuel
  induction fuel using Nat.strongRecOn with
  | ind fuel ih =>
    intro cs x h
    obtain ⟨xs, n, hn, hx, hlen, hxl, hg⟩ := DataW.trod_struct Tryd.underlying53 h
    have c4 : Tryd.prog.cellsOf 53 = 4 := by kernel_rfl
    have c1 : Tryd.prog.cellsOf 3 = 1 := by kernel_rfl
    have c8 : Tryd.prog.cellsOf 5 = 1 := by kernel_rfl
    have cS : Tryd.prog.cellsOf 9 = 1 := by kernel_rfl
    have cK : Tryd.prog.cellsOf 51 = 1 := by kernel_rfl
    obtain ⟨a, b, c, d, rfl⟩ := list_four (hlen.trans c4)
    have hget : ∀ i, i < 4 → ∃ y, xs[i]? = some y := fun i hi => ⟨xs[i]'(by rw [hxl]; exact hi), List.getElem?_eq_getElem _⟩
    obtain ⟨y0, e0⟩ := hget 0 (by omega)
    obtain ⟨y1, e1⟩ := hget 1 (by omega)
    obtain ⟨y2, e2⟩ := hget 2 (by omega)
    obtain ⟨y3, e3⟩ := hget 3 (by omega)
    have g0 : DataW.trod enc Tryd.prog w base spare held n 5 (List.take (Tryd.prog.cellsOf 5) (List.drop 0 [a, b, c, d])) = some y0 := (hg 0 _ rfl).trans e0
    have g1 : DataW.trod enc Tryd.prog w base spare held n 3 (List.take (Tryd.prog.cellsOf 3) (List.drop 1 [a, b, c, d])) = some y1 := (hg 1 _ rfl).trans e1
    have g2 : DataW.trod enc Tryd.prog w base spare held n 9 (List.take (Tryd.prog.cellsOf 9) (List.drop 2 [a, b, c, d])) = some y2 := (hg 2 _ rfl).trans e2
    have g3 : DataW.trod enc Tryd.prog w base spare held n 51 (List.take (Tryd.prog.cellsOf 51) (List.drop 3 [a, b, c, d])) = some y3 := (hg 3 _ rfl).trans e3
    simp only [c1, c8, cS, cK] at g0 g1 g2 g3
    obtain ⟨n0, q0, _, w0⟩ := DataW.trod_int Tryd.underlying5 g0
    obtain ⟨n1, q1, _, w1⟩ := DataW.trod_int Tryd.underlying3 g1
    obtain ⟨s2, q2, _, w2⟩ := DataW.trod_string Tryd.underlying9 g2
    obtain ⟨A, l, cap, q3, hl, hk⟩ := trod_list (α := Nd) Tryd.underlying51 c4 (by omega) (p := NdCells w) g3 (fun m cs' y hm ht _ => ih m (by omega) cs' y ht)
    obtain ⟨op, hop, rfl⟩ := wf_u8 w0
    simp only [List.drop_zero, List.drop_succ_cons, List.take_succ_cons, List.take_zero, List.cons.injEq, and_true] at q0 q1 q2 q3
    unfold maxLen at w2
    refine ⟨.mk op n1 s2 l, A, cap, by rw [q0, q1, q2, q3]; rfl, nds_of hk, .mk hop (wf_i64 w1) w2 hl (fun k y hy => ?_)⟩
    obtain ⟨_, _, cs', _, ⟨_, _, _, _, hf⟩, _⟩ := hk k y hy
    exact hf

def PmCells (cs : List Value) (p : Pm) : Prop := cs = [.string p.name, .bool p.list] ∧ p.name.size ≤ 9223372036854775807
theorem trod_param {fuel : Nat} {cs : List Value} {x : DataW H × List MemPlace} (h : DataW.trod enc Tryd.prog w base spare held fuel 65 cs = some x) : ∃ p, PmCells cs p := by
  obtain ⟨xs, n, hn, hx, hlen, hxl, hg⟩ := DataW.trod_struct Tryd.underlying65 h
  have c2 : Tryd.prog.cellsOf 65 = 2 := by kernel_rfl
  have cS : Tryd.prog.cellsOf 9 = 1 := by kernel_rfl
  have cB : Tryd.prog.cellsOf 4 = 1 := by kernel_rfl
  obtain ⟨a, b, rfl⟩ := list_two (hlen.trans c2)
  have hget : ∀ i, i < 2 → ∃ y, xs[i]? = some y := fun i hi => ⟨xs[i]'(by rw [hxl]; exact hi), List.getElem?_eq_getElem _⟩
  obtain ⟨y0, e0⟩ := hget 0 (by omega)
  obtain ⟨y1, e1⟩ := hget 1 (by omega)
  have g0 : DataW.trod enc Tryd.prog w base spare held n 9 (List.take (Tryd.prog.cellsOf 9) (List.drop 0 [a, b])) = some y0 := (hg 0 _ rfl).trans e0
  have g1 : DataW.trod enc Tryd.prog w base spare held n 4 (List.take (Tryd.prog.cellsOf 4) (List.drop 1 [a, b])) = some y1 := (hg 1 _ rfl).trans e1
  simp only [cS, cB] at g0 g1
  obtain ⟨s0, q0, _, w0⟩ := DataW.trod_string Tryd.underlying9 g0
  obtain ⟨b1, q1, _⟩ := DataW.trod_bool Tryd.underlying4 g1
  simp only [List.drop_zero, List.drop_succ_cons, List.take_succ_cons, List.take_zero, List.cons.injEq, and_true] at q0 q1
  unfold maxLen at w0
  exact ⟨⟨s0, b1⟩, by rw [q0, q1], w0⟩

theorem trod_params {fuel : Nat} {cs : List Value} {x : DataW H × List MemPlace} (h : DataW.trod enc Tryd.prog w base spare held fuel 36 cs = some x) : ∃ A l cap, cs = [.slice A l.length cap] ∧ PmsAt w A l ∧ PmFit l := by
  have c2 : Tryd.prog.cellsOf 65 = 2 := by kernel_rfl
  obtain ⟨A, l, cap, rfl, hl, hk⟩ := trod_list (α := Pm) Tryd.underlying36 c2 (by omega) (p := PmCells) h (fun m cs' y hm ht _ => trod_param ht)
  refine ⟨A, l, cap, rfl, fun k p hp => ?_, hl, fun k p hp => ?_⟩
  · obtain ⟨b, o, cs', rfl, ⟨rfl, _⟩, hc⟩ := hk k p hp
    have e0 := hc 0 (by omega)
    have e1 := hc 1 (by omega)
    simp at e0 e1
    exact ⟨b, o, rfl, e0, e1⟩
  · obtain ⟨_, _, _, _, ⟨_, h⟩, _⟩ := hk k p hp
    exact h

def FnCells (w : World) (cs : List Value) (f : Fn1) : Prop := ∃ A1 c1 A3 c3, cs = [.string f.name, .slice A1 f.params.length c1, .bool f.list, .int .u8 f.body.kind, .int .i64 f.body.num, .string f.body.name, .slice A3 f.body.kids.length c3] ∧ PmsAt w A1 f.params ∧ NdsAt w A3 f.body.kids ∧ FnFit f
theorem trod_func {fuel : Nat} {cs : List Value} {x : DataW H × List MemPlace} (h : DataW.trod enc Tryd.prog w base spare held fuel 55 cs = some x) : ∃ f, FnCells w cs f := by
  obtain ⟨xs, n, hn, hx, hlen, hxl, hg⟩ := DataW.trod_struct Tryd.underlying55 h
  have c7 : Tryd.prog.cellsOf 55 = 7 := by kernel_rfl
  have c4 : Tryd.prog.cellsOf 53 = 4 := by kernel_rfl
  have cS : Tryd.prog.cellsOf 9 = 1 := by kernel_rfl
  have cB : Tryd.prog.cellsOf 4 = 1 := by kernel_rfl
  have cP : Tryd.prog.cellsOf 36 = 1 := by kernel_rfl
  obtain ⟨a, b, c, d, e, f, g, rfl⟩ := list_seven (hlen.trans c7)
  have hget : ∀ i, i < 4 → ∃ y, xs[i]? = some y := fun i hi => ⟨xs[i]'(by rw [hxl]; exact hi), List.getElem?_eq_getElem _⟩
  obtain ⟨y0, e0⟩ := hget 0 (by omega)
  obtain ⟨y1, e1⟩ := hget 1 (by omega)
  obtain ⟨y2, e2⟩ := hget 2 (by omega)
  obtain ⟨y3, e3⟩ := hget 3 (by omega)
  have g0 : DataW.trod enc Tryd.prog w base spare held n 9 (List.take (Tryd.prog.cellsOf 9) (List.drop 0 [a, b, c, d, e, f, g])) = some y0 := (hg 0 _ rfl).trans e0
  have g1 : DataW.trod enc Tryd.prog w base spare held n 36 (List.take (Tryd.prog.cellsOf 36) (List.drop 1 [a, b, c, d, e, f, g])) = some y1 := (hg 1 _ rfl).trans e1
  have g2 : DataW.trod enc Tryd.prog w base spare held n 4 (List.take (Tryd.prog.cellsOf 4) (List.drop 2 [a, b, c, d, e, f, g])) = some y2 := (hg 2 _ rfl).trans e2
  have g3 : DataW.trod enc Tryd.prog w base spare held n 53 (List.take (Tryd.prog.cellsOf 53) (List.drop 3 [a, b, c, d, e, f, g])) = some y3 := (hg 3 _ rfl).trans e3
  simp only [cS, cB, cP, c4] at g0 g1 g2 g3
  obtain ⟨s0, q0, _, w0⟩ := DataW.trod_string Tryd.underlying9 g0
  obtain ⟨A1, l1, cap1, q1, hp, hpf⟩ := trod_params g1
  obtain ⟨b2, q2, _⟩ := DataW.trod_bool Tryd.underlying4 g2
  obtain ⟨y, A3, c3, q3, hk, hf⟩ := trod_node n _ _ g3
  simp only [List.drop_zero, List.drop_succ_cons, List.take_succ_cons, List.take_zero, List.cons.injEq, and_true] at q0 q1 q2 q3
  obtain ⟨q3, q4, q5, q6⟩ := q3
  unfold maxLen at w0
  exact ⟨⟨s0, l1, b2, y⟩, A1, cap1, A3, c3, by rw [q0, q1, q2, q3, q4, q5, q6], hp, hk, w0, hpf, hf⟩

theorem trod_lib {fuel : Nat} {cs : List Value} {x : DataW H × List MemPlace} (h : DataW.trod enc Tryd.prog w base spare held fuel 22 cs = some x) : ∃ A l cap, cs = [.slice A l.length cap] ∧ LibAt w A l ∧ LibFit l := by
  have c7 : Tryd.prog.cellsOf 55 = 7 := by kernel_rfl
  obtain ⟨A, l, cap, rfl, hl, hk⟩ := trod_list (α := Fn1) Tryd.underlying22 c7 (by omega) (p := FnCells w) h (fun m cs' y hm ht _ => trod_func ht)
  refine ⟨A, l, cap, rfl, fun k f hf => ?_, hl, fun k f hf => ?_⟩
  · obtain ⟨b, o, cs', rfl, ⟨A1, c1, A3, c3, rfl, hp, hn, _⟩, hc⟩ := hk k f hf
    have e0 := hc 0 (by omega)
    have e1 := hc 1 (by omega)
    have e2 := hc 2 (by omega)
    have e3 := hc 3 (by omega)
    have e4 := hc 4 (by omega)
    have e5 := hc 5 (by omega)
    have e6 := hc 6 (by omega)
    simp at e0 e1 e2 e3 e4 e5 e6
    refine ⟨b, o, rfl, e0, ⟨A1, c1, e1, hp⟩, e2, ?_⟩
    by_cases h0 : 0 < f.body.kids.length
    · obtain ⟨b1, o1, hA, _⟩ := hn.at_ h0
      exact .mk e3 e4 e5 e6 (fun _ => hA) (fun j z hz => by
        obtain ⟨b2, o2, hA2, h2⟩ := hn j z hz
        rw [hA] at hA2
        simp at hA2
        obtain ⟨rfl, rfl⟩ := hA2
        exact h2)
    · exact .mk (b' := 0) (o' := 0) e3 e4 e5 e6 (fun h => absurd h h0) (fun j z hz => by
        have := (List.getElem?_eq_some_iff.1 hz).1; omega)
  · obtain ⟨_, _, _, _, ⟨_, _, _, _, _, _, _, h⟩, _⟩ := hk k f hf
    exact h

theorem trod_ints {fuel : Nat} {cs : List Value} {x : DataW H × List MemPlace} (h : DataW.trod enc Tryd.prog w base spare held fuel 44 cs = some x) : ∃ A l cap, cs = [.slice A l.length cap] ∧ IntsAt w A l ∧ l.length ≤ 9223372036854775807 := by
  have c1 : Tryd.prog.cellsOf 3 = 1 := by kernel_rfl
  obtain ⟨A, l, cap, rfl, hl, hk⟩ := trod_list (α := Int) Tryd.underlying44 c1 (by omega) (p := fun cs' (n : Int) => cs' = [.int .i64 n]) h (fun m cs' y hm ht _ => by
    obtain ⟨n, q, _, _⟩ := DataW.trod_int Tryd.underlying3 ht
    exact ⟨n, q⟩)
  refine ⟨A, l, cap, rfl, fun k n hn => ?_, hl⟩
  obtain ⟨b, o, cs', rfl, rfl, hc⟩ := hk k n hn
  have e0 := hc 0 (by omega)
  simp at e0
  exact ⟨b, o, rfl, e0⟩

set_option maxRecDepth 100000 in
theorem open_lib {v : Value} {d : DataW H} {p : List MemPlace} (hv : Value.okWide Tryd.prog w r b0 22 v) (h : DataW.Trod enc Tryd.prog w base spare held 22 v d p) : ∃ A l cap, v = .slice A l.length cap ∧ LibAt w A l ∧ LibFit l := by
  obtain ⟨a, len, cap0, rfl⟩ := okWide_slice Tryd.underlying22 hv
  obtain ⟨fuel, hf⟩ := h
  obtain ⟨A, l, cap, e, h1, h2⟩ := trod_lib hf
  simp [Value.cells] at e
  exact ⟨A, l, cap, by rw [e.1, e.2.1, e.2.2], h1, h2⟩
set_option maxRecDepth 100000 in
theorem open_cap {A : Option Addr} {n c : Nat} {d : DataW H} {p : List MemPlace} (h : DataW.Trod enc Tryd.prog w base spare held 22 (.slice A n c) d p) : n ≤ c := by
  obtain ⟨fuel, hf⟩ := h
  rcases DataW.trod_slice Tryd.underlying22 hf with ⟨e, _⟩ | ⟨a, len, cap, elems, rest, m, _, e, _, _, hl, _⟩
  · simp [Value.cells] at e; omega
  · simp [Value.cells] at e; omega
set_option maxRecDepth 100000 in
theorem open_node {v : Value} {d : DataW H} {p : List MemPlace} (hv : Value.okWide Tryd.prog w r b0 53 v) (h : DataW.Trod enc Tryd.prog w base spare held 53 v d p) : ∃ (x : Nd) (A : Option Addr) (cap : Nat), v = .agg #[.int .u8 x.kind, .int .i64 x.num, .string x.name, .slice A x.kids.length cap] ∧ NdsAt w A x.kids ∧ NdFit x := by
  obtain ⟨cs, rfl, _⟩ := okWide_struct Tryd.underlying53 hv
  obtain ⟨fuel, hf⟩ := h
  obtain ⟨x, A, cap, e, h1, h2⟩ := trod_node fuel _ _ hf
  refine ⟨x, A, cap, ?_, h1, h2⟩
  congr 1
  exact Array.toList_inj.1 e
set_option maxRecDepth 100000 in
theorem open_value {v : Value} {d : DataW H} {p : List MemPlace} (hv : Value.okWide Tryd.prog w r b0 46 v) (h : DataW.Trod enc Tryd.prog w base spare held 46 v d p) : ∃ (x : Vl) (A : Option Addr) (cap : Nat), v = .agg #[.bool x.list, .int .i64 x.n, .slice A x.l.length cap] ∧ IntsAt w A x.l ∧ x.l.length ≤ 9223372036854775807 := by
  obtain ⟨cs, rfl, _⟩ := okWide_struct Tryd.underlying46 hv
  obtain ⟨fuel, hf⟩ := h
  obtain ⟨xs, n, hn, hx, hlen, hxl, hg⟩ := DataW.trod_struct Tryd.underlying46 hf
  have c3 : Tryd.prog.cellsOf 46 = 3 := by kernel_rfl
  have cB : Tryd.prog.cellsOf 4 = 1 := by kernel_rfl
  have cI : Tryd.prog.cellsOf 3 = 1 := by kernel_rfl
  have cL : Tryd.prog.cellsOf 44 = 1 := by kernel_rfl
  obtain ⟨a, b, c, hl3⟩ := list_three (hlen.trans c3)
  have hcs : cs.toList = [a, b, c] := hl3
  have hget : ∀ i, i < 3 → ∃ y, xs[i]? = some y := fun i hi => ⟨xs[i]'(by rw [hxl]; exact hi), List.getElem?_eq_getElem _⟩
  obtain ⟨y0, e0⟩ := hget 0 (by omega)
  obtain ⟨y1, e1⟩ := hget 1 (by omega)
  obtain ⟨y2, e2⟩ := hget 2 (by omega)
  rw [hl3] at hg
  have g0 : DataW.trod enc Tryd.prog w base spare held n 4 (List.take (Tryd.prog.cellsOf 4) (List.drop 0 [a, b, c])) = some y0 := (hg 0 _ rfl).trans e0
  have g1 : DataW.trod enc Tryd.prog w base spare held n 3 (List.take (Tryd.prog.cellsOf 3) (List.drop 1 [a, b, c])) = some y1 := (hg 1 _ rfl).trans e1
  have g2 : DataW.trod enc Tryd.prog w base spare held n 44 (List.take (Tryd.prog.cellsOf 44) (List.drop 2 [a, b, c])) = some y2 := (hg 2 _ rfl).trans e2
  simp only [cB, cI, cL] at g0 g1 g2
  obtain ⟨b0, q0, _⟩ := DataW.trod_bool Tryd.underlying4 g0
  obtain ⟨n1, q1, _, _⟩ := DataW.trod_int Tryd.underlying3 g1
  obtain ⟨A, l, cap, q2, hI, hl⟩ := trod_ints g2
  simp only [List.drop_zero, List.drop_succ_cons, List.take_succ_cons, List.take_zero, List.cons.injEq, and_true] at q0 q1 q2
  refine ⟨⟨b0, n1, l⟩, A, cap, ?_, hI, hl⟩
  congr 1
  apply Array.toList_inj.1
  rw [hcs, q0, q1, q2]
end

end Go.Proofs.YtcoeakdpcigogaaDoor

namespace Go.Proofs.YtcoeakdpcigogaaDoor
open Go.ChangeShapes Go.WideShapes Go.ChangeAt Go.RowKit Go.Deep

section
variable {H : Type} {enc : TypeId × Value → H} {w : World} {base : Nat} {spare : Nat → Bool} {held : Bool} {r : Reach} {b0 : Nat}

theorem trod_cap {fuel : Nat} {A : Option Addr} {n c : Nat} {x : DataW H × List MemPlace} (h : DataW.trod enc Tryd.prog w base spare held fuel 44 [.slice A n c] = some x) : n ≤ c := by
  rcases DataW.trod_slice Tryd.underlying44 h with ⟨e, _⟩ | ⟨a, len, cap, elems, rest, m, _, e, _, _, hl, _⟩
  · simp at e; omega
  · simp at e; omega
instance : Inhabited Vl := ⟨⟨false, 0, []⟩⟩
def VlCells (w : World) (cs : List Value) (y : Vl) : Prop := ∃ A c, cs = [.bool y.list, .int .i64 y.n, .slice A y.l.length c] ∧ IntsC w (fun _ => False) A c y.l ∧ y.l.length ≤ 9223372036854775807
theorem trod_value {fuel : Nat} {cs : List Value} {x : DataW H × List MemPlace} (hf : DataW.trod enc Tryd.prog w base spare held fuel 46 cs = some x) : ∃ y, VlCells w cs y := by
  obtain ⟨xs, n, hn, hx, hlen, hxl, hg⟩ := DataW.trod_struct Tryd.underlying46 hf
  have c3 : Tryd.prog.cellsOf 46 = 3 := by kernel_rfl
  have cB : Tryd.prog.cellsOf 4 = 1 := by kernel_rfl
  have cI : Tryd.prog.cellsOf 3 = 1 := by kernel_rfl
  have cL : Tryd.prog.cellsOf 44 = 1 := by kernel_rfl
  obtain ⟨a, b, c, rfl⟩ := list_three (hlen.trans c3)
  have hget : ∀ i, i < 3 → ∃ y, xs[i]? = some y := fun i hi => ⟨xs[i]'(by rw [hxl]; exact hi), List.getElem?_eq_getElem _⟩
  obtain ⟨y0, e0⟩ := hget 0 (by omega)
  obtain ⟨y1, e1⟩ := hget 1 (by omega)
  obtain ⟨y2, e2⟩ := hget 2 (by omega)
  have g0 : DataW.trod enc Tryd.prog w base spare held n 4 (List.take (Tryd.prog.cellsOf 4) (List.drop 0 [a, b, c])) = some y0 := (hg 0 _ rfl).trans e0
  have g1 : DataW.trod enc Tryd.prog w base spare held n 3 (List.take (Tryd.prog.cellsOf 3) (List.drop 1 [a, b, c])) = some y1 := (hg 1 _ rfl).trans e1
  have g2 : DataW.trod enc Tryd.prog w base spare held n 44 (List.take (Tryd.prog.cellsOf 44) (List.drop 2 [a, b, c])) = some y2 := (hg 2 _ rfl).trans e2
  simp only [cB, cI, cL] at g0 g1 g2
  obtain ⟨b0, q0, _⟩ := DataW.trod_bool Tryd.underlying4 g0
  obtain ⟨n1, q1, _, _⟩ := DataW.trod_int Tryd.underlying3 g1
  obtain ⟨A, l, cap, q2, hI, hl⟩ := trod_ints g2
  rw [q2] at g2
  have hcap := trod_cap g2
  simp only [List.drop_zero, List.drop_succ_cons, List.take_succ_cons, List.take_zero, List.cons.injEq, and_true] at q0 q1 q2
  exact ⟨⟨b0, n1, l⟩, A, cap, by rw [q0, q1, q2], ⟨hcap, fun k x hk => by
    obtain ⟨b, o, e, h1⟩ := hI k x hk
    exact ⟨b, o, e, id, h1⟩⟩, hl⟩

set_option maxRecDepth 100000 in
theorem open_vals {v : Value} {d : DataW H} {p : List MemPlace} (hv : Value.okWide Tryd.prog w r b0 41 v) (h : DataW.Trod enc Tryd.prog w base spare held 41 v d p) : ∃ A l cap, v = .slice A l.length cap ∧ VlsX w (fun _ => False) A l ∧ (∀ u ∈ l, u.l.length ≤ 9223372036854775807) ∧ l.length ≤ 9223372036854775807 := by
  obtain ⟨a, len, cap0, rfl⟩ := okWide_slice Tryd.underlying41 hv
  obtain ⟨fuel, hf⟩ := h
  have c3 : Tryd.prog.cellsOf 46 = 3 := by kernel_rfl
  obtain ⟨A, l, cap, e, hl, hk⟩ := trod_list (α := Vl) Tryd.underlying41 c3 (by omega) (p := VlCells w) hf (fun m cs' y hm ht _ => trod_value ht)
  simp [Value.cells] at e
  refine ⟨A, l, cap, by rw [e.1, e.2.1, e.2.2], fun k u hu => ?_, fun u hu => ?_, hl⟩
  · obtain ⟨b, o, cs', rfl, ⟨A', c', rfl, hi, _⟩, hc⟩ := hk k u hu
    have e0 := hc 0 (by omega)
    have e1 := hc 1 (by omega)
    have e2 := hc 2 (by omega)
    simp at e0 e1 e2
    exact ⟨b, o, A', c', rfl, id, e0, e1, e2, hi⟩
  · obtain ⟨k, hku⟩ := List.getElem?_of_mem hu
    obtain ⟨_, _, _, _, ⟨_, _, _, _, h⟩, _⟩ := hk k u hku
    exact h
end

end Go.Proofs.YtcoeakdpcigogaaDoor

namespace Go.Proofs.YtcoeakdpcigogaaDoor
open Go.ChangeShapes Go.WideShapes Go.ChangeAt Go.RowKit Go.Deep

section
variable {H : Type} {enc : TypeId × Value → H} {w : World} {base : Nat} {spare : Nat → Bool} {held : Bool} {r : Reach} {b0 : Nat}

theorem bulk_sum {α : Type} {m : α → Nat} : ∀ (l : List α) (es : List (DataW H)), l.length = es.length → (∀ (i : Nat) (a : α) (d : DataW H), l[i]? = some a → es[i]? = some d → m a ≤ Rows.uptoBulk d) → (l.map m).sum ≤ Rows.uptoBulkAll es
  | [], _, _, _ => by simp
  | a :: l, [], h, _ => by simp at h
  | a :: l, d :: es, h, hp => by
    rw [List.map_cons, List.sum_cons, Rows.uptoBulkAll]
    have h1 := hp 0 a d rfl rfl
    have h2 := bulk_sum l es (by simpa using h) (fun i a' d' ha hd => hp (i + 1) a' d' (by simpa using ha) (by simpa using hd))
    omega
theorem sum_mem {α : Type} {m : α → Nat} : ∀ (l : List α) (k : Nat) (a : α), l[k]? = some a → m a ≤ (l.map m).sum
  | [], _, _, h => by simp at h
  | b :: l, 0, a, h => by
    simp at h; subst h
    rw [List.map_cons, List.sum_cons]; omega
  | b :: l, k + 1, a, h => by
    have := sum_mem (m := m) l k a (by simpa using h)
    rw [List.map_cons, List.sum_cons]; omega
theorem sum_const {α : Type} (c : Nat) : ∀ (l : List α), (l.map fun _ => c).sum = c * l.length
  | [] => by simp
  | _ :: l => by rw [List.map_cons, List.sum_cons, sum_const c l, List.length_cons, Nat.mul_add]; omega
theorem sum_size : ∀ (l : List Nd), (l.map fun y => 5 * sizeT y).sum = 5 * sizeTL l
  | [] => by simp [sizeTL]
  | y :: l => by rw [List.map_cons, List.sum_cons, sum_size l, sizeTL]; omega

/-- A slice whose elements can be read, measured. -/
theorem trod_listM {α : Type} [Inhabited α] (m : α → Nat) {t e : TypeId} {c : Nat} (ht : Tryd.prog.underlying t = some (.slice e)) (hc : Tryd.prog.cellsOf e = c) (hc0 : 0 < c) {p : List Value → α → Prop} {fuel : Nat} {cs : List Value} {x : DataW H × List MemPlace}
    (h : DataW.trod enc Tryd.prog w base spare held fuel t cs = some x)
    (hp : ∀ (n : Nat) (cs' : List Value) (y : DataW H × List MemPlace), n < fuel → DataW.trod enc Tryd.prog w base spare held n e cs' = some y → cs'.length = c → ∃ a, p cs' a ∧ m a ≤ Rows.uptoBulk y.1) :
    ∃ (A : Option Addr) (l : List α) (cap : Nat), cs = [.slice A l.length cap] ∧ l.length ≤ 9223372036854775807 ∧
      (∀ (k : Nat) (a : α), l[k]? = some a → ∃ b o cs', A = some ⟨b, o, none⟩ ∧ p cs' a ∧ ∀ j, j < c → w.cell? ⟨b, o + k * c + j, none⟩ = cs'[j]?) ∧ (l.map m).sum + 1 ≤ Rows.uptoBulk x.1 := by
  rcases DataW.trod_slice ht h with ⟨rfl, rfl⟩ | ⟨a, len, cap, elems, rest, n, hf, rfl, rfl, hb, hl, hm, hlen, hel, _, _⟩
  · exact ⟨none, [], 0, rfl, by simp, fun k a hk => by simp at hk, by simp [Rows.uptoBulk]⟩
  have key : ∀ i, i < len → ∃ q : α × List Value, (p q.2 q.1 ∧ ∀ d, (elems.map (·.1))[i]? = some d → m q.1 ≤ Rows.uptoBulk d) ∧ w.cells? base (a.add (i * c)) c = some q.2 := fun i hi => by
    have h1 := hel i hi
    rw [List.getElem?_eq_getElem (by omega), hc] at h1
    obtain ⟨cs', h2, h3⟩ := Option.bind_eq_some_iff.1 h1
    obtain ⟨_, h4, _⟩ := World.cells?_some h2
    obtain ⟨y, hy, hy2⟩ := hp n cs' _ (by omega) h3 h4
    refine ⟨(y, cs'), ⟨hy, fun d hd => ?_⟩, h2⟩
    rw [List.getElem?_map, List.getElem?_eq_getElem (by omega)] at hd
    cases hd
    exact hy2
  obtain ⟨f, hf'⟩ := choose_lt key
  have hlen' : ((List.range len).map fun i => (f i).1).length = len := by simp
  refine ⟨some a, (List.range len).map fun i => (f i).1, cap, by rw [hlen'], by rw [hlen']; unfold maxLen at hm; omega, fun k y hk => ?_, ?_⟩
  · have hkl : k < len := by have := (List.getElem?_eq_some_iff.1 hk).1; simpa using this
    obtain rfl : (f k).1 = y := by simpa [hkl] using hk
    obtain ⟨⟨h1, _⟩, h2⟩ := hf' k hkl
    obtain ⟨_, h4, hat⟩ := World.cells?_some h2
    have hsp0 : a.spot = none := by
      obtain ⟨_, h5, hat0⟩ := World.cells?_some (hf' 0 (by omega)).2
      have hz := hat0 0 hc0
      rw [List.getElem?_eq_getElem (by omega)] at hz
      rw [Nat.zero_mul] at hz
      have e1 : (a.add 0).add 0 = a := by simp [Addr.add]
      rw [e1] at hz
      exact spot_none hz
    obtain ⟨b, o, sp⟩ := a
    have hsp : sp = none := hsp0
    subst hsp
    refine ⟨b, o, (f k).2, rfl, h1, fun j hj => ?_⟩
    have := hat j hj
    rw [add_pos, add_pos] at this
    exact this
  · have := bulk_sum (m := m) ((List.range len).map fun i => (f i).1) (elems.map (·.1)) (by simp [hlen]) (fun i a' d ha hd => by
      have hkl : i < len := by have := (List.getElem?_eq_some_iff.1 ha).1; simpa using this
      obtain rfl : (f i).1 = a' := by simpa [hkl] using ha
      exact (hf' i hkl).1.2 d hd)
    show _ ≤ Rows.uptoBulk (DataW.slice _ _)
    rw [Rows.uptoBulk]
    omega

theorem pairs_four {xs : List (DataW H × List MemPlace)} (h : xs.length = 4) : ∃ a b c d, xs = [a, b, c, d] := by
  match xs, h with
  | [a, b, c, d], _ => exact ⟨a, b, c, d, rfl⟩
theorem pairs_two {xs : List (DataW H × List MemPlace)} (h : xs.length = 2) : ∃ a b, xs = [a, b] := by
  match xs, h with
  | [a, b], _ => exact ⟨a, b, rfl⟩

theorem trod_nodeM : ∀ (fuel : Nat) (cs : List Value) (x : DataW H × List MemPlace), DataW.trod enc Tryd.prog w base spare held fuel 53 cs = some x → ∃ y, NdCells w cs y ∧ 5 * sizeT y ≤ Rows.uptoBulk x.1 := by
  intro fuel
  induction fuel using Nat.strongRecOn with
  | ind fuel ih =>
    intro cs x h
    obtain ⟨xs, n, hn, hx, hlen, hxl, hg⟩ := DataW.trod_struct Tryd.underlying53 h
    have c4 : Tryd.prog.cellsOf 53 = 4 := by kernel_rfl
    have c1 : Tryd.prog.cellsOf 3 = 1 := by kernel_rfl
    have c8 : Tryd.prog.cellsOf 5 = 1 := by kernel_rfl
    have cS : Tryd.prog.cellsOf 9 = 1 := by kernel_rfl
    have cK : Tryd.prog.cellsOf 51 = 1 := by kernel_rfl
    obtain ⟨a, b, c, d, rfl⟩ := list_four (hlen.trans c4)
    obtain ⟨y0, y1, y2, y3, rfl⟩ := pairs_four (show xs.length = 4 from hxl)
    have g0 : DataW.trod enc Tryd.prog w base spare held n 5 (List.take (Tryd.prog.cellsOf 5) (List.drop 0 [a, b, c, d])) = some y0 := hg 0 _ rfl
    have g1 : DataW.trod enc Tryd.prog w base spare held n 3 (List.take (Tryd.prog.cellsOf 3) (List.drop 1 [a, b, c, d])) = some y1 := hg 1 _ rfl
    have g2 : DataW.trod enc Tryd.prog w base spare held n 9 (List.take (Tryd.prog.cellsOf 9) (List.drop 2 [a, b, c, d])) = some y2 := hg 2 _ rfl
    have g3 : DataW.trod enc Tryd.prog w base spare held n 51 (List.take (Tryd.prog.cellsOf 51) (List.drop 3 [a, b, c, d])) = some y3 := hg 3 _ rfl
    simp only [c1, c8, cS, cK] at g0 g1 g2 g3
    obtain ⟨n0, q0, z0, w0⟩ := DataW.trod_int Tryd.underlying5 g0
    obtain ⟨n1, q1, z1, w1⟩ := DataW.trod_int Tryd.underlying3 g1
    obtain ⟨s2, q2, z2, w2⟩ := DataW.trod_string Tryd.underlying9 g2
    obtain ⟨A, l, cap, q3, hl, hk, hsum⟩ := trod_listM (α := Nd) (fun y => 5 * sizeT y) Tryd.underlying51 c4 (by omega) (p := NdCells w) g3 (fun m cs' y hm ht _ => ih m (by omega) cs' y ht)
    obtain ⟨op, hop, rfl⟩ := wf_u8 w0
    simp only [List.drop_zero, List.drop_succ_cons, List.take_succ_cons, List.take_zero, List.cons.injEq, and_true] at q0 q1 q2 q3
    unfold maxLen at w2
    refine ⟨.mk op n1 s2 l, ⟨A, cap, by rw [q0, q1, q2, q3]; rfl, nds_of hk, .mk hop (wf_i64 w1) w2 hl (fun k y hy => ?_)⟩, ?_⟩
    · obtain ⟨_, _, cs', _, ⟨_, _, _, _, hf⟩, _⟩ := hk k y hy
      exact hf
    · rw [hx, z0, z1, z2]
      show 5 * sizeT _ ≤ Rows.uptoBulk (.agg [_, _, _, _])
      rw [sum_size] at hsum
      simp only [sizeT, Rows.uptoBulk, Rows.uptoBulkAll]
      omega

theorem trod_paramM {fuel : Nat} {cs : List Value} {x : DataW H × List MemPlace} (h : DataW.trod enc Tryd.prog w base spare held fuel 65 cs = some x) : ∃ p, PmCells cs p ∧ 3 ≤ Rows.uptoBulk x.1 := by
  obtain ⟨p, hp⟩ := trod_param h
  refine ⟨p, hp, ?_⟩
  obtain ⟨xs, n, hn, hx, hlen, hxl, hg⟩ := DataW.trod_struct Tryd.underlying65 h
  obtain ⟨y0, y1, rfl⟩ := pairs_two (show xs.length = 2 from hxl)
  have g0 : DataW.trod enc Tryd.prog w base spare held n 9 (List.take (Tryd.prog.cellsOf 9) (List.drop 0 cs)) = some y0 := hg 0 _ rfl
  have g1 : DataW.trod enc Tryd.prog w base spare held n 4 (List.take (Tryd.prog.cellsOf 4) (List.drop 1 cs)) = some y1 := hg 1 _ rfl
  obtain ⟨s0, _, z0, _⟩ := DataW.trod_string Tryd.underlying9 g0
  obtain ⟨b1, _, z1⟩ := DataW.trod_bool Tryd.underlying4 g1
  rw [hx, z0, z1]
  show 3 ≤ Rows.uptoBulk (.agg [_, _])
  simp only [Rows.uptoBulk, Rows.uptoBulkAll]
  omega

def sizeF (f : Fn1) : Nat := max (3 * f.params.length) (5 * sizeT f.body)
theorem trod_paramsM {fuel : Nat} {cs : List Value} {x : DataW H × List MemPlace} (h : DataW.trod enc Tryd.prog w base spare held fuel 36 cs = some x) : ∃ A l cap, cs = [.slice A l.length cap] ∧ PmsAt w A l ∧ PmFit l ∧ 3 * l.length ≤ Rows.uptoBulk x.1 := by
  have c2 : Tryd.prog.cellsOf 65 = 2 := by kernel_rfl
  obtain ⟨A, l, cap, rfl, hl, hk, hs⟩ := trod_listM (α := Pm) (fun _ => 3) Tryd.underlying36 c2 (by omega) (p := PmCells) h (fun m cs' y hm ht _ => trod_paramM ht)
  rw [sum_const] at hs
  refine ⟨A, l, cap, rfl, fun k p hp => ?_, ⟨hl, fun k p hp => ?_⟩, by omega⟩
  · obtain ⟨b, o, cs', rfl, ⟨rfl, _⟩, hc⟩ := hk k p hp
    have e0 := hc 0 (by omega)
    have e1 := hc 1 (by omega)
    simp at e0 e1
    exact ⟨b, o, rfl, e0, e1⟩
  · obtain ⟨_, _, _, _, ⟨_, h⟩, _⟩ := hk k p hp
    exact h

theorem trod_funcM {fuel : Nat} {cs : List Value} {x : DataW H × List MemPlace} (h : DataW.trod enc Tryd.prog w base spare held fuel 55 cs = some x) : ∃ f, FnCells w cs f ∧ sizeF f ≤ Rows.uptoBulk x.1 := by
  obtain ⟨xs, n, hn, hx, hlen, hxl, hg⟩ := DataW.trod_struct Tryd.underlying55 h
  have c7 : Tryd.prog.cellsOf 55 = 7 := by kernel_rfl
  have c4 : Tryd.prog.cellsOf 53 = 4 := by kernel_rfl
  have cS : Tryd.prog.cellsOf 9 = 1 := by kernel_rfl
  have cB : Tryd.prog.cellsOf 4 = 1 := by kernel_rfl
  have cP : Tryd.prog.cellsOf 36 = 1 := by kernel_rfl
  obtain ⟨a, b, c, d, e, f, g, rfl⟩ := list_seven (hlen.trans c7)
  obtain ⟨y0, y1, y2, y3, rfl⟩ := pairs_four (show xs.length = 4 from hxl)
  have g0 : DataW.trod enc Tryd.prog w base spare held n 9 (List.take (Tryd.prog.cellsOf 9) (List.drop 0 [a, b, c, d, e, f, g])) = some y0 := hg 0 _ rfl
  have g1 : DataW.trod enc Tryd.prog w base spare held n 36 (List.take (Tryd.prog.cellsOf 36) (List.drop 1 [a, b, c, d, e, f, g])) = some y1 := hg 1 _ rfl
  have g2 : DataW.trod enc Tryd.prog w base spare held n 4 (List.take (Tryd.prog.cellsOf 4) (List.drop 2 [a, b, c, d, e, f, g])) = some y2 := hg 2 _ rfl
  have g3 : DataW.trod enc Tryd.prog w base spare held n 53 (List.take (Tryd.prog.cellsOf 53) (List.drop 3 [a, b, c, d, e, f, g])) = some y3 := hg 3 _ rfl
  simp only [cS, cB, cP, c4] at g0 g1 g2 g3
  obtain ⟨s0, q0, _, w0⟩ := DataW.trod_string Tryd.underlying9 g0
  obtain ⟨A1, l1, cap1, q1, hp, hpf, hs1⟩ := trod_paramsM g1
  obtain ⟨b2, q2, _⟩ := DataW.trod_bool Tryd.underlying4 g2
  obtain ⟨y, ⟨A3, c3, q3, hk, hf⟩, hs3⟩ := trod_nodeM n _ _ g3
  simp only [List.drop_zero, List.drop_succ_cons, List.take_succ_cons, List.take_zero, List.cons.injEq, and_true] at q0 q1 q2 q3
  obtain ⟨q3, q4, q5, q6⟩ := q3
  unfold maxLen at w0
  refine ⟨⟨s0, l1, b2, y⟩, ⟨A1, cap1, A3, c3, by rw [q0, q1, q2, q3, q4, q5, q6], hp, hk, w0, hpf, hf⟩, ?_⟩
  rw [hx]
  show sizeF _ ≤ Rows.uptoBulk (.agg [_, _, _, _])
  simp only [sizeF, Rows.uptoBulk, Rows.uptoBulkAll]
  omega

set_option maxRecDepth 100000 in
theorem open_libM {v : Value} {d : DataW H} {p : List MemPlace} (hv : Value.okWide Tryd.prog w r b0 22 v) (h : DataW.Trod enc Tryd.prog w base spare held 22 v d p) : ∃ A l cap, v = .slice A l.length cap ∧ LibAt w A l ∧ LibFit l ∧ ∀ (k : Nat) (f : Fn1), l[k]? = some f → 3 * f.params.length ≤ Rows.uptoBulk d ∧ 5 * sizeT f.body ≤ Rows.uptoBulk d := by
  obtain ⟨a, len, cap0, rfl⟩ := okWide_slice Tryd.underlying22 hv
  obtain ⟨fuel, hf⟩ := h
  have c7 : Tryd.prog.cellsOf 55 = 7 := by kernel_rfl
  obtain ⟨A, l, cap, e, hl, hk, hs⟩ := trod_listM (α := Fn1) sizeF Tryd.underlying22 c7 (by omega) (p := FnCells w) hf (fun m cs' y hm ht _ => trod_funcM ht)
  simp [Value.cells] at e
  refine ⟨A, l, cap, by rw [e.1, e.2.1, e.2.2], fun k f hf => ?_, ⟨hl, fun k f hf => ?_⟩, fun k f hf => ?_⟩
  · obtain ⟨b, o, cs', rfl, ⟨A1, c1, A3, c3, rfl, hp, hn, _⟩, hc⟩ := hk k f hf
    have e0 := hc 0 (by omega)
    have e1 := hc 1 (by omega)
    have e2 := hc 2 (by omega)
    have e3 := hc 3 (by omega)
    have e4 := hc 4 (by omega)
    have e5 := hc 5 (by omega)
    have e6 := hc 6 (by omega)
    simp at e0 e1 e2 e3 e4 e5 e6
    refine ⟨b, o, rfl, e0, ⟨A1, c1, e1, hp⟩, e2, ?_⟩
    by_cases h0 : 0 < f.body.kids.length
    · obtain ⟨b1, o1, hA, _⟩ := hn.at_ h0
      exact .mk e3 e4 e5 e6 (fun _ => hA) (fun j z hz => by
        obtain ⟨b2, o2, hA2, h2⟩ := hn j z hz
        rw [hA] at hA2
        simp at hA2
        obtain ⟨rfl, rfl⟩ := hA2
        exact h2)
    · exact .mk (b' := 0) (o' := 0) e3 e4 e5 e6 (fun h => absurd h h0) (fun j z hz => by
        have := (List.getElem?_eq_some_iff.1 hz).1; omega)
  · obtain ⟨_, _, _, _, ⟨_, _, _, _, _, _, _, h⟩, _⟩ := hk k f hf
    exact h
  · have := sum_mem (m := sizeF) l k f hf
    have hs' : (l.map sizeF).sum + 1 ≤ Rows.uptoBulk d := hs
    unfold sizeF at this hs'
    omega
end

end Go.Proofs.YtcoeakdpcigogaaDoor
