/-
  Arguments of layer 51 opened (commands); what the row's laid variables give the walks.
-/
import Derived.Test.YtklljdjeobifiaaDoorFrame
import Derived.Test.YtklljdjeobifiaaDoorCards
import Derived.Test.YtklljdjeobifiaaDoorTie
import Derived.Test.YtklljdjeobifiaaDoorScrWld
import Derived.Test.YtklljdjeobifiaaDoorScrP2
import Derived.Lib.LaidTab
import Derived.Stop.LaidErr
import Derived.LaidSub
import Derived.LaidOnce
import Derived.Lay
import Derived.Shelf.Vars
import Derived.Deep.DeepWitnessRowRef
import Derived.Deep.Slices
import Derived.JoinedOf
import Derived.JoinedAt
import Derived.RowKit3
namespace Go.Proofs.YtklljdjeobifiaaDoor
open Go.ChangeShapes Go.WideShapes Go.ChangeAt Go.RowKit Go.Deep

theorem wf_u8 {n : Int} (h : (Lit.int .u8 n).wf = true) : ∃ k : Nat, k < 256 ∧ n = k := by
  simp only [Lit.wf, IntKind.min, IntKind.max, IntKind.signed, IntKind.bits, Bool.and_eq_true] at h
  exact ⟨n.toNat, by have := h.1; have := h.2; simp at *; omega, by have := h.1; simp at *; omega⟩
theorem wf_i64 {n : Int} (h : (Lit.int .i64 n).wf = true) : -9223372036854775808 ≤ n ∧ n ≤ 9223372036854775807 := by
  simp only [Lit.wf, IntKind.min, IntKind.max, IntKind.signed, IntKind.bits, Bool.and_eq_true, decide_eq_true_eq] at h
  simp at h; omega
theorem spot_none {w : World} {a : Addr} {v : Value} (h : w.cell? a = some v) : a.spot = none := by
  unfold World.cell? at h
  split at h
  · split at h
    · cases h
    · rename_i hs; simpa using hs
  · cases h
theorem add_pos (b o n : Nat) : (⟨b, o, none⟩ : Addr).add n = ⟨b, o + n, none⟩ := by
  unfold Addr.add; by_cases h : n = 0 <;> simp [h]
theorem list_four {l : List Value} (h : l.length = 4) : ∃ a b c d, l = [a, b, c, d] := by
  match l, h with
  | [a, b, c, d], _ => exact ⟨a, b, c, d, rfl⟩
instance : Inhabited Cm := ⟨⟨0, [], [], []⟩⟩

section
variable {H : Type} {enc : TypeId × Value → H} {w : World} {base : Nat} {spare : Nat → Bool} {held : Bool} {r : Reach} {b0 : Nat}

/-- A slice whose elements can be read. -/
theorem trod_list {α : Type} [Inhabited α] {t e : TypeId} {c : Nat} (ht : Tryd.prog.underlying t = some (.slice e)) (hc : Tryd.prog.cellsOf e = c) (hc0 : 0 < c) {p : List Value → α → Prop} {fuel : Nat} {cs : List Value} {x : DataW H × List MemPlace}
    (h : DataW.trod enc Tryd.prog w base spare held fuel t cs = some x)
    (hp : ∀ (n : Nat) (cs' : List Value) (y : DataW H × List MemPlace), n < fuel → DataW.trod enc Tryd.prog w base spare held n e cs' = some y → cs'.length = c → ∃ a, p cs' a) :
    ∃ (A : Option Addr) (l : List α) (cap : Nat), cs = [.slice A l.length cap] ∧ l.length ≤ 9223372036854775807 ∧
      ∀ (k : Nat) (a : α), l[k]? = some a → ∃ b o cs', A = some ⟨b, o, none⟩ ∧ p cs' a ∧ ∀ j, j < c → w.cell? ⟨b, o + k * c + j, none⟩ = cs'[j]? := by
  rcases DataW.trod_slice ht h with ⟨rfl, _⟩ | ⟨a, len, cap, elems, rest, n, hf, rfl, rfl, hb, hl, hm, hlen, hel, _, _⟩
  · exact ⟨none, [], 0, rfl, by simp, fun k a hk => by simp at hk⟩
  have key : ∀ i, i < len → ∃ q : α × List Value, p q.2 q.1 ∧ w.cells? base (a.add (i * c)) c = some q.2 := fun i hi => by
    have h1 := hel i hi
    rw [List.getElem?_eq_getElem (by omega), hc] at h1
    obtain ⟨cs', h2, h3⟩ := Option.bind_eq_some_iff.1 h1
    obtain ⟨_, h4, _⟩ := World.cells?_some h2
    obtain ⟨y, hy⟩ := hp n cs' _ (by omega) h3 h4
    exact ⟨(y, cs'), hy, h2⟩
  obtain ⟨f, hf'⟩ := choose_lt key
  have hlen' : ((List.range len).map fun i => (f i).1).length = len := by simp
  refine ⟨some a, (List.range len).map fun i => (f i).1, cap, by rw [hlen'], by rw [hlen']; unfold maxLen at hm; omega, fun k y hk => ?_⟩
  have hkl : k < len := by have := (List.getElem?_eq_some_iff.1 hk).1; simpa using this
  obtain rfl : (f k).1 = y := by simpa [hkl] using hk
  obtain ⟨h1, h2⟩ := hf' k hkl
  obtain ⟨_, h4, hat⟩ := World.cells?_some h2
  have hsp0 : a.spot = none := by
    obtain ⟨_, h5, hat0⟩ := World.cells?_some (hf' 0 (by omega)).2
    have hz := hat0 0 hc0
    rw [List.getElem?_eq_getElem (by omega)] at hz
    rw [Nat.zero_mul] at hz
    have e1 : (a.add 0).add 0 = a := by simp [Addr.add]
    rw [e1] at hz
    exact spot_none hz
  obtain ⟨b, o, sp⟩ := a
  have hsp : sp = none := hsp0
  subst hsp
  refine ⟨b, o, (f k).2, rfl, h1, fun j hj => ?_⟩
  have := hat j hj
  rw [add_pos, add_pos] at this
  exact this

theorem trod_ints {fuel : Nat} {cs : List Value} {x : DataW H × List MemPlace} (h : DataW.trod enc Tryd.prog w base spare held fuel 40 cs = some x) : ∃ A l cap, cs = [.slice A l.length cap] ∧ IntsAt w A l ∧ l.length ≤ 9223372036854775807 ∧ ∀ n ∈ l, -9223372036854775808 ≤ n ∧ n ≤ 9223372036854775807 := by
  have c1 : Tryd.prog.cellsOf 3 = 1 := by kernel_rfl
  obtain ⟨A, l, cap, rfl, hl, hk⟩ := trod_list (α := Int) Tryd.underlying40 c1 (by omega) (p := fun cs' (n : Int) => cs' = [.int .i64 n] ∧ -9223372036854775808 ≤ n ∧ n ≤ 9223372036854775807) h (fun m cs' y hm ht _ => by
    obtain ⟨n, q, _, wf⟩ := DataW.trod_int Tryd.underlying3 ht
    exact ⟨n, q, wf_i64 wf⟩)
  refine ⟨A, l, cap, rfl, fun k n hn => ?_, hl, fun n hn => ?_⟩
  · obtain ⟨b, o, cs', rfl, ⟨rfl, _⟩, hc⟩ := hk k n hn
    have e0 := hc 0 (by omega)
    simp at e0
    exact ⟨b, o, rfl, e0⟩
  · obtain ⟨k, hkn⟩ := List.getElem?_of_mem hn
    obtain ⟨_, _, _, _, ⟨_, h⟩, _⟩ := hk k n hkn
    exact h

def CmCells (w : World) (cs : List Value) (y : Cm) : Prop := CmC w cs y ∧ Sm y ∧ Fits y ∧ y.kind < 256
theorem trod_cmd {fuel : Nat} {cs : List Value} {x : DataW H × List MemPlace} (h : DataW.trod enc Tryd.prog w base spare held fuel 45 cs = some x) : ∃ y, CmCells w cs y := by
  obtain ⟨xs, n, hn, hx, hlen, hxl, hg⟩ := DataW.trod_struct Tryd.underlying45 h
  have c4 : Tryd.prog.cellsOf 45 = 4 := by kernel_rfl
  have c8 : Tryd.prog.cellsOf 5 = 1 := by kernel_rfl
  have cS : Tryd.prog.cellsOf 9 = 1 := by kernel_rfl
  have cL : Tryd.prog.cellsOf 40 = 1 := by kernel_rfl
  obtain ⟨a, b, c, d, rfl⟩ := list_four (hlen.trans c4)
  have hget : ∀ i, i < 4 → ∃ y, xs[i]? = some y := fun i hi => ⟨xs[i]'(by rw [hxl]; exact hi), List.getElem?_eq_getElem _⟩
  obtain ⟨y0, e0⟩ := hget 0 (by omega)
  obtain ⟨y1, e1⟩ := hget 1 (by omega)
  obtain ⟨y2, e2⟩ := hget 2 (by omega)
  obtain ⟨y3, e3⟩ := hget 3 (by omega)
  have g0 : DataW.trod enc Tryd.prog w base spare held n 5 (List.take (Tryd.prog.cellsOf 5) (List.drop 0 [a, b, c, d])) = some y0 := (hg 0 _ rfl).trans e0
  have g1 : DataW.trod enc Tryd.prog w base spare held n 9 (List.take (Tryd.prog.cellsOf 9) (List.drop 1 [a, b, c, d])) = some y1 := (hg 1 _ rfl).trans e1
  have g2 : DataW.trod enc Tryd.prog w base spare held n 9 (List.take (Tryd.prog.cellsOf 9) (List.drop 2 [a, b, c, d])) = some y2 := (hg 2 _ rfl).trans e2
  have g3 : DataW.trod enc Tryd.prog w base spare held n 40 (List.take (Tryd.prog.cellsOf 40) (List.drop 3 [a, b, c, d])) = some y3 := (hg 3 _ rfl).trans e3
  simp only [c8, cS, cL] at g0 g1 g2 g3
  obtain ⟨n0, q0, _, w0⟩ := DataW.trod_int Tryd.underlying5 g0
  obtain ⟨s1, q1, _, w1⟩ := DataW.trod_string Tryd.underlying9 g1
  obtain ⟨s2, q2, _, w2⟩ := DataW.trod_string Tryd.underlying9 g2
  obtain ⟨A, l, cap, q3, hI, hl, hf⟩ := trod_ints g3
  obtain ⟨op, hop, rfl⟩ := wf_u8 w0
  simp only [List.drop_zero, List.drop_succ_cons, List.take_succ_cons, List.take_zero, List.cons.injEq, and_true] at q0 q1 q2 q3
  unfold maxLen at w1 w2
  refine ⟨⟨op, s1.data.toList, s2.data.toList, l⟩, ⟨A, cap, by rw [q0, q1, q2, q3, bs_data, bs_data], hI⟩, ⟨?_, ?_, hl⟩, hf, hop⟩
  · show s1.data.toList.length ≤ _
    rw [size_len]; omega
  · show s2.data.toList.length ≤ _
    rw [size_len]; omega

set_option maxRecDepth 100000 in
theorem open_cmds {v : Value} {d : DataW H} {p : List MemPlace} (hv : Value.okWide Tryd.prog w r b0 22 v) (h : DataW.Trod enc Tryd.prog w base spare held 22 v d p) :
    ∃ A l cap, v = .slice A l.length cap ∧ CmsAt w A l ∧ (∀ c ∈ l, Sm c) ∧ (∀ c ∈ l, Fits c) ∧ (∀ c ∈ l, c.kind < 256) ∧ l.length ≤ 9223372036854775807 := by
  obtain ⟨a, len, cap0, rfl⟩ := okWide_slice Tryd.underlying22 hv
  obtain ⟨fuel, hf⟩ := h
  have c4 : Tryd.prog.cellsOf 45 = 4 := by kernel_rfl
  obtain ⟨A, l, cap, e, hl, hk⟩ := trod_list (α := Cm) Tryd.underlying22 c4 (by omega) (p := CmCells w) hf (fun m cs' y hm ht _ => trod_cmd ht)
  simp [Value.cells] at e
  have hall : ∀ c ∈ l, Sm c ∧ Fits c ∧ c.kind < 256 := fun c hc => by
    obtain ⟨k, hkc⟩ := List.getElem?_of_mem hc
    obtain ⟨_, _, _, _, ⟨_, h⟩, _⟩ := hk k c hkc
    exact h
  refine ⟨A, l, cap, by rw [e.1, e.2.1, e.2.2], fun k c hc => ?_, fun c hc => (hall c hc).1, fun c hc => (hall c hc).2.1, fun c hc => (hall c hc).2.2, hl⟩
  obtain ⟨b, o, cs', rfl, ⟨⟨A', cp, rfl, hi⟩, _⟩, hq⟩ := hk k c hc
  exact ⟨b, o, rfl, hq 0 (by omega), hq 1 (by omega), hq 2 (by omega), A', cp, hq 3 (by omega), hi⟩
end

/-- What the listed variables give the walks. -/
theorem wld_of_laid {W : World} (hH : laidMetH Tryd.prog Rows.scriptOneRow.laid W) (hS : W.ShapedOpen Tryd.prog) : Wld W := by
  rw [MakeChecks.laidMetH_plain _ _ _ (by kernel_rfl)] at hH
  have e1 : (Rows.scriptOneRow.laid.filter fun x => x.1 == "internal/strconv.uint64pow10") = [("internal/strconv.uint64pow10", Lib.tabData .u64 Lib.pow10Tab)] := by kernel_rfl
  have e2 : (Rows.scriptOneRow.laid.filter fun x => x.1 == "strconv.ErrSyntax") = [("strconv.ErrSyntax", .iface "*errors.errorString" (.ptr (.agg [.lit (.string [105, 110, 118, 97, 108, 105, 100, 32, 115, 121, 110, 116, 97, 120])])))] := by kernel_rfl
  have e3 : (Rows.scriptOneRow.laid.filter fun x => x.1 == "strconv.ErrRange") = [("strconv.ErrRange", .iface "*errors.errorString" (.ptr (.agg [.lit (.string [118, 97, 108, 117, 101, 32, 111, 117, 116, 32, 111, 102, 32, 114, 97, 110, 103, 101])])))] := by kernel_rfl
  have h1 := hH.filter fun x => x.1 == "internal/strconv.uint64pow10"
  have h2 := hH.filter fun x => x.1 == "strconv.ErrSyntax"
  have h3 := hH.filter fun x => x.1 == "strconv.ErrRange"
  rw [e1] at h1
  rw [e2] at h2
  rw [e3] at h3
  have gS : Tryd.prog.globalNamed "strconv.ErrSyntax" = some 2 := by kernel_rfl
  have gR : Tryd.prog.globalNamed "strconv.ErrRange" = some 3 := by kernel_rfl
  have star : "*" ++ "errors.errorString" = "*errors.errorString" := by decide
  have hrow : ∀ u, Tryd.prog.typeName? 3 u = some "*errors.errorString" → u = 140 := fun u h =>
    typeName_ptr_named (nm := "errors.errorString") (by rw [star]; kernel_rfl) (by kernel_rfl) (by decide) u (by rw [star]; exact h)
  obtain ⟨a2, s2, v2, -, -, -⟩ := laid_sentinel h2 gS (by kernel_rfl) Tryd.underlying58 hrow Tryd.underlying140 Tryd.underlying142 rfl rfl Tryd.underlying9 (by kernel_rfl) (by kernel_rfl)
  obtain ⟨a3, s3, v3, -, -, -⟩ := laid_sentinel h3 gR (by kernel_rfl) Tryd.underlying58 hrow Tryd.underlying140 Tryd.underlying142 rfl rfl Tryd.underlying9 (by kernel_rfl) (by kernel_rfl)
  refine ⟨?_, ?_, ?_, ?_⟩
  · exact Lib.tabIs_of_head (g := 1) (t := 114) (e := 101) (n := 20) (by kernel_rfl) (by kernel_rfl) Tryd.underlying114 Tryd.underlying101 (by kernel_rfl) (by kernel_rfl) h1
  · exact cell_of_shapedOpen_int (zero := #[.int .i64 0]) (t := 3) hS (of_decide_eq_true (by kernel_rfl)) (by kernel_rfl) rfl (by kernel_rfl) (by kernel_rfl) Tryd.underlying3
  · exact ⟨_, by have := World.var?_cell gS v2 0; simpa using this, .inr ⟨_, _, rfl⟩⟩
  · exact ⟨_, by have := World.var?_cell gR v3 0; simpa using this, .inr ⟨_, _, rfl⟩⟩

end Go.Proofs.YtklljdjeobifiaaDoor
