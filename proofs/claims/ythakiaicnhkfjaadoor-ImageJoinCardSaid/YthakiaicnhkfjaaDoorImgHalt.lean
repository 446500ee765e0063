/-
  Contracts of image.Halt and image.Procs.
-/
import Derived.Test.YthakiaicnhkfjaaDoorImgBase
namespace Go.Proofs.YthakiaicnhkfjaaDoor
open Go.ChangeShapes Go.WideShapes Go.ChangeAt Go.RowKit Go.Sort

/-- The first instruction with opcode halt, from k on. -/
def haltF : List Ins → Nat → Option Nat
  | [], _ => none
  | x :: r, k => if x.op = 34 then some k else haltF r (k + 1)
theorem haltF_step {l : List Ins} {k : Nat} (h : k < l.length) : haltF (l.drop k) k = if l[k].op = 34 then some k else haltF (l.drop (k + 1)) (k + 1) := by
  rw [List.drop_eq_getElem_cons h]; rfl
def optI (o : Option Nat) : Int := match o with | some k => k | none => 0

theorem ret_ib {a b : Int} {c d : Bool} (h : a = b) (h2 : c = d) : Ending.returned (.tuple #[.int .i64 a, .bool c]) = .returned (.tuple #[.int .i64 b, .bool d]) := by rw [h, h2]

set_option maxRecDepth 100000 in
set_option maxHeartbeats 400000 in
theorem halt_any (l : List Ins) (A : Option Addr) (cap : Nat) (M S : Int) (w : World) (hC : CodeAt w A l) (hl : l.length ≤ 1000000) :
    Calls Tryd.prog 30 #[.agg #[.slice A l.length cap, .int .i64 M, .int .i64 S]] w fun e w' => e = .returned (.tuple #[.int .i64 (optI (haltF l 0)), .bool (haltF l 0).isSome]) ∧ Below w.heap.size w w' := by
  have hbW := below_box w (Obj.cells #[.slice A l.length cap, .int .i64 M, .int .i64 S] 24)
  have HC := Lib.hid (hC.mono hbW)
  clear hC
  go_enter Tryd.func30, Tryd.ntmps30
  go_wp2
  generalize w.alloc _ = W at hbW HC ⊢
  go_loopw [9] (fun i wr => ∃ k : Nat, k ≤ l.length ∧ i = .int .i64 k ∧ Hid (haltF l 0 = haltF (l.drop k) k) ∧ Below W.heap.size W wr) (fun i _ => l.length - (intOf i).toNat)
  case atStart => exact ⟨0, by omega, rfl, rfl, Below.refl _ _⟩
  case round =>
    obtain ⟨k, hk, rfl, hz, hb⟩ := hrel
    by_cases hin : k < l.length
    · have hz' := Lib.hid (hz.out.trans (haltF_step hin))
      obtain ⟨b, o, rfl, hi⟩ := (HC.out.mono hb).at_ hin
      have hlt := hi.lt
      obtain ⟨c0, c1, c2, c3, c4⟩ := id hi
      clear hz
      go_wp2
      · have hf : ((l[k].op : Int) == 34) = true := by assumption
        have hf' : l[k].op = 34 := by rw [beq_iff_eq] at hf; omega
        go_ret2
        exact ⟨ret_ib (by rw [hz'.out, if_pos hf']; rfl) (by rw [hz'.out, if_pos hf']; rfl), (hbW.trans (hb.mono hbW.size)).alloc (by have := hb.size; have := hbW.size; omega) _⟩
      · have hf : ((l[k].op : Int) == 34) = false := by assumption
        have hf' : ¬ l[k].op = 34 := by rw [beq_eq_false_iff_ne] at hf; omega
        exact ⟨⟨k + 1, by omega, by go_num, by rw [hz'.out, if_neg hf']; rfl, hb.alloc hb.size _⟩, by simp [intOf]; omega⟩
    · have hz' := Lib.hid (show haltF l 0 = none by rw [hz.out, List.drop_of_length_le (by omega)]; rfl)
      clear hz
      go_wp2
      go_ret2
      exact ⟨ret_ib (by rw [hz'.out]; rfl) (by rw [hz'.out]; rfl), hbW.trans (hb.mono hbW.size)⟩

/-- The starts, from k on. -/
def procsF : List Ins → Nat → List Int
  | [], _ => []
  | x :: r, k => if x.op = 32 then (k : Int) :: procsF r (k + 1) else procsF r (k + 1)
theorem procsF_step {l : List Ins} {k : Nat} (h : k < l.length) : procsF (l.drop k) k = if l[k].op = 32 then (k : Int) :: procsF (l.drop (k + 1)) (k + 1) else procsF (l.drop (k + 1)) (k + 1) := by
  rw [List.drop_eq_getElem_cons h]; rfl

/-- The slice at A holds these integers. -/
def IntsAt (w : World) (A : Option Addr) (l : List Int) : Prop :=
  ∀ k x, l[k]? = some x → ∃ b o, A = some ⟨b, o, none⟩ ∧ b < w.heap.size ∧ w.cell? ⟨b, o + k, none⟩ = some (.int .i64 x)
theorem IntsAt.mono {w w' : World} {A : Option Addr} {l : List Int} (h : IntsAt w A l) (hb : Below w.heap.size w w') : IntsAt w' A l := fun k x hk => by
  obtain ⟨b, o, e, hl, hc⟩ := h k x hk
  exact ⟨b, o, e, Nat.lt_of_lt_of_le hl hb.size, by rw [hb.cell (p := ⟨b, o + k, none⟩) hl]; exact hc⟩
theorem IntsAt.at_ {w : World} {A : Option Addr} {l : List Int} (h : IntsAt w A l) {k : Nat} (hk : k < l.length) : ∃ b o, A = some ⟨b, o, none⟩ ∧ b < w.heap.size ∧ w.cell? ⟨b, o + k, none⟩ = some (.int .i64 l[k]) :=
  h k l[k] (List.getElem?_eq_getElem hk)
theorem add0 (g j : Nat) : (⟨g, 0, none⟩ : Addr).add j = ⟨g, j, none⟩ := by
  unfold Addr.add; by_cases h : j = 0 <;> simp [h]
theorem ints_of_own {w : World} {base : Nat} {e : TypeId} {v : Value} {l : List Int} (h : w.ownsRow base e 1 v l.length (l.map (Value.int .i64))) : ∃ A c, v = .slice A l.length c ∧ IntsAt w A l := by
  obtain ⟨h1, h2⟩ := id h
  rcases h2 with ⟨rfl, h0⟩ | ⟨g, cap, cur, rfl, hg, hh, hc1, hc2, hc3, hc4⟩
  · refine ⟨none, 0, by rw [h0], fun k x hk => ?_⟩
    have : l = [] := List.length_eq_zero_iff.1 h0
    subst this; simp at hk
  · refine ⟨some ⟨g, 0, none⟩, cap, rfl, fun k x hk => ⟨g, 0, rfl, ?_, ?_⟩⟩
    · exact (Array.getElem?_eq_some_iff.1 hh).1
    · have := h.cells (g := g) rfl k (.int .i64 x) (by simp [hk])
      rw [add0] at this; simpa using this

theorem info_int : (Tryd.prog.info? 3).map (fun i => (i.zero, i.size, i.bytes)) = some (some (.int .i64 0), 1, 8) := by kernel_rfl

theorem procs_keep {l : List Ins} {k : Nat} {acc : List Int} (hin : k < l.length) (h : procsF l 0 = acc ++ procsF (l.drop k) k) (h32 : l[k].op = 32) : procsF l 0 = (acc ++ [(k : Int)]) ++ procsF (l.drop (k + 1)) (k + 1) := by
  rw [h, procsF_step hin, if_pos h32]; simp
theorem procs_drop {l : List Ins} {k : Nat} {acc : List Int} (hin : k < l.length) (h : procsF l 0 = acc ++ procsF (l.drop k) k) (h32 : ¬ l[k].op = 32) : procsF l 0 = acc ++ procsF (l.drop (k + 1)) (k + 1) := by
  rw [h, procsF_step hin, if_neg h32]
theorem own_block_ge {w : World} {base : Nat} {e : TypeId} {size n : Nat} {v : Value} {xs : List Value} (h : w.ownsRow base e size v n xs) : ∀ g, v.ownBlock = some g → base ≤ g := by
  rcases h.2 with ⟨rfl, _⟩ | ⟨g, cap, cur, rfl, hg, _⟩
  · intro g hg; cases hg
  · intro g' hg'; obtain rfl := Option.some.inj hg'; exact hg

theorem one_new {w : World} {B : Nat} (hB : B = w.heap.size) (v : Value) (T : TypeId) : ∀ (j : Nat) (u : Value), [v][j]? = some u → (w.alloc (Obj.cells #[v] T)).cell? ((⟨B, 0, none⟩ : Addr).add j) = some u := by
  subst hB
  intro j u hj
  cases j with
  | zero => simp at hj; subst hj; rw [add0]; simp [go_sem]
  | succ j => simp at hj
theorem one_int (n : Int) : ∀ u : Value, u ∈ [Value.int IntKind.i64 n] → u.oneCell' = true := by
  intro u hu; simp at hu; subst hu; rfl

/-- A slice value that the call returns, with what it holds. -/
def RetInts (w : World) (l : List Int) (e : Ending) (w' : World) : Prop := ∃ A c, e = .returned (.slice A l.length c) ∧ IntsAt w' A l ∧ Below w.heap.size w w'

set_option maxRecDepth 100000 in
set_option maxHeartbeats 400000 in
theorem procs_any (l : List Ins) (A : Option Addr) (cap : Nat) (M S : Int) (w : World) (hC : CodeAt w A l) (hl : l.length ≤ 1000000) :
    Calls Tryd.prog 25 #[.agg #[.slice A l.length cap, .int .i64 M, .int .i64 S]] w (RetInts w (procsF l 0)) := by
  have hbW := below_box w (Obj.cells #[.slice A l.length cap, .int .i64 M, .int .i64 S] 24)
  have HC := Lib.hid (hC.mono hbW)
  clear hC
  obtain ⟨i0, hi, hz0, hz1, hz2⟩ := info_parts info_int
  have HI := Lib.hid (And.intro hi (And.intro hz0 (And.intro hz1 hz2)))
  clear hi hz0 hz1 hz2
  go_enter Tryd.func25, Tryd.ntmps25
  go_wp2
  generalize w.alloc _ = W at hbW HC ⊢
  go_loopw [3, 9] (fun v i wr => ∃ (k : Nat) (acc : List Int), k ≤ l.length ∧ acc.length ≤ k ∧ i = .int .i64 k ∧ Hid (procsF l 0 = acc ++ procsF (l.drop k) k) ∧ Hid (wr.ownsRow W.heap.size 3 1 v acc.length (acc.map (Value.int .i64))) ∧ Below W.heap.size W wr) (fun _ i _ => l.length - (intOf i).toNat)
  case atStart => exact ⟨0, [], by omega, by simp, rfl, rfl, ⟨rfl, .inl ⟨rfl, rfl⟩⟩, Below.refl _ _⟩
  case round =>
    obtain ⟨k, acc, hk, hk2, rfl, hz, hown, hb⟩ := hrel
    by_cases hin : k < l.length
    · obtain ⟨b, o, rfl, hi⟩ := (HC.out.mono hb).at_ hin
      have hlt := hi.lt
      obtain ⟨c0, c1, c2, c3, c4⟩ := id hi
      have hsz := hb.size
      go_wp2_with (at_builtin; refine wpList_append_own _ rfl _ _ 44 rfl W.heap.size 3 i0 (.int .i64 0) 1 8 Tryd.underlying44 HI.out.1 HI.out.2.1 HI.out.2.2.1 HI.out.2.2.2 rfl (by decide) _ _ _ rfl ((hown.out.alloc _).alloc _) ⟨wr.heap.size + 1, 0, none⟩ 1 1 [.int .i64 k] rfl rfl ?c1 ?c2 ?c3 ?c4 ?c5 ?_)
      case c1 => exact one_new (by simp) _ _
      case c2 => exact one_int _
      case c3 => unfold maxLen; omega
      case c4 => omega
      case c5 => simp; omega
      · intro v' w1 hown' hgrow _
        have hf : ((l[k].op : Int) == 32) = true := by assumption
        have hf' : l[k].op = 32 := by rw [beq_iff_eq] at hf; omega
        have hz2 := Lib.hid (procs_keep hin hz.out hf')
        have hb2 := (((hb.alloc hb.size _).alloc (by simp; omega) _).grown hgrow (by simp; omega) (own_block_ge hown.out))
        have hown2 := Lib.hid hown'
        clear hz hown hown' hgrow
        go_wp2
        exact ⟨⟨k + 1, acc ++ [(k : Int)], by omega, by simp; omega, by go_num, hz2, Lib.hid (by simpa using hown2.out), hb2⟩, by simp [intOf]; omega⟩
      · have hf : ((l[k].op : Int) == 32) = false := by assumption
        have hf' : ¬ l[k].op = 32 := by rw [beq_eq_false_iff_ne] at hf; omega
        exact ⟨⟨k + 1, acc, by omega, by omega, by go_num, procs_drop hin hz.out hf', hown.out.alloc _, hb.alloc hb.size _⟩, by simp [intOf]; omega⟩
    · have hz' : procsF l 0 = acc := by rw [hz.out, List.drop_of_length_le (by omega)]; simp [procsF]
      obtain ⟨A', c', rfl, hI⟩ := ints_of_own hown.out
      go_wp2
      go_ret
      exact ⟨A', c', by rw [hz']; rfl, by rw [hz']; exact hI, hbW.trans (hb.mono hbW.size)⟩

end Go.Proofs.YthakiaicnhkfjaaDoor
