/-
  append onto a row that may be an empty literal, as one step of a region that draws its order: what is asked of memory is as little as can be.
-/
import Derived.Test.YthakiaicnhkfjaaDoorImgShift
namespace Go.Proofs.YthakiaicnhkfjaaDoor
open Go.ChangeShapes Go.WideShapes Go.ChangeAt Go.RowKit Go.Sort

/-- The cells of a slice, nil let in. -/
def CellsAt (w : World) (A : Option Addr) (xs : List Value) : Prop := ∀ (j : Nat) (u : Value), xs[j]? = some u → ∃ b o, A = some ⟨b, o, none⟩ ∧ w.cell? ⟨b, o + j, none⟩ = some u
/-- A row of the call's own, or an empty literal. -/
def OwnE (w : World) (base : Nat) (e : TypeId) (size : Nat) (v : Value) (n : Nat) (xs : List Value) : Prop :=
  (n = 0 ∧ xs = [] ∧ ∃ g, v = .slice (some ⟨g, 0, none⟩) 0 0) ∨ w.ownsRow base e size v n xs
theorem OwnE.below {w w' : World} {base : Nat} {e : TypeId} {size : Nat} {v : Value} {n : Nat} {xs : List Value} (h : OwnE w base e size v n xs) (hb : Below w.heap.size w w') : OwnE w' base e size v n xs := by
  rcases h with h | h
  · exact .inl h
  · exact .inr (own_below h hb)
theorem OwnE.form {w : World} {base : Nat} {e : TypeId} {size : Nat} {v : Value} {n : Nat} {xs : List Value} (h : OwnE w base e size v n xs) : ∃ A c, v = .slice A n c := by
  rcases h with ⟨rfl, _, g, rfl⟩ | h
  · exact ⟨_, _, rfl⟩
  · obtain ⟨A, c, h, _⟩ := own_form h
    exact ⟨A, c, h⟩

section
variable {P : Program} (w : World)
theorem run_app0 (base : Nat) (t ty e : TypeId) (i : TypeInfo) (z : Value) (size bytes : Nat) (ht : P.underlying t = some (.slice e)) (hi : P.info? e = some i) (hz : i.zero = some z)
    (hsize : i.size = size) (hby : i.bytes = bytes) (hzs : z.cells.size = size) (hsz : 0 < size) (g : Nat)
    (A : Option Addr) (m c : Nat) (news : List Value) (hl : news.length = m * size) (hr : CellsAt w A news) (h63 : m ≤ maxLen) (hbytes : m * bytes ≤ 140737488355328) (hbase : base ≤ w.heap.size) :
    ∃ v' w', (Builtin.append_ #[t, t] ty #[.slice (some ⟨g, 0, none⟩) 0 0, .slice A m c]).run P w = .ok v' w' ∧ OwnE w' base e size v' m news ∧ Below w.heap.size w w' ∧ (v'.ownBlock = some g ∨ (v'.ownBlock = some w.heap.size ∧ w.heap.size < w'.heap.size)) := by
  subst hsize
  subst hby
  by_cases hm : m = 0
  · subst hm
    have hn : news = [] := List.eq_nil_of_length_eq_zero (by simpa using hl)
    subst hn
    refine ⟨.slice (some ⟨g, 0, none⟩) 0 0, w, ?_, .inl ⟨rfl, rfl, g, rfl⟩, Below.refl _ _, .inl rfl⟩
    cases A with
    | none => simp [Builtin.append_, run_underlying ht, sizeOf, typeInfo, hi, Builtin.lenOf, Builtin.firstCells, storeCells]
    | some a => simp [Builtin.append_, run_underlying ht, sizeOf, typeInfo, hi, Builtin.lenOf, Builtin.firstCells, storeCells, loadCells, loadCellsFrom]
  · have h0 : 0 < news.length := by rw [hl]; exact Nat.mul_pos (by omega) hsz
    obtain ⟨b, o, rfl, _⟩ := hr 0 news[0] (List.getElem?_eq_getElem h0)
    have hnews : ∀ j u, news[j]? = some u → w.cell? ((⟨b, o, none⟩ : Addr).add j) = some u := fun j u hu => by
      obtain ⟨b', o', e', hc⟩ := hr j u hu
      simp at e'
      obtain ⟨rfl, rfl⟩ := e'
      have e2 : (⟨b, o, none⟩ : Addr).add j = ⟨b, o + j, none⟩ := by unfold Addr.add; by_cases h : j = 0 <;> simp [h]
      rw [e2]; exact hc
    have hr2 := run_append_grow (P := P) w t ty e i z ht hi hz ⟨g, 0, none⟩ 0 0 [] (by simp) (fun j v hj => by simp at hj) ⟨b, o, none⟩ m c news hl hnews (by omega) (by unfold maxLen at h63; omega) (growslice_fits (by omega) (by rw [Nat.zero_add]; exact hbytes))
    refine ⟨_, _, hr2, .inr ⟨hl, .inr ⟨w.heap.size, _, _, by rw [Nat.zero_add], hbase, heap_alloc_new w.drew _, by have := grownCap_ge w (0 + m) 0 e; omega, grownCap_le_maxLen w (0 + m) 0 e (by omega), ?_, ?_⟩⟩, ((Below.refl _ _ : Below w.heap.size w w).trans ⟨rfl, rfl, rfl, Nat.le_refl _, fun _ _ => rfl⟩ : Below w.heap.size w w.drew).alloc (Nat.le_refl _) _, .inr ⟨rfl, by simp⟩⟩
    · have hge := grownCap_ge w (0 + m) 0 e
      simp only [Array.size_append, List.size_toArray, size_zeroCells, hzs, hl, List.length_nil, Nat.zero_add, ← Nat.add_mul]
      congr 1
      rw [Nat.zero_add] at hge
      omega
    · simp only [Array.toList_append, List.nil_append, ← hl]
      exact List.take_left
theorem run_appE (base : Nat) (t ty e : TypeId) (i : TypeInfo) (z : Value) (size bytes : Nat) (ht : P.underlying t = some (.slice e)) (hi : P.info? e = some i) (hz : i.zero = some z)
    (hsize : i.size = size) (hby : i.bytes = bytes) (hzs : z.cells.size = size) (hsz : 0 < size) (v : Value) (n : Nat) (xs : List Value) (hE : OwnE w base e size v n xs)
    (A : Option Addr) (m c : Nat) (news : List Value) (hl : news.length = m * size) (hr : CellsAt w A news) (h1 : ∀ u ∈ news, u.oneCell' = true) (h63 : n + m ≤ maxLen) (hbytes : (n + m) * bytes ≤ 140737488355328) (hbase : base ≤ w.heap.size) :
    ∃ v' w', (Builtin.append_ #[t, t] ty #[v, .slice A m c]).run P w = .ok v' w' ∧ OwnE w' base e size v' (n + m) (xs ++ news) ∧ w.grownBy w' v.ownBlock ∧ (v'.ownBlock = v.ownBlock ∨ v'.ownBlock = some w.heap.size) := by
  rcases hE with ⟨rfl, rfl, g, rfl⟩ | hown
  · obtain ⟨v', w', h1', h2, h3, h4⟩ := run_app0 (P := P) w base t ty e i z size bytes ht hi hz hsize hby hzs hsz g A m c news hl hr (by omega) (by rw [Nat.zero_add] at hbytes; exact hbytes) hbase
    exact ⟨v', w', h1', by rw [Nat.zero_add, List.nil_append]; exact h2, ⟨h3.os, h3.tape, h3.output, h3.size, fun k hk _ => h3.block k hk⟩, by rcases h4 with h | ⟨h, _⟩; exact .inl h; exact .inr h⟩
  · cases A with
    | none =>
      have hn : news = [] := by
        cases news with
        | nil => rfl
        | cons u r => obtain ⟨b, o, e, _⟩ := hr 0 u rfl; cases e
      subst hn
      have hm : m = 0 := by
        rcases Nat.eq_zero_or_pos m with h0 | h0
        · exact h0
        · have := Nat.mul_pos h0 hsz; simp at hl; omega
      subst hm
      refine ⟨v, w, ?_, .inr (by simpa using hown), ⟨rfl, rfl, rfl, Nat.le_refl _, fun _ _ _ => rfl⟩, .inl rfl⟩
      rcases hown.2 with ⟨rfl, rfl⟩ | ⟨g, cap, cur, rfl, _, _, hnc, _⟩
      · simp [Builtin.append_, run_underlying ht, sizeOf, typeInfo, hi, Builtin.lenOf, Builtin.firstCells]
      · simp [Builtin.append_, run_underlying ht, sizeOf, typeInfo, hi, Builtin.lenOf, Builtin.firstCells, hnc, storeCells]
    | some ad =>
      obtain ⟨v', w', r1, r2, r3, _, r5⟩ := run_append_own_at (P := P) w base t ty e i z size bytes ht hi hz hsize hby hzs hsz v n xs hown ad m c news hl (fun j u hu => by
        obtain ⟨b, o, e, hc⟩ := hr j u hu
        have := Option.some.inj e
        subst this
        have e2 : (⟨b, o, none⟩ : Addr).add j = ⟨b, o + j, none⟩ := by unfold Addr.add; by_cases h : j = 0 <;> simp [h]
        rw [e2]; exact hc) h1 h63 hbytes hbase
      exact ⟨v', w', r1, .inr r2, r3, r5⟩

theorem step_app0 {ops : Array Oper} {o : Oper} {a : Act} {K : Act → World → Prop} {Q : Exit → Act → World → Prop} {E : Prop} (hgd : o.guard = none) (s x : Operand) (t : TypeId)
    (ho : o.op = .call { callee := .builtin .append, args := #[s, x], argTypes := #[t, t] })
    (e : TypeId) (i : TypeInfo) (z : Value) (size bytes : Nat) (ht : P.underlying t = some (.slice e)) (hi : P.info? e = some i) (hz : i.zero = some z)
    (hsize : i.size = size) (hby : i.bytes = bytes) (hzs : z.cells.size = size) (hsz : 0 < size) (A : Option Addr) (m c : Nat) (news : List Value) (hl : news.length = m * size) (h63 : m ≤ maxLen) (hbytes : m * bytes ≤ 140737488355328)
    (g : Nat) (hs : a.eval s = .slice (some ⟨g, 0, none⟩) 0 0) (hx : a.eval x = .slice A m c) (base : Nat) (hbase : base ≤ w.heap.size) (hr : CellsAt w A news)
    (h : ∀ v' w', OwnE w' base e size v' m news → Below w.heap.size w w' → (v'.ownBlock = some g ∨ (v'.ownBlock = some w.heap.size ∧ w.heap.size < w'.heap.size)) → K (a.put o.dst v') w') :
    if Region.wanted o (yielded ops a.tmps) = true then Oper.wp P o a w K Q else E := by
  have hw : Region.wanted o (yielded ops a.tmps) = true := by simp [Region.wanted, hgd]
  rw [if_pos hw]
  obtain ⟨v', w', hrun, h2, h3, h4⟩ := run_app0 (P := P) w base t o.type e i z size bytes ht hi hz hsize hby hzs hsz g A m c news hl hr h63 hbytes hbase
  unfold Oper.wp execOp
  simp only [ho, resolve, invoke, builtin, Sem.run_bind, Sem.run_pure, Result.andThen_ok, List.map_toArray, List.map_cons, List.map_nil, hs, hx, hrun]
  exact h v' w' h2 h3 h4
theorem step_appE {ops : Array Oper} {o : Oper} {a : Act} {K : Act → World → Prop} {Q : Exit → Act → World → Prop} {E : Prop} (hgd : o.guard = none) (s x : Operand) (t : TypeId)
    (ho : o.op = .call { callee := .builtin .append, args := #[s, x], argTypes := #[t, t] })
    (e : TypeId) (i : TypeInfo) (z : Value) (size bytes : Nat) (ht : P.underlying t = some (.slice e)) (hi : P.info? e = some i) (hz : i.zero = some z)
    (hsize : i.size = size) (hby : i.bytes = bytes) (hzs : z.cells.size = size) (hsz : 0 < size) (v : Value) (n : Nat) (xs : List Value) (A : Option Addr) (m c : Nat) (news : List Value) (hl : news.length = m * size) (h1 : ∀ u ∈ news, u.oneCell' = true) (h63 : n + m ≤ maxLen) (hbytes : (n + m) * bytes ≤ 140737488355328)
    (hs : a.eval s = v) (hx : a.eval x = .slice A m c) (base : Nat) (hbase : base ≤ w.heap.size) (hE : OwnE w base e size v n xs) (hr : CellsAt w A news)
    (h : ∀ v' w', OwnE w' base e size v' (n + m) (xs ++ news) → w.grownBy w' v.ownBlock → (v'.ownBlock = v.ownBlock ∨ v'.ownBlock = some w.heap.size) → K (a.put o.dst v') w') :
    if Region.wanted o (yielded ops a.tmps) = true then Oper.wp P o a w K Q else E := by
  have hw : Region.wanted o (yielded ops a.tmps) = true := by simp [Region.wanted, hgd]
  rw [if_pos hw]
  obtain ⟨v', w', hrun, h2, h3, h4⟩ := run_appE (P := P) w base t o.type e i z size bytes ht hi hz hsize hby hzs hsz v n xs hE A m c news hl hr h1 h63 hbytes hbase
  unfold Oper.wp execOp
  simp only [ho, resolve, invoke, builtin, Sem.run_bind, Sem.run_pure, Result.andThen_ok, List.map_toArray, List.map_cons, List.map_nil, hs, hx, hrun]
  exact h v' w' h2 h3 h4
end

theorem CodeAt.cells {w : World} {A : Option Addr} {l : List Ins} (h : CodeAt w A l) : CellsAt w A (cellsL l) := fun j u hj => by
  cases l with
  | nil => simp [cellsL] at hj
  | cons x r =>
    obtain ⟨b, o, e, _⟩ := h 0 x rfl
    refine ⟨b, o, e, ?_⟩
    have := code_src h e j u hj
    have e2 : (⟨b, o, none⟩ : Addr).add j = ⟨b, o + j, none⟩ := by unfold Addr.add; by_cases h : j = 0 <;> simp [h]
    rw [e2] at this; exact this
theorem OwnE.code {w : World} {base : Nat} {e : TypeId} {A : Option Addr} {c : Nat} {l : List Ins} (h : OwnE w base e 5 (.slice A l.length c) l.length (cellsL l)) : CodeAt w A l := by
  rcases h with ⟨h0, _, _⟩ | h
  · intro k x hk
    have : l = [] := List.length_eq_zero_iff.1 h0
    subst this; simp at hk
  · obtain ⟨A', c', e1, hc⟩ := code_of_own h
    injection e1 with e1
    subst e1
    exact hc

end Go.Proofs.YthakiaicnhkfjaaDoor
