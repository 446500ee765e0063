/-
  A region that draws its order and only makes memory: what each operation leaves, whatever order is picked.
-/
import Derived.Test.YtoankdaddgjnlaaChecked
import Derived.WalkKit
import Derived.ProofKit
import Derived.Orders
import Derived.Below
namespace Go.Proofs.Ytoankdaddgjnlaa
open Go.RowKit

section
variable {P : Program} {ops : Array Oper} {Q : Exit → Act → World → Prop}

def dstOf (ops : Array Oper) (i : Nat) : Option Tmp := (ops[i]?).bind (·.dst)
def puts (ops : Array Oper) (vals : Nat → Value) : List Nat → Act → Act
  | [], a => a
  | i :: r, a => puts ops vals r (a.put (dstOf ops i) (vals i))
theorem put_size (a : Act) (d : Option Tmp) (v : Value) : (a.put d v).tmps.size = a.tmps.size := by cases d <;> simp [Act.put]
theorem put_defers (a : Act) (d : Option Tmp) (v : Value) : (a.put d v).defers = a.defers := by cases d <;> simp [Act.put]
theorem put_other (a : Act) {d : Option Tmp} {s : Nat} (h : d ≠ some s) (v : Value) : (a.put d v).tmps[s]? = a.tmps[s]? := by
  cases d with
  | none => rfl
  | some t =>
    have : t ≠ s := fun e => h (by rw [e])
    simp [Act.put, this]
theorem put_at (a : Act) {s : Nat} (h : s < a.tmps.size) (v : Value) : (a.put (some s) v).tmps[s]? = some v := by
  simp [Act.put, h]
theorem puts_size (vals : Nat → Value) : ∀ (l : List Nat) (a : Act), (puts ops vals l a).tmps.size = a.tmps.size
  | [], _ => rfl
  | i :: r, a => by rw [puts, puts_size vals r, put_size]
theorem puts_defers (vals : Nat → Value) : ∀ (l : List Nat) (a : Act), (puts ops vals l a).defers = a.defers
  | [], _ => rfl
  | i :: r, a => by rw [puts, puts_defers vals r, put_defers]
theorem puts_other (vals : Nat → Value) {s : Nat} : ∀ (l : List Nat) (a : Act), (∀ i ∈ l, dstOf ops i ≠ some s) → (puts ops vals l a).tmps[s]? = a.tmps[s]?
  | [], a, _ => rfl
  | i :: r, a, h => by rw [puts, puts_other vals r _ (fun j hj => h j (by simp [hj])), put_other a (h i (by simp))]
theorem puts_at (vals : Nat → Value) {s i : Nat} (hi : dstOf ops i = some s) (hd : ∀ j, dstOf ops j = some s → j = i) : ∀ (l : List Nat) (a : Act), i ∈ l → s < a.tmps.size → (puts ops vals l a).tmps[s]? = some (vals i)
  | [], a, h, _ => by simp at h
  | j :: r, a, h, hs => by
    rw [puts]
    by_cases hr : i ∈ r
    · exact puts_at vals hi hd r _ hr (by rw [put_size]; exact hs)
    · have e : j = i := by
        rcases List.mem_cons.1 h with e | e
        · exact e.symm
        · exact absurd e hr
      subst e
      rw [puts_other vals r _ (fun k hk e => hr (by rw [← hd k e]; exact hk)), hi, put_at a hs]

/-- The operations' temporaries are different, and an operation waits for earlier ones alone. -/
def regB (ops : Array Oper) (n : Nat) : Bool :=
  (List.range ops.size).all fun i => (match dstOf ops i with | some s => decide (s < n) && (List.range ops.size).all (fun j => decide (j = i) || decide (dstOf ops j ≠ some s)) | none => true) && (match ops[i]? with | some o => o.guard.isNone && o.after.all (fun e => !(Region.binds .any e) || decide (e.on < i)) | none => true)
theorem regB_spec {n : Nat} (h : regB ops n = true) {i : Nat} {o : Oper} (hi : ops[i]? = some o) : o.guard = none ∧ (∀ e ∈ o.after, Region.binds .any e = true → e.on < i) ∧ ∀ s, o.dst = some s → s < n ∧ ∀ j, dstOf ops j = some s → j = i := by
  have hlt : i < ops.size := (Array.getElem?_eq_some_iff.1 hi).1
  have h1 := List.all_eq_true.1 h i (List.mem_range.2 hlt)
  obtain ⟨h2, h3⟩ := Bool.and_eq_true_iff.1 h1
  rw [hi] at h3
  dsimp only at h3
  obtain ⟨h4, h5⟩ := Bool.and_eq_true_iff.1 h3
  refine ⟨by simpa using h4, fun e he hb => ?_, fun s hs => ?_⟩
  · have := Array.all_eq_true'.1 h5 e he
    simp [hb] at this
    exact this
  · have hd : dstOf ops i = some s := by unfold dstOf; rw [hi]; exact hs
    rw [hd] at h2
    dsimp only at h2
    obtain ⟨h6, h7⟩ := Bool.and_eq_true_iff.1 h2
    refine ⟨by simpa using h6, fun j hj => ?_⟩
    have hjl : j < ops.size := by
      rcases Nat.lt_or_ge j ops.size with h' | h'
      · exact h'
      · unfold dstOf at hj; rw [Array.getElem?_eq_none h'] at hj; cases hj
    have := List.all_eq_true.1 h7 j (List.mem_range.2 hjl)
    simp at this
    rcases this with e | e
    · exact e
    · exact absurd hj e

theorem getD_replicate_false' (m j : Nat) : (Array.replicate m false).getD j false = false := by
  rcases Nat.lt_or_ge j m with h | h
  · simp [h]
  · simp [h]
/-- What is known when an operation comes up. -/
structure RegI (ops : Array Oper) (Φ : Nat → Value → World → Prop) (a0 : Act) (W : World) (listed : Array Bool) (vals : Nat → Value) (a : Act) (w : World) : Prop where
  hb : Below W.heap.size W w
  sz : a.tmps.size = a0.tmps.size
  df : a.defers = a0.defers
  out : ∀ s, (∀ i, dstOf ops i ≠ some s) → a.tmps[s]? = a0.tmps[s]?
  at_ : ∀ i, listed.getD i false = true → (∀ s, dstOf ops i = some s → a.tmps[s]? = some (vals i)) ∧ Φ i (vals i) w

theorem wpAny_regI (Φ : Nat → Value → World → Prop) (hmono : ∀ (i : Nat) (v : Value) (w w' : World), Φ i v w → Below w.heap.size w w' → Φ i v w') (a0 : Act) (W : World) (hB : regB ops a0.tmps.size = true)
    (step : ∀ (i : Nat) (o : Oper), ops[i]? = some o → ∀ (vals : Nat → Value) (a : Act) (w : World), Below W.heap.size W w → (∀ s, (∀ j, dstOf ops j ≠ some s) → a.tmps[s]? = a0.tmps[s]?) →
      (∀ e ∈ o.after, Region.binds .any e = true → (∀ s, dstOf ops e.on = some s → a.tmps[s]? = some (vals e.on)) ∧ Φ e.on (vals e.on) w) → o.wp P a w (fun a' w' => ∃ v, a' = a.put o.dst v ∧ Φ i v w' ∧ Below w.heap.size w w') Q)
    (hQ : ∀ (vals : Nat → Value) (w : World), Below W.heap.size W w → (∀ i, i < ops.size → Φ i (vals i) w) → Q .normal (puts ops vals (List.range ops.size) a0) w) :
    ∀ (fuel : Nat) (listed : Array Bool) (vals : Nat → Value) (a : Act) (w : World), listed.size = ops.size → listed.toList.count false ≤ fuel → RegI ops Φ a0 W listed vals a w → wpAny P .any ops Q fuel listed a w := by
  have done : ∀ (listed : Array Bool) (vals : Nat → Value) (a : Act) (w : World), listed.size = ops.size → Region.ready .any ops listed = [] → RegI ops Φ a0 W listed vals a w → Q .normal a w := by
    intro listed vals a w hs hr h
    have all : ∀ n i, i < n → i < ops.size → listed.getD i false = true := by
      intro n
      induction n with
      | zero => intro i hi; omega
      | succ n ih =>
        intro i hi his
        by_cases hlt : i < n
        · exact ih i hlt his
        have hin : i = n := by omega
        subst hin
        cases hl : listed.getD i false with
        | true => rfl
        | false =>
          exfalso
          have ho : ops[i]? = some ops[i] := Array.getElem?_eq_getElem his
          have hmem : i ∈ Region.ready .any ops listed := by
            rw [mem_ready]
            refine ⟨?_, ops[i], ho, fun e he hb => ?_⟩
            · have : i < listed.size := by omega
              simp [this] at hl ⊢; exact hl
            · have h1 := (regB_spec hB ho).2.1 e he hb
              exact ih e.on h1 (by omega)
          rw [hr] at hmem; simp at hmem
    have hact : a = puts ops vals (List.range ops.size) a0 := by
      have ht : a.tmps = (puts ops vals (List.range ops.size) a0).tmps := by
        apply Array.ext_getElem?
        intro s
        by_cases hex : ∃ i, dstOf ops i = some s
        · obtain ⟨i, hi⟩ := hex
          have hil : i < ops.size := by
            rcases Nat.lt_or_ge i ops.size with h' | h'
            · exact h'
            · unfold dstOf at hi; rw [Array.getElem?_eq_none h'] at hi; cases hi
          have ho : ops[i]? = some ops[i] := Array.getElem?_eq_getElem hil
          have hd : ops[i].dst = some s := by unfold dstOf at hi; rw [ho] at hi; exact hi
          obtain ⟨h1, h2⟩ := (regB_spec hB ho).2.2 s hd
          rw [(h.at_ i (all _ i (Nat.lt_succ_self i) hil)).1 s hi, puts_at vals hi h2 _ a0 (List.mem_range.2 hil) h1]
        · rw [h.out s (fun i e => hex ⟨i, e⟩), puts_other vals _ a0 (fun i _ e => hex ⟨i, e⟩)]
      have hd : a.defers = (puts ops vals (List.range ops.size) a0).defers := by rw [puts_defers, h.df]
      cases a
      simp only at ht hd
      rw [ht, hd]
    rw [hact]
    exact hQ vals w h.hb fun i hi => (h.at_ i (all _ i (Nat.lt_succ_self i) hi)).2
  intro fuel
  induction fuel with
  | zero =>
    intro listed vals a w hs hc h
    have hr : Region.ready .any ops listed = [] := by
      apply List.eq_nil_iff_forall_not_mem.2
      intro i hi
      have h1 := (mem_ready.1 hi).1
      have hil : i < listed.size := by
        rcases Nat.lt_or_ge i listed.size with h' | h'
        · exact h'
        · simp [Array.getElem?_eq_none h'] at h1
      have h2 : listed[i] = false := by simpa [hil] using h1
      have h3 : false ∈ listed.toList := by rw [← h2]; exact Array.getElem_mem_toList hil
      have := List.count_pos_iff.2 h3
      omega
    exact ⟨hr, done listed vals a w hs hr h⟩
  | succ fuel ih =>
    intro listed vals a w hs hc h
    refine ⟨fun hr => done listed vals a w hs hr h, fun i hi => ?_⟩
    obtain ⟨h1, o, ho, hall⟩ := mem_ready.1 hi
    have hil : i < listed.size := by
      rcases Nat.lt_or_ge i listed.size with h' | h'
      · exact h'
      · simp [Array.getElem?_eq_none h'] at h1
    have h2 : listed[i] = false := by simpa [hil] using h1
    obtain ⟨hg, hlex, hdst⟩ := regB_spec hB ho
    have hw : Region.wanted o (yielded ops a.tmps) = true := by simp [Region.wanted, hg]
    unfold wpOp
    rw [ho]
    dsimp only
    rw [if_pos hw]
    refine .inl (Oper.wp_mono ?_ (step i o ho vals a w h.hb h.out fun e he hb => ?_))
    rotate_left
    · exact h.at_ e.on (hall e he hb)
    rintro a' w' ⟨v, rfl, hv, hbw⟩
    have hid : dstOf ops i = o.dst := by unfold dstOf; rw [ho]; rfl
    refine ih (listed.setIfInBounds i true) (fun j => if j = i then v else vals j) _ w' (by simpa using hs) ?_ ⟨h.hb.trans (hbw.mono h.hb.size), by rw [put_size]; exact h.sz, by rw [put_defers]; exact h.df, fun s hsn => ?_, fun j hj => ?_⟩
    · rw [Array.toList_setIfInBounds, List.count_set (h := by simpa using hil)]
      have h3 : false ∈ listed.toList := by rw [← h2]; exact Array.getElem_mem_toList hil
      have := List.count_pos_iff.2 h3
      have h5 : listed.toList[i]'(by simpa using hil) = false := by simpa using h2
      rw [h5]
      show listed.toList.count false - 1 + 0 ≤ fuel
      omega
    · rw [put_other a (by rw [← hid]; exact hsn i)]; exact h.out s hsn
    · by_cases hji : j = i
      · subst hji
        rw [if_pos rfl]
        refine ⟨fun s hds => ?_, hv⟩
        rw [hid] at hds
        rw [hds]
        exact put_at a (by rw [h.sz]; exact (hdst s hds).1) v
      · rw [if_neg hji]
        have hlj : listed.getD j false = true := by
          rw [getD_set_ne false (Ne.symm hji)] at hj; exact hj
        obtain ⟨h3, h4⟩ := h.at_ j hlj
        refine ⟨fun s hds => ?_, hmono j _ w w' h4 hbw⟩
        rw [put_other a (fun e => hji ((hdst s e).2 j hds))]
        exact h3 s hds
theorem wp_region_mono (Φ : Nat → Value → World → Prop) (hm : P.follows .mixedOrders = true) (hmono : ∀ (i : Nat) (v : Value) (w w' : World), Φ i v w → Below w.heap.size w w' → Φ i v w') (a0 : Act) (W : World) (hB : regB ops a0.tmps.size = true) {id : Nat}
    (step : ∀ (i : Nat) (o : Oper), ops[i]? = some o → ∀ (vals : Nat → Value) (a : Act) (w : World), Below W.heap.size W w → (∀ s, (∀ j, dstOf ops j ≠ some s) → a.tmps[s]? = a0.tmps[s]?) →
      (∀ e ∈ o.after, Region.binds .any e = true → (∀ s, dstOf ops e.on = some s → a.tmps[s]? = some (vals e.on)) ∧ Φ e.on (vals e.on) w) → o.wp P a w (fun a' w' => ∃ v, a' = a.put o.dst v ∧ Φ i v w' ∧ Below w.heap.size w w') Q)
    (hQ : ∀ (vals : Nat → Value) (w : World), Below W.heap.size W w → (∀ i, i < ops.size → Φ i (vals i) w) → Q .normal (puts ops vals (List.range ops.size) a0) w) : (Code.region id ops true).wp P Q a0 W :=
  wp_region_any hm (wpAny_regI Φ hmono a0 W hB step hQ ops.size (Array.replicate ops.size false) (fun _ => undef) a0 _ (by simp) (by simp) ⟨⟨rfl, rfl, rfl, Nat.le_refl _, fun _ _ => rfl⟩, rfl, rfl, fun _ _ => rfl, fun i hi => by rw [getD_replicate_false'] at hi; cases hi⟩)

end
end Go.Proofs.Ytoankdaddgjnlaa
