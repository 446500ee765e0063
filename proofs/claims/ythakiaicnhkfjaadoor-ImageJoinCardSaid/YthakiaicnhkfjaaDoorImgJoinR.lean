/-
  The statement that makes a joined image, in whatever order: what is known between its steps.
-/
import Derived.Test.YthakiaicnhkfjaaDoorImgApp2
namespace Go.Proofs.YthakiaicnhkfjaaDoor
open Go.ChangeShapes Go.WideShapes Go.ChangeAt Go.RowKit Go.Sort

def Res0 (w : World) (b : Nat) : Prop := ResAt w b (.slice none 0 0) (.int .i64 0) (.int .i64 0)
theorem res_a (X : World) : Res0 (X.alloc (Obj.cells #[.slice none 0 0, .int .i64 0, .int .i64 0] 24)) X.heap.size := by unfold Res0; constructor <;> simp [go_sem]

/-- Between the steps: eb is the empty literal's block, p what the first append has left, c where the shifted code lies, nb the variable's block. -/
structure JS (W : World) (l1 L2 : List Ins) (cur : World) (eb : Option Nat) (p : Option Value) (c : Option (Option Addr)) (nb : Option Nat) : Prop where
  hb : Below W.heap.size W cur
  emp : ∀ g, eb = some g → W.heap.size ≤ g ∧ g < cur.heap.size ∧ ∀ b, nb = some b → g ≠ b
  own : ∀ v, p = some v → OwnE cur W.heap.size 38 5 v l1.length (cellsL l1) ∧ ∀ g, v.ownBlock = some g → W.heap.size ≤ g ∧ g < cur.heap.size ∧ ∀ b, nb = some b → g ≠ b
  code : ∀ A, c = some A → CodeAt cur A L2
  box : ∀ b, nb = some b → Res0 cur b ∧ W.heap.size ≤ b ∧ b < cur.heap.size

section
variable {W : World} {l1 L2 : List Ins} {cur : World} {eb : Option Nat} {p : Option Value} {c : Option (Option Addr)} {nb : Option Nat}
theorem JS.start (W : World) (l1 L2 : List Ins) : JS W l1 L2 W none none none none :=
  ⟨Below.refl _ _, (fun g h => by cases h), (fun v h => by cases h), (fun A h => by cases h), (fun b h => by cases h)⟩
theorem JS.step (h : JS W l1 L2 cur eb p c nb) {w' : World} (hb : Below cur.heap.size cur w') : JS W l1 L2 w' eb p c nb := by
  have hs := hb.size
  refine ⟨below_step h.hb h.hb.size hb, fun g hg => ?_, fun v hv => ?_, fun A hA => (h.code A hA).mono hb, fun b hb' => ?_⟩
  · obtain ⟨h1, h2, h3⟩ := h.emp g hg
    exact ⟨h1, by omega, h3⟩
  · obtain ⟨h1, h2⟩ := h.own v hv
    exact ⟨h1.below hb, fun g hg => by obtain ⟨a, b, c⟩ := h2 g hg; exact ⟨a, by omega, c⟩⟩
  · obtain ⟨h1, h2, h3⟩ := h.box b hb'
    exact ⟨ResAt.mono h1 hb, h2, by omega⟩
theorem JS.d (h : JS W l1 L2 cur eb p c nb) : JS W l1 L2 cur.drew eb p c nb := h.step ⟨rfl, rfl, rfl, Nat.le_refl _, fun _ _ => rfl⟩
theorem JS.e (h : JS W l1 L2 cur none p c nb) : JS W l1 L2 (cur.alloc (Obj.cells #[] 38)) (some cur.heap.size) p c nb := by
  have h' := h.step (below_box cur (Obj.cells #[] 38))
  refine ⟨h'.hb, fun g hg => ?_, h'.own, h'.code, h'.box⟩
  cases hg
  exact ⟨h.hb.size, by simp, fun b hb => by have := (h.box b hb).2.2; omega⟩
theorem JS.z (h : JS W l1 L2 cur eb p c none) : JS W l1 L2 (cur.alloc (Obj.cells #[.slice none 0 0, .int .i64 0, .int .i64 0] 24)) eb p c (some cur.heap.size) := by
  have h' := h.step (below_box cur (Obj.cells #[.slice none 0 0, .int .i64 0, .int .i64 0] 24))
  refine ⟨h'.hb, fun g hg => ?_, fun v hv => ?_, h'.code, fun b hb => ?_⟩
  · obtain ⟨a, b, _⟩ := h.emp g hg
    exact ⟨a, by simp; omega, fun b' hb' => by cases hb'; omega⟩
  · obtain ⟨h1, h2⟩ := h.own v hv
    refine ⟨(h'.own v hv).1, fun g hg => ?_⟩
    obtain ⟨a, b, _⟩ := h2 g hg
    exact ⟨a, by simp; omega, fun b' hb' => by cases hb'; omega⟩
  · cases hb
    exact ⟨res_a cur, h.hb.size, by simp⟩
theorem JS.ez (h : JS W l1 L2 cur none p c none) : JS W l1 L2 ((cur.alloc (Obj.cells #[] 38)).alloc (Obj.cells #[.slice none 0 0, .int .i64 0, .int .i64 0] 24)) (some cur.heap.size) p c (some (cur.heap.size + 1)) := by
  have := h.e.z
  rw [show (cur.alloc (Obj.cells #[] 38)).heap.size = cur.heap.size + 1 by simp] at this
  exact this
theorem JS.ze (h : JS W l1 L2 cur none p c none) : JS W l1 L2 ((cur.alloc (Obj.cells #[.slice none 0 0, .int .i64 0, .int .i64 0] 24)).alloc (Obj.cells #[] 38)) (some (cur.heap.size + 1)) p c (some cur.heap.size) := by
  have := h.z.e
  rw [show (cur.alloc (Obj.cells #[.slice none 0 0, .int .i64 0, .int .i64 0] 24)).heap.size = cur.heap.size + 1 by simp] at this
  exact this
end

/-- Behind the second append. -/
structure JF (W : World) (L : List Ins) (w8 : World) (A : Option Addr) (nb : Option Nat) : Prop where
  hb : Below W.heap.size W w8
  code : CodeAt w8 A L
  box : ∀ b, nb = some b → Res0 w8 b ∧ W.heap.size ≤ b ∧ ∀ b' o, A = some ⟨b', o, none⟩ → 0 < L.length → b' ≠ b

theorem info_insX : ∃ i0, Tryd.prog.info? 38 = some i0 ∧ i0.zero = some (.agg #[.int .u8 0, .int .i64 0, .int .i64 0, .int .i64 0, .int .i64 0]) ∧ i0.size = 5 ∧ i0.bytes = 40 := by
  obtain ⟨i0, hi, hz0, hz1, hz2⟩ := info_parts info_ins
  exact ⟨i0, hi, hz0, hz1, hz2⟩

theorem step_join1 {W cur : World} {l1 L2 : List Ins} {g : Nat} {c : Option (Option Addr)} {nb : Option Nat} (js : JS W l1 L2 cur (some g) none c nb) {A1 : Option Addr} (hC : CodeAt W A1 l1) (hl : l1.length ≤ 1000)
    {ops : Array Oper} {o : Oper} {a : Act} {K : Act → World → Prop} {Q : Exit → Act → World → Prop} {E : Prop} (hgd : o.guard = none) (s x : Operand) (ho : o.op = .call { callee := .builtin .append, args := #[s, x], argTypes := #[22, 22] }) (m1 c1 : Nat) (hm1 : m1 = l1.length)
    (hs : a.eval s = .slice (some ⟨g, 0, none⟩) 0 0) (hx : a.eval x = .slice A1 m1 c1)
    (h : ∀ v' w', JS W l1 L2 w' (some g) (some v') c nb → K (a.put o.dst v') w') :
    if Region.wanted o (yielded ops a.tmps) = true then Oper.wp Tryd.prog o a cur K Q else E := by
  subst hm1
  obtain ⟨i0, hi, hz0, hz1, hz2⟩ := info_insX
  obtain ⟨e1, e2, e3⟩ := js.emp g rfl
  refine step_app0 cur hgd s x 22 ho 38 i0 _ 5 40 Tryd.underlying22 hi hz0 hz1 hz2 rfl (by decide) A1 l1.length c1 (cellsL l1) (cellsL_length l1) (by unfold maxLen; omega) (by omega) g hs hx W.heap.size js.hb.size (hC.mono js.hb).cells ?_
  intro v' w' hE hb hat
  have j2 := js.step hb
  have hs' := hb.size
  refine h v' w' ⟨j2.hb, j2.emp, fun v hv => ?_, j2.code, j2.box⟩
  cases hv
  refine ⟨hE, fun g' hg' => ?_⟩
  rcases hat with e | ⟨e, e'⟩
  · rw [e] at hg'; cases hg'
    exact ⟨e1, by omega, e3⟩
  · rw [e] at hg'; cases hg'
    exact ⟨js.hb.size, e', fun b hb' => by have := (js.box b hb').2.2; omega⟩

theorem step_join2 {W cur : World} {l1 L2 : List Ins} {eb : Option Nat} {v5 : Value} {AC : Option Addr} {nb : Option Nat} (js : JS W l1 L2 cur eb (some v5) (some AC) nb) (hl : l1.length + L2.length ≤ 1000)
    {ops : Array Oper} {o : Oper} {a : Act} {K : Act → World → Prop} {Q : Exit → Act → World → Prop} {E : Prop} (hgd : o.guard = none) (s x : Operand) (ho : o.op = .call { callee := .builtin .append, args := #[s, x], argTypes := #[22, 22] }) (n2 cC : Nat) (hn2 : n2 = L2.length)
    (hs : a.eval s = v5) (hx : a.eval x = .slice AC n2 cC)
    (h : ∀ A8 c8 w', JF W (l1 ++ L2) w' A8 nb → K (a.put o.dst (.slice A8 (l1.length + n2) c8)) w') :
    if Region.wanted o (yielded ops a.tmps) = true then Oper.wp Tryd.prog o a cur K Q else E := by
  subst hn2
  obtain ⟨i0, hi, hz0, hz1, hz2⟩ := info_insX
  obtain ⟨o1, o2⟩ := js.own v5 rfl
  refine step_appE cur hgd s x 22 ho 38 i0 _ 5 40 Tryd.underlying22 hi hz0 hz1 hz2 rfl (by decide) v5 l1.length (cellsL l1) AC L2.length cC (cellsL L2) (cellsL_length L2) (cellsL_one L2) (by unfold maxLen; omega) (by omega) hs hx W.heap.size js.hb.size o1 (js.code AC rfl).cells ?_
  intro v8 w8 hE hg hat
  obtain ⟨A8, c8, rfl⟩ := hE.form
  have hE' : OwnE w8 W.heap.size 38 5 (.slice A8 (l1 ++ L2).length c8) (l1 ++ L2).length (cellsL (l1 ++ L2)) := by rw [List.length_append, cellsL_append]; exact hE
  refine h A8 c8 w8 ⟨js.hb.grown hg js.hb.size (fun k hk => (o2 k hk).1), hE'.code, fun b hb => ?_⟩
  obtain ⟨r1, r2, r3⟩ := js.box b hb
  refine ⟨ResAt.grown r1 hg (fun e => (o2 b e.symm).2.2 b hb rfl), r2, fun b' o' e _ => ?_⟩
  subst e
  rcases hat with e | e
  · have := (o2 b' (by rw [← e]; rfl)).2.2 b hb
    exact this
  · have : b' = cur.heap.size := by simpa [Value.ownBlock] using e
    omega

theorem call_join {W cur : World} {l1 l2 : List Ins} {eb : Option Nat} {p : Option Value} {nb : Option Nat} {n : Int} (js : JS W l1 (shL n l2) cur eb p none nb) {A2 : Option Addr} {c2 : Nat} (m2 : Nat) (hm2 : m2 = l2.length) (hC : CodeAt W A2 l2) (hY : Bytes l2) (hl : l2.length ≤ 1000) (hn : 0 ≤ n ∧ n ≤ 1000000) (hT : ∀ (k : Nat) (x : Ins), l2[k]? = some x → kI x = true → 0 ≤ tI x ∧ tI x ≤ 65536) :
    Calls Tryd.prog 20 #[.slice A2 m2 c2, .int .i64 n] cur fun e w' => ∃ AC cC, e = .returned (.slice AC m2 cC) ∧ JS W l1 (shL n l2) w' eb p (some AC) nb := by
  subst hm2
  refine (shifted_any l2 A2 c2 n cur (hC.mono js.hb) hY (by omega) hn hT).mono ?_
  rintro e w' ⟨AC, cC, rfl, hown, hb⟩
  refine ⟨AC, cC, by rw [shL_length], ?_⟩
  have j2 := js.step hb
  obtain ⟨A', c', e1, hc⟩ := code_of_own hown
  injection e1 with e1
  subst e1
  exact ⟨j2.hb, j2.emp, j2.own, fun A hA => by cases hA; exact hc, j2.box⟩

/-- An image of the call's own. -/
structure NewAt (W wc : World) (nb : Nat) (A : Option Addr) (c : Nat) (M S : Int) (l : List Ins) : Prop where
  hb : Below W.heap.size W wc
  im : ImgAt wc nb A c M S l
theorem new_box {W w8 : World} {A : Option Addr} {c n : Nat} {M S : Int} {l : List Ins} {nb : Option Nat} (h : JF W l w8 A nb) (hn : n = l.length) : NewAt W (w8.alloc (Obj.cells #[.slice A n c, .int .i64 M, .int .i64 S] 24)) w8.heap.size A c M S l := by
  subst hn
  exact ⟨h.hb.alloc h.hb.size _, imgAt_box w8 _ A c M S l h.code⟩
theorem new_set {W w8 : World} {b : Nat} {A : Option Addr} {c n : Nat} {M S : Int} {l : List Ins} (h : JF W l w8 A (some b)) (hn : n = l.length) :
    NewAt W (((w8.setCell ⟨b, 0, none⟩ (.slice A n c)).setCell ⟨b, 1, none⟩ (.int .i64 M)).setCell ⟨b, 2, none⟩ (.int .i64 S)) b A c M S l := by
  subst hn
  obtain ⟨⟨r0, r1, r2, rz⟩, ge, ne⟩ := h.box b rfl
  have y0 := rz 0
  have y1 := rz 1
  have y2 := rz 2
  refine ⟨((h.hb.setCell ge _).setCell ge _).setCell ge _, ?_, ?_, ?_, ((h.code.set _ _ _ ne).set _ _ _ ne).set _ _ _ ne⟩ <;> simp [go_sem, *]

end Go.Proofs.YthakiaicnhkfjaaDoor
