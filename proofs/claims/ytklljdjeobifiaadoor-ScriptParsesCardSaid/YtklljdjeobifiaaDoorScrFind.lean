/-
  The contract of script.find: a loop over the map of the shapes.
-/
import Derived.Test.YtklljdjeobifiaaDoorScrMap
namespace Go.Proofs.YtklljdjeobifiaaDoor
open Go.ChangeShapes Go.WideShapes Go.ChangeAt Go.RowKit Go.Sort Go.Maps

def findV (o : Option Shp) : Value := .tuple #[.string (bs ((o.map Shp.word).getD [])), shV ((o.map shOf).getD shZ), .bool o.isSome]
def RetFind (o : Option Shp) (w : World) (e : Ending) (w' : World) : Prop := e = .returned (findV o) ∧ Below w.heap.size w w'
/-- The loop: what has come so far has another kind. -/
def FindI (w wr : World) (b r : Nat) (D : DataW Value) (k : Nat) : Prop :=
  ∃ (left : Lit → Bool) (cnt : Nat), wr.ranges Tryd.prog 9 shR b r 14 D left cnt ∧ Below w.heap.size w wr ∧ (∀ s, Maps.has D (klit s) = (shEnv s).isSome ∧ D.atKey (klit s) (.held (shV shZ)) = .held (shV ((shEnv s).getD shZ))) ∧ (∀ s c, left (klit s) = false → shEnv s = some c → c.k ≠ k) ∧
    Bx wr w.heap.size #[.int .u8 0, .bool false, .int .i64 0, .bool false] ∧ w.heap.size < b ∧ w.heap.size < r
theorem str_inv (key : Value) (kl : Lit) (h : keyOf Tryd.prog 9 key = some kl) : ∃ x, key = Value.string x := by
  cases key <;> simp [keyOf, Tryd.underlying9, mapKey] at h
  exact ⟨_, rfl⟩
theorem key_klit {x : ByteArray} {kl : Lit} (h : keyOf Tryd.prog 9 (.string x) = some kl) : kl = klit x := by
  simp [keyOf, Tryd.underlying9, mapKey] at h
  unfold klit
  exact h.2.symm
theorem findK_none {k : Nat} {left : Lit → Bool} (hl : ∀ kl, left kl = false) (hr : ∀ s c, left (klit s) = false → shEnv s = some c → c.k ≠ k) : findK k = none := by
  cases hf : findK k with
  | none => rfl
  | some s =>
    obtain ⟨h1, h2⟩ := findK_some hf
    exact absurd h2 (hr _ _ (hl _) (shEnv_mem h1))
theorem findK_hit {k : Nat} {x : ByteArray} {c : Sh} (h : shEnv x = some c) (hk : c.k = k) : ∃ s, findK k = some s ∧ x = bs s.word ∧ c = shOf s := by
  obtain ⟨s, h1, h2, rfl⟩ := shEnv_some h
  refine ⟨s, ?_, h2, rfl⟩
  rw [← hk]; exact (shp_all s h1).1
/-- An entry that has come. -/
theorem entry_env {D : DataW Value} (hD : ∀ s, Maps.has D (klit s) = (shEnv s).isSome ∧ D.atKey (klit s) (.held (shV shZ)) = .held (shV ((shEnv s).getD shZ))) {x : ByteArray} {c : Sh} {y : DataW Value × List MemPlace} (hv : shR (shV c) = some y) (hat : ∀ zd, D.atKey (klit x) zd = y.1) : shEnv x = some c := by
  rw [shR_mk] at hv
  cases hv
  have h1 := Maps.has_true_of_atKey hat
  obtain ⟨h2, h3⟩ := hD x
  rw [h1] at h2
  rw [hat] at h3
  cases he : shEnv x with
  | none => rw [he] at h2; cases h2
  | some c' =>
    rw [he] at h3
    injection h3 with h3
    rw [shV_inj h3]; rfl

set_option maxRecDepth 100000 in
set_option maxHeartbeats 2000000 in
theorem find_any (k : Nat) (w : World) : Calls Tryd.prog 22 #[.int .u8 k] w (RetFind (findK k) w) := by
  have b1 := below_box w (Obj.cells #[.int .u8 0, .bool false, .int .i64 0, .bool false] 51)
  have rb := bx_new w #[.int .u8 0, .bool false, .int .i64 0, .bool false] 51
  obtain ⟨fk, hfk⟩ : ∃ fk, fk = findK k := ⟨_, rfl⟩
  rw [← hfk]
  have HFK := Lib.hid hfk
  clear hfk
  go_enter Tryd.func22, Tryd.ntmps22
  go_wp2_with fail
  generalize w.alloc _ = W at b1 rb ⊢
  refine (shapes_any W).mono ?_
  rintro e w2 ⟨b, rfl, hge, ⟨D, hown, hD⟩, hb2⟩
  have q2 := Lib.hid (below_step b1 b1.size hb2)
  have rb2 := Lib.hid (rb.below hb2)
  have HD := Lib.hid hD
  have hlt := rb.lt
  have hown' := Lib.hid hown
  clear hb2 rb b1 hD
  go_wp2_with (at_range; refine wpList_range_own _ rfl _ 72 rfl 9 51 strKeyed Tryd.underlying72 shR b 14 D rfl hown'.out ?_; intro w0 hrg0 hg0 hs0)
  go_frame
  have H0 : FindI w w0 b w2.heap.size D k := ⟨_, _, hrg0, q2.out.grown hg0 q2.out.size (fun j hj => by cases hj), HD.out, (fun s c (hl : Maps.has D (klit s) = false) hc => by rw [(HD.out s).1, hc] at hl; cases hl), rb2.out.below ⟨hg0.os, hg0.tape, hg0.output, hg0.size, fun j hj => hg0.block j hj (by simp)⟩, by omega, by have := rb2.out.lt; omega⟩
  have H00 := Lib.hid H0
  clear hrg0 hg0 hs0 H0
  go_loopw [9] (fun _ wr => Hid (FindI w wr b w2.heap.size D k)) (fun _ wr => wr.rangeLeft b w2.heap.size)
  case atStart => exact H00
  case round =>
    obtain ⟨left, cnt, hrg, hb, hD, hno, hbx, l1, l2⟩ := hrel.out
    have HB := Lib.hid hb
    have HD := Lib.hid hD
    have HNO := Lib.hid hno
    have HBX := Lib.hid hbx
    have HRG := Lib.hid hrg
    clear hb hD hno hbx hrel hown' q2 rb2 H00
    go_wp2_with (at_next; refine wpList_next_ranges _ rfl _ rfl 9 strKeyed shR Value.string shV str_inv (fun v y h => shR_inv h) b w2.heap.size 14 D left cnt rfl hrg ?_ ?_)
    · intro _ hl0
      have HF := Lib.hid (findK_none hl0 HNO.out)
      obtain ⟨x, hx⟩ := HBX.out
      obtain ⟨⟨y0, y1, y2, y3⟩, z0, z1, z2, z3⟩ : ((wr.cell? ⟨w.heap.size, 0, none⟩ = some (.int .u8 0) ∧ wr.cell? ⟨w.heap.size, 1, none⟩ = some (.bool false) ∧ wr.cell? ⟨w.heap.size, 2, none⟩ = some (.int .i64 0) ∧ wr.cell? ⟨w.heap.size, 3, none⟩ = some (.bool false)) ∧ wr.frozen? ⟨w.heap.size, 0, none⟩ = false ∧ wr.frozen? ⟨w.heap.size, 1, none⟩ = false ∧ wr.frozen? ⟨w.heap.size, 2, none⟩ = false ∧ wr.frozen? ⟨w.heap.size, 3, none⟩ = false) := by
        have h4 := HBX.out.four
        exact ⟨⟨h4.1, h4.2.1, h4.2.2.1, h4.2.2.2.1⟩, h4.2.2.2.2⟩
      go_wp2_with fail
      have rbF := (((HBX.out.set 0 (.int .u8 0)).set 1 (.bool false)).set 2 (.int .i64 0)).set 3 (.bool false)
      have qF := (((HB.out.setCell (p := ⟨w.heap.size, 0, none⟩) (Nat.le_refl _) (.int .u8 0)).setCell (p := ⟨w.heap.size, 1, none⟩) (Nat.le_refl _) (.bool false)).setCell (p := ⟨w.heap.size, 2, none⟩) (Nat.le_refl _) (.int .i64 0)).setCell (p := ⟨w.heap.size, 3, none⟩) (Nat.le_refl _) (.bool false)
      generalize World.setCell _ _ _ = WF at rbF qF ⊢
      have s0 := rbF.cell (j := 0) rfl
      have s1 := rbF.cell (j := 1) rfl
      have s2 := rbF.cell (j := 2) rfl
      have s3 := rbF.cell (j := 3) rfl
      exact bodyPost_ret (v := .tuple #[.string ⟨#[]⟩, .agg #[.int .u8 0, .bool false, .int .i64 0, .bool false], .bool false]) (by simp [results, Tryd.results22, go_sem, s0, s1, s2, s3]) rfl ⟨by rw [HFK.out, HF.out]; rfl, qF⟩
    · intro x c kl y1 y2 w1 cnt1 hkx hlx hRy hat hrg1 hlt1 hg1 hs1 hen
      obtain rfl := key_klit hkx
      have HE := Lib.hid (entry_env HD.out hRy hat)
      have HR1 := Lib.hid hrg1
      have HLT := Lib.hid hlt1
      have hB1 := HB.out.grown hg1 HB.out.size (fun j hj => by cases hj; omega)
      have hbx1 := HBX.out.fr (Fr.of_grown hg1) (fun e => by have := Option.some.inj e; omega)
      clear hRy hat hrg1 hlt1 hg1 hkx hlx hs1
      unfold shV at hen ⊢
      have bb := below_box w1 (Obj.cells #[.int .u8 c.k, .bool c.n, .int .i64 c.m, .bool c.t] 51)
      have hB2 := below_step hB1 hB1.size bb
      have hbx2 := hbx1.below bb
      have hs2 := hbx1.lt
      by_cases hk : c.k = k
      · obtain ⟨s, hf, hx, hc⟩ := findK_hit HE.out hk
        have HS := Lib.hid (And.intro hf (And.intro hx hc))
        have hk1 : ((c.k : Int) == (k : Int)) = true := by rw [hk]; simp
        clear hk hf hx hc
        have f4 := hbx1.four
        obtain ⟨y0, y1, y2, y3, z0, z1, z2, z3⟩ := f4
        go_wp2_with fail
        go_region
        all_goals
          go_wp2_with fail
          have rbS := (((hbx1.set 0 (.int .u8 c.k)).set 1 (.bool c.n)).set 2 (.int .i64 c.m)).set 3 (.bool c.t)
          have qS := (((hB1.setCell (p := ⟨w.heap.size, 0, none⟩) (Nat.le_refl _) (.int .u8 c.k)).setCell (p := ⟨w.heap.size, 1, none⟩) (Nat.le_refl _) (.bool c.n)).setCell (p := ⟨w.heap.size, 2, none⟩) (Nat.le_refl _) (.int .i64 c.m)).setCell (p := ⟨w.heap.size, 3, none⟩) (Nat.le_refl _) (.bool c.t)
          have bS := below_box ((((w1.setCell ⟨w.heap.size, 0, none⟩ (.int .u8 c.k)).setCell ⟨w.heap.size, 1, none⟩ (.bool c.n)).setCell ⟨w.heap.size, 2, none⟩ (.int .i64 c.m)).setCell ⟨w.heap.size, 3, none⟩ (.bool c.t)) (Obj.cells #[.int .u8 c.k, .bool c.n, .int .i64 c.m, .bool c.t] 51)
          have rbF := rbS.below (belowDrawn bS)
          have qF := belowDrawn (below_step qS qS.size bS)
          generalize World.drew _ = WF at rbF qF ⊢
          have s0 := rbF.cell (j := 0) rfl
          have s1 := rbF.cell (j := 1) rfl
          have s2 := rbF.cell (j := 2) rfl
          have s3 := rbF.cell (j := 3) rfl
          exact bodyPost_ret (v := .tuple #[.string x, .agg #[.int .u8 c.k, .bool c.n, .int .i64 c.m, .bool c.t], .bool true]) (by simp [results, Tryd.results22, go_sem, s0, s1, s2, s3]) rfl ⟨by rw [HFK.out, HS.out.1, HS.out.2.1, HS.out.2.2]; rfl, qF⟩
      · have hk1 : ((c.k : Int) == (k : Int)) = false := beq_eq_false_iff_ne.2 (by omega)
        have HN := Lib.hid (show ∀ (u : ByteArray) (d : Sh), (left (klit u) && !(klit u).sameKey (klit x)) = false → shEnv u = some d → d.k ≠ k from fun u d hl hd => by
          cases hlu : left (klit u) with
          | false => exact HNO.out u d hlu hd
          | true =>
            rw [hlu] at hl
            have hsk : (klit u).sameKey (klit x) = true := by simpa using hl
            have e := WideAt.sameKey_eq hsk
            have hux : u = x := Classical.byContradiction fun hne => klit_ne hne e
            rw [hux, HE.out] at hd
            cases hd
            exact hk)
        clear hk
        go_wp2_with fail
        exact ⟨⟨_, cnt1, HR1.out.alloc _, hB2, HD.out, HN.out, hbx2, l1, l2⟩, by rw [(HR1.out.alloc _).left_eq, HRG.out.left_eq]; exact HLT.out⟩

end Go.Proofs.YtklljdjeobifiaaDoor
