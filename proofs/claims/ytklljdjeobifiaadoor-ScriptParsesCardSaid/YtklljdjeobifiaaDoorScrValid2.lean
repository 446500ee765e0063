/-
  Slices of commands in memory; the contract of script.Valid.
-/
import Derived.Test.YtklljdjeobifiaaDoorScrValid
namespace Go.Proofs.YtklljdjeobifiaaDoor
open Go.ChangeShapes Go.WideShapes Go.ChangeAt Go.RowKit Go.Sort Go.Maps

/-- A command in memory. -/
structure CmO (w : World) (b o : Nat) (c : Cm) : Prop where
  c0 : w.cell? ⟨b, o, none⟩ = some (.int .u8 c.kind)
  c1 : w.cell? ⟨b, o + 1, none⟩ = some (.string (bs c.name))
  c2 : w.cell? ⟨b, o + 2, none⟩ = some (.string (bs c.text))
  c3 : ∃ A cap, w.cell? ⟨b, o + 3, none⟩ = some (.slice A c.nums.length cap) ∧ IntsAt w A c.nums
theorem CmO.mono {w w' : World} {b o : Nat} {c : Cm} (h : CmO w b o c) (hb : Below w.heap.size w w') : CmO w' b o c := by
  obtain ⟨A, cap, h1, h2⟩ := h.c3
  exact ⟨below_cell hb h.c0, below_cell hb h.c1, below_cell hb h.c2, A, cap, below_cell hb h1, h2.mono hb⟩
/-- A slice of commands. -/
def CmsAt (w : World) (A : Option Addr) (l : List Cm) : Prop :=
  ∀ k c, l[k]? = some c → ∃ b o, A = some ⟨b, o, none⟩ ∧ CmO w b (o + k * 4) c
theorem CmsAt.mono {w w' : World} {A : Option Addr} {l : List Cm} (h : CmsAt w A l) (hb : Below w.heap.size w w') : CmsAt w' A l := fun k c hk => by
  obtain ⟨b, o, e, h1⟩ := h k c hk
  exact ⟨b, o, e, h1.mono hb⟩
theorem CmsAt.at_ {w : World} {A : Option Addr} {l : List Cm} (h : CmsAt w A l) {k : Nat} (hk : k < l.length) : ∃ b o, A = some ⟨b, o, none⟩ ∧ CmO w b (o + k * 4) l[k] := h k _ (List.getElem?_eq_getElem hk)
/-- Four cells that are a command. -/
def CmC (w : World) (cs : List Value) (c : Cm) : Prop := ∃ A cap, cs = [.int .u8 c.kind, .string (bs c.name), .string (bs c.text), .slice A c.nums.length cap] ∧ IntsAt w A c.nums
theorem CmC.mono {w w' : World} (hb : Below w.heap.size w w') (cs : List Value) (c : Cm) (h : CmC w cs c) : CmC w' cs c := by
  obtain ⟨A, cap, e, h1⟩ := h; exact ⟨A, cap, e, h1.mono hb⟩
theorem CmC.len {w : World} (cs : List Value) (c : Cm) (h : CmC w cs c) : cs.length = 4 := by
  obtain ⟨A, cap, rfl, _⟩ := h; rfl
theorem CmC.one {w : World} (cs : List Value) (c : Cm) (h : CmC w cs c) : ∀ u ∈ cs, u.oneCell' = true := by
  obtain ⟨A, cap, rfl, _⟩ := h
  intro u hu
  simp at hu
  rcases hu with h | h | h | h <;> subst h <;> rfl
theorem cms_of_own {w : World} {base : Nat} {e : TypeId} {v : Value} {cs : List Value} {l : List Cm} (h : w.ownsRow base e 4 v l.length cs) (hr : RowG (CmC w) cs l) : ∃ A c, v = .slice A l.length c ∧ CmsAt w A l := by
  obtain ⟨h1, h2⟩ := id h
  rcases h2 with ⟨rfl, h0⟩ | ⟨g, cap, cur, rfl, hg, hh, hc1, hc2, hc3, hc4⟩
  · refine ⟨none, 0, by rw [h0], fun k x hk => ?_⟩
    have : l = [] := List.length_eq_zero_iff.1 h0
    subst this; simp at hk
  · refine ⟨some ⟨g, 0, none⟩, cap, rfl, fun k c hk => ⟨g, 0, rfl, ?_⟩⟩
    obtain ⟨c4, ⟨A, cp, rfl, hi⟩, h4⟩ := hr.get CmC.len k c hk
    have hl := hr.len CmC.len
    have hkl : k < l.length := (List.getElem?_eq_some_iff.1 hk).1
    have cell : ∀ j, j < 4 → w.cell? ⟨g, k * 4 + j, none⟩ = [Value.int .u8 c.kind, .string (bs c.name), .string (bs c.text), .slice A c.nums.length cp][j]? := fun j hj => by
      have hlt : k * 4 + j < cs.length := by omega
      have := h.cells (g := g) rfl (k * 4 + j) (cs[k * 4 + j]'hlt) (List.getElem?_eq_getElem hlt)
      rw [add0] at this
      rw [← h4 j hj, List.getElem?_eq_getElem hlt]; exact this
    rw [Nat.zero_add]
    have e0 := cell 0 (by omega)
    have e1 := cell 1 (by omega)
    have e2 := cell 2 (by omega)
    have e3 := cell 3 (by omega)
    exact ⟨e0, e1, e2, A, cp, e3, hi⟩

set_option maxRecDepth 100000 in
set_option maxHeartbeats 1000000 in
theorem validL_any (l : List Cm) (A : Option Addr) (cap : Nat) (w : World) (hL : CmsAt w A l) (hl : l.length ≤ 9223372036854775807) (hs : ∀ c ∈ l, Sm c) :
    Calls Tryd.prog 16 #[.slice A l.length cap] w fun e w' => e = .returned (.bool (okL l)) ∧ Below w.heap.size w w' := by
  have HL := Lib.hid hL
  have HS := Lib.hid hs
  clear hL hs
  by_cases h1000 : 1000 < l.length
  · have HO := Lib.hid (show okL l = false by unfold okL; have : decide (l.length ≤ 1000) = false := by simpa using h1000
                                              rw [this]; rfl)
    go_enter Tryd.func16, Tryd.ntmps16
    go_wp2_with fail
    go_ret
    exact ⟨ret_bool HO.out.symm, Below.refl _ _⟩
  have HO := Lib.hid (show okL l = l.all okC by unfold okL; have : decide (l.length ≤ 1000) = true := by simpa using h1000
                                                rw [this]; rfl)
  go_enter Tryd.func16, Tryd.ntmps16
  go_wp2_with fail
  go_loopw [10] (fun i wr => ∃ k : Nat, k ≤ l.length ∧ i = .int .i64 k ∧ Hid (∀ j c, j < k → l[j]? = some c → okC c = true) ∧ Hid (Below w.heap.size w wr)) (fun i _ => l.length - (intOf i).toNat)
  case atStart => exact ⟨0, by omega, rfl, fun j c hj => by omega, Below.refl _ _⟩
  case round =>
    obtain ⟨k, hk, rfl, hall, hb⟩ := hrel
    by_cases hin : k < l.length
    · obtain ⟨b, o, rfl, hc⟩ := (HL.out.mono hb.out).at_ hin
      have HG := Lib.hid (List.getElem?_eq_getElem hin)
      have HSM := Lib.hid (HS.out _ (List.getElem_mem hin))
      generalize l[k] = c at *
      obtain ⟨c0, c1, c2, A', cp, c3, _⟩ := hc
      have hlt := block_lt_of_cell c0
      have r1 : (0 : Int) ≤ k := by omega
      have r2 : (k : Int) < l.length := by omega
      have bb := below_box wr (Obj.cells #[.int .u8 c.kind, .string (bs c.name), .string (bs c.text), .slice A' c.nums.length cp] 42)
      have q2 := Lib.hid (below_step hb.out hb.out.size bb)
      clear bb
      go_wp2_with fail
      generalize wr.alloc _ = W2 at q2 ⊢
      refine (valid_any c A' cp W2 HSM.out).mono ?_
      rintro e w3 ⟨rfl, hb3⟩
      have q3 := Lib.hid (below_step q2.out q2.out.size hb3)
      clear hb3 q2
      cases hok : okC c with
      | false =>
        have HF := Lib.hid (show okL l = false by rw [HO.out, List.all_eq_false]; exact ⟨c, List.mem_of_getElem? HG.out, by rw [hok]; simp⟩)
        clear hok
        go_wp2_with fail
        go_ret
        exact ⟨ret_bool HF.out.symm, q3.out⟩
      | true =>
        have HN := Lib.hid (fun (j : Nat) (d : Cm) (hj : j < k + 1) (hd : l[j]? = some d) => show okC d = true from by
          by_cases e : j = k
          · subst e; rw [HG.out] at hd; cases hd; exact hok
          · exact hall.out j d (by omega) hd)
        clear hok hall
        go_wp2_with fail
        exact ⟨⟨k + 1, by omega, by go_num, HN, q3⟩, by simp [intOf]; omega⟩
    · have HT := Lib.hid (show okL l = true by rw [HO.out, List.all_eq_true]; intro c hc; obtain ⟨j, hj⟩ := List.getElem?_of_mem hc; exact hall.out j c (by have := (List.getElem?_eq_some_iff.1 hj).1; omega) hj)
      clear hall
      go_wp2_with fail
      go_ret
      exact ⟨ret_bool HT.out.symm, hb.out⟩

end Go.Proofs.YtklljdjeobifiaaDoor
