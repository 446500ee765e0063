/-
  script.read: the walk.
-/
import Derived.Test.YtklljdjeobifiaaDoorScrHead
namespace Go.Proofs.YtklljdjeobifiaaDoor
open Go.ChangeShapes Go.WideShapes Go.ChangeAt Go.RowKit Go.Sort Go.Maps

def cutV (l : List UInt8) : Option (List UInt8 × List UInt8) → Value
  | none => .tuple #[.string (bs l), .string ⟨#[]⟩, .bool false]
  | some (a, r) => .tuple #[.string (bs a), .string (bs r), .bool true]
theorem cut_any (l : List UInt8) (w : World) (hl : l.length < 4294967281) (h : Wld w) :
    Calls Tryd.prog 46 #[.string (bs l), .string ⟨#[10]⟩] w fun e w' => e = .returned (cutV l (cutL l)) ∧ Below w.heap.size w w' := by
  obtain ⟨m, hm⟩ := h.mx
  refine (Tryd.strings_Cut (bs l) ⟨#[10]⟩ m w (by rw [bs_size]; exact hl) hm).mono ?_
  rintro e w' ⟨rfl, n, rfl⟩
  refine ⟨?_, below_drewN (Below.refl _ _) n⟩
  rw [data_bs]
  show Ending.returned (.tuple #[.string ⟨(Lib.cut l [10]).1.toArray⟩, .string ⟨(Lib.cut l [10]).2.1.toArray⟩, .bool (Lib.cut l [10]).2.2]) = _
  cases hc : cutL l with
  | none => rw [cut_none hc]; rfl
  | some p => obtain ⟨a, r⟩ := p; rw [cut_some hc]; rfl
theorem join_len : ∀ (ws : List (List UInt8)), ws.length ≤ (Lib.join ws [32]).length + 1
  | [] => by simp
  | [w] => by simp
  | w :: v :: r => by
    have := join_len (v :: r)
    rw [join_cons]
    simp at this ⊢
    omega
theorem nm_len {l : List UInt8} (h : nmB l = true) : l.length ≤ 16 := by
  rcases Nat.lt_or_ge 16 l.length with h1 | h1
  · rw [nm_long h1] at h; cases h
  · exact h1
theorem headL_sm {line : List UInt8} {c : Cm} {k : Nat} (h : headL line = some (c, k)) : c.name.length ≤ 16 ∧ c.nums.length ≤ line.length + 1 ∧ c.text = [] := by
  obtain ⟨s, hm, hk, ht, hfit, hn1, hn2, hz, hline⟩ := headL_some h
  refine ⟨?_, ?_, ht⟩
  · cases hsn : s.name with
    | true => exact nm_len (hn1 hsn)
    | false => rw [hn2 hsn]; simp
  · have := join_len (s.word :: ((if s.name = true then [c.name] else []) ++ c.nums.map Lib.itoa ++ (if s.text = true then [Lib.itoa (k : Nat)] else [])))
    rw [← hline] at this
    simp at this
    omega
theorem read1_a {s first rest : List UInt8} (hc : cutL s = some (first, rest)) (hh : headL first = none) : read1 s = .err 3 := by
  unfold read1; rw [hc]; dsimp only; rw [hh]
theorem read1_b {s first rest : List UInt8} {c : Cm} {k : Nat} (hc : cutL s = some (first, rest)) (hh : headL first = some (c, k)) (ht : takeL k rest = none) : read1 s = .err 4 := by
  unfold read1; rw [hc]; dsimp only; rw [hh]; dsimp only; rw [ht]
theorem read1_c {s first rest t q : List UInt8} {c : Cm} {k : Nat} (hc : cutL s = some (first, rest)) (hh : headL first = some (c, k)) (ht : takeL k rest = some (t, q)) : read1 s = if okC { c with text := t } = true then .ok { c with text := t } q else .err 3 := by
  unfold read1; rw [hc]; dsimp only; rw [hh]; dsimp only; rw [ht]
def RetRead (s : List UInt8) (w : World) (e : Ending) (w' : World) : Prop :=
  Below w.heap.size w w' ∧ ((∃ e0, read1 s = .err e0 ∧ e = .returned (.tuple #[cmd0, .string ⟨#[]⟩, .int .i64 e0])) ∨
    ∃ c rest A cap, read1 s = .ok c rest ∧ IntsAt w' A c.nums ∧ (∀ b o, A = some ⟨b, o, none⟩ → w.heap.size < b) ∧ e = .returned (.tuple #[.agg #[.int .u8 c.kind, .string (bs c.name), .string (bs c.text), .slice A c.nums.length cap], .string (bs rest), .int .i64 0]))

set_option maxRecDepth 100000 in
set_option maxHeartbeats 4000000 in
theorem read_any (s : List UInt8) (w : World) (hW : Wld w) (hl : s.length ≤ 4294967280) :
    Calls Tryd.prog 31 #[.string (bs s)] w (RetRead s w) := by
  have HWl := Lib.hid hW
  have b1 := below_box w (Obj.cells #[.int .u8 0, .string ⟨#[]⟩, .string ⟨#[]⟩, .slice none 0 0] 42)
  have br1 := Lib.hid (bx_new w #[.int .u8 0, .string ⟨#[]⟩, .string ⟨#[]⟩, .slice none 0 0] 42)
  have HW1 := Lib.hid (hW.below b1)
  have q1 := Lib.hid b1
  clear hW b1
  go_enter Tryd.func31, Tryd.ntmps31
  go_wp2_with fail
  generalize w.alloc _ = W1 at q1 br1 HW1 ⊢
  refine (cut_any s W1 (by omega) HW1.out).mono ?_
  rintro e W2 ⟨rfl, hb2⟩
  have q2 := Lib.hid (below_step q1.out q1.out.size hb2)
  have br2 := Lib.hid (br1.out.below hb2)
  clear hb2 q1 br1
  cases hc : cutL s with
  | none =>
    have HN := Lib.hid (show read1 s = .err 4 by unfold read1; rw [hc])
    clear hc
    unfold cutV
    obtain ⟨y0, y1, y2, y3, z0, z1, z2, z3⟩ := br2.out.four
    go_wp2_with fail
    have rbF := br2.out.set4 (.int .u8 0) (.string ⟨#[]⟩) (.string ⟨#[]⟩) (.slice none 0 0)
    have qF := below_set4 q2.out (Nat.le_refl w.heap.size) (.int .u8 0) (.string ⟨#[]⟩) (.string ⟨#[]⟩) (.slice none 0 0)
    obtain ⟨s0, s1, s2, s3, _⟩ := rbF.four
    exact bodyPost_ret (v := .tuple #[cmd0, .string ⟨#[]⟩, .int .i64 4]) (by simp [results, Tryd.results31, go_sem, cmd0, s0, s1, s2, s3]) rfl ⟨qF, .inl ⟨4, HN.out, rfl⟩⟩
  | some p =>
    obtain ⟨first, rest⟩ := p
    have hfl : first.length ≤ 4294967280 ∧ rest.length ≤ s.length := by
      obtain ⟨e, _⟩ := cutL_some hc
      have := congrArg List.length e
      simp at this
      omega
    have HC := Lib.hid hc
    clear hc
    unfold cutV
    have HW2 := Lib.hid (HWl.out.below q2.out)
    go_wp2_with fail
    refine (readFirst_any first W2 HW2.out hfl.1).mono ?_
    rintro e W3 ⟨hb3, h3⟩
    have q3 := Lib.hid (below_step q2.out q2.out.size hb3)
    have br3 := Lib.hid (br2.out.below hb3)
    have br2s := br2.out.lt
    clear hb3 q2 br2
    rcases h3 with ⟨hh, rfl⟩ | ⟨c, k, A, cap, hh, hk, hints, hfr, rfl⟩
    · have HN := Lib.hid (read1_a HC.out hh)
      clear hh
      have b4 := below_box W3 (Obj.cells #[.int .u8 0, .string ⟨#[]⟩, .string ⟨#[]⟩, .slice none 0 0] 42)
      have q4 := Lib.hid (below_step q3.out q3.out.size b4)
      have br4 := Lib.hid (br3.out.below b4)
      clear b4
      unfold cmd0
      go_upto_region 5 with fail
      generalize W3.alloc _ = W4 at q4 br4 ⊢
      obtain ⟨y0, y1, y2, y3, z0, z1, z2, z3⟩ := br4.out.four
      go_wp2_with fail
      have rbF := br4.out.set4 (.int .u8 0) (.string ⟨#[]⟩) (.string ⟨#[]⟩) (.slice none 0 0)
      have qF := below_set4 q4.out (Nat.le_refl w.heap.size) (.int .u8 0) (.string ⟨#[]⟩) (.string ⟨#[]⟩) (.slice none 0 0)
      obtain ⟨s0, s1, s2, s3, _⟩ := rbF.four
      exact bodyPost_ret (v := .tuple #[cmd0, .string ⟨#[]⟩, .int .i64 3]) (by simp [results, Tryd.results31, go_sem, cmd0, s0, s1, s2, s3]) rfl ⟨qF, .inl ⟨3, HN.out, rfl⟩⟩
    · obtain ⟨hcn, hck, hct⟩ := headL_sm hh
      have HH := Lib.hid hh
      clear hh
      have b4 := below_box W3 (Obj.cells #[.int .u8 c.kind, .string (bs c.name), .string ⟨#[]⟩, .slice A c.nums.length cap] 42)
      have cb := bx_new W3 #[.int .u8 c.kind, .string (bs c.name), .string ⟨#[]⟩, .slice A c.nums.length cap] 42
      have q4 := Lib.hid (below_step q3.out q3.out.size b4)
      have br4 := Lib.hid (br3.out.below b4)
      have hi4 := Lib.hid (hints.mono b4)
      have hne : w.heap.size < W3.heap.size := br3.out.lt
      have HBW := Lib.hid (fun (b o : Nat) (e : A = some ⟨b, o, none⟩) => show w.heap.size < b from by have := hfr b o e; have := br2s; omega)
      have HBK := Lib.hid (fun (b o j : Nat) (y : Int) (e : A = some ⟨b, o, none⟩) (hj : c.nums[j]? = some y) => show b < W3.heap.size from by
        obtain ⟨b', o', e', h⟩ := hints j y hj
        rw [e] at e'; cases e'
        exact block_lt_of_cell h)
      clear hfr
      clear b4 hints q3 br3
      go_upto_region 7 with fail
      generalize W3.alloc _ = W4 at q4 br4 cb hi4 ⊢
      generalize W3.heap.size = bC at *
      go_wp2_with fail
      refine (take_any rest k W4 (by omega) hk).mono ?_
      rintro e W5 ⟨rfl, hb5⟩
      have q5 := Lib.hid (below_step q4.out q4.out.size hb5)
      have br5 := Lib.hid (br4.out.below hb5)
      have cb5 := cb.below hb5
      have hi5 := Lib.hid (hi4.out.mono hb5)
      obtain ⟨c0, c1, c2, c3, d0, d1, d2, d3⟩ := cb5.four
      clear hb5 q4 br4 cb hi4
      cases ht : takeL k rest with
      | none =>
        have HN := Lib.hid (read1_b HC.out HH.out ht)
        clear ht
        unfold takeV
        have q6 := Lib.hid (show Below w.heap.size w (W5.setCell ⟨bC, 2, none⟩ (.string ⟨#[]⟩)) from q5.out.setCell (p := ⟨bC, 2, none⟩) (Nat.le_of_lt hne) _)
        have br6 := Lib.hid (br5.out.fr (Fr.of_set W5 ⟨bC, 2, none⟩ (.string ⟨#[]⟩)) (by show ¬ w.heap.size = bC; omega))
        go_upto_region 8 with fail
        clear c0 c1 c2 c3 d0 d1 d2 d3
        generalize W5.setCell _ _ = W6 at q6 br6 ⊢
        obtain ⟨y0, y1, y2, y3, z0, z1, z2, z3⟩ := br6.out.four
        go_wp2_with fail
        have rbF := br6.out.set4 (.int .u8 0) (.string ⟨#[]⟩) (.string ⟨#[]⟩) (.slice none 0 0)
        have qF := below_set4 q6.out (Nat.le_refl w.heap.size) (.int .u8 0) (.string ⟨#[]⟩) (.string ⟨#[]⟩) (.slice none 0 0)
        obtain ⟨s0, s1, s2, s3, _⟩ := rbF.four
        exact bodyPost_ret (v := .tuple #[cmd0, .string ⟨#[]⟩, .int .i64 4]) (by simp [results, Tryd.results31, go_sem, cmd0, s0, s1, s2, s3]) rfl ⟨qF, .inl ⟨4, HN.out, rfl⟩⟩
      | some p =>
        obtain ⟨t, q⟩ := p
        have HN := Lib.hid (read1_c HC.out HH.out ht)
        have htl : t.length ≤ rest.length := by have := congrArg List.length (takeL_some ht).1; simp at this; omega
        clear ht
        unfold takeV
        have q6 := Lib.hid (show Below w.heap.size w (W5.setCell ⟨bC, 2, none⟩ (.string (bs t))) from q5.out.setCell (p := ⟨bC, 2, none⟩) (Nat.le_of_lt hne) _)
        have br6 := Lib.hid (br5.out.fr (Fr.of_set W5 ⟨bC, 2, none⟩ (.string (bs t))) (by show ¬ w.heap.size = bC; omega))
        have cb6 := (show Bx (W5.setCell ⟨bC, 2, none⟩ (.string (bs t))) bC #[.int .u8 c.kind, .string (bs c.name), .string (bs t), .slice A c.nums.length cap] from cb5.set 2 (.string (bs t)))
        have hi6 := Lib.hid (show IntsAt (W5.setCell ⟨bC, 2, none⟩ (.string (bs t))) A c.nums from fun j y hj => by
          obtain ⟨b, o, e, h⟩ := hi5.out j y hj
          exact ⟨b, o, e, (Fr.of_set W5 ⟨bC, 2, none⟩ (.string (bs t))).cell h (fun e2 => absurd e2 (Nat.ne_of_lt (HBK.out b o j y e hj)))⟩)
        go_upto_region 8 with fail
        clear c0 c1 c2 c3 d0 d1 d2 d3
        generalize W5.setCell _ _ = W6 at q6 br6 cb6 hi6 ⊢
        obtain ⟨c0, c1, c2, c3, _⟩ := cb6.four
        have hlC := cb6.lt
        have HV := Lib.hid (fun W => valid_any { c with text := t } A cap W ⟨by show c.name.length ≤ _; omega, by show t.length ≤ _; omega, by show c.nums.length ≤ _; omega⟩)
        go_wp2_with fail
        refine (HV.out _).mono ?_
        rintro e W7 ⟨rfl, hb7⟩
        have q7 := Lib.hid (below_step q6.out q6.out.size hb7)
        have br7 := Lib.hid (br6.out.below hb7)
        have cb7 := cb6.below hb7
        have hi7 := Lib.hid (hi6.out.mono hb7)
        clear hb7 q6 br6 cb6 hi6 c0 c1 c2 c3 hlC
        cases hok : okC { c with text := t } with
        | false =>
          have HN2 := Lib.hid (show read1 s = .err 3 by rw [HN.out, hok]; rfl)
          clear hok
          obtain ⟨y0, y1, y2, y3, z0, z1, z2, z3⟩ := br7.out.four
          go_wp2_with fail
          have rbF := br7.out.set4 (.int .u8 0) (.string ⟨#[]⟩) (.string ⟨#[]⟩) (.slice none 0 0)
          have qF := below_set4 q7.out (Nat.le_refl w.heap.size) (.int .u8 0) (.string ⟨#[]⟩) (.string ⟨#[]⟩) (.slice none 0 0)
          obtain ⟨s0, s1, s2, s3, _⟩ := rbF.four
          exact bodyPost_ret (v := .tuple #[cmd0, .string ⟨#[]⟩, .int .i64 3]) (by simp [results, Tryd.results31, go_sem, cmd0, s0, s1, s2, s3]) rfl ⟨qF, .inl ⟨3, HN2.out, rfl⟩⟩
        | true =>
          have HN2 := Lib.hid (show read1 s = .ok { c with text := t } q by rw [HN.out, hok]; rfl)
          clear hok
          obtain ⟨c0, c1, c2, c3, _⟩ := cb7.four
          have hlC := cb7.lt
          have rbF := Lib.hid (br7.out.set4 (.int .u8 c.kind) (.string (bs c.name)) (.string (bs t)) (.slice A c.nums.length cap))
          have qF := Lib.hid (below_set4 q7.out (Nat.le_refl w.heap.size) (.int .u8 c.kind) (.string (bs c.name)) (.string (bs t)) (.slice A c.nums.length cap))
          have IF := Lib.hid (show IntsAt ((((W7.setCell ⟨w.heap.size, 0, none⟩ (.int .u8 c.kind)).setCell ⟨w.heap.size, 1, none⟩ (.string (bs c.name))).setCell ⟨w.heap.size, 2, none⟩ (.string (bs t))).setCell ⟨w.heap.size, 3, none⟩ (.slice A c.nums.length cap)) A c.nums from fun j y hj => by
            obtain ⟨b, o, e, h⟩ := hi7.out j y hj
            have hb := HBW.out b o e
            exact ⟨b, o, e, (((Fr.of_set W7 ⟨w.heap.size, 0, none⟩ (.int .u8 c.kind)).trans (Fr.of_set _ ⟨w.heap.size, 1, none⟩ (.string (bs c.name))) fun _ _ e => e).trans ((Fr.of_set _ ⟨w.heap.size, 2, none⟩ (.string (bs t))).trans (Fr.of_set _ ⟨w.heap.size, 3, none⟩ (.slice A c.nums.length cap)) fun _ _ e => e) fun _ _ e => e).cell h (fun e => by
              have e : b = w.heap.size := e
              omega)⟩)
          obtain ⟨y0, y1, y2, y3, z0, z1, z2, z3⟩ := br7.out.four
          go_wp2_with fail
          obtain ⟨s0, s1, s2, s3, _⟩ := rbF.out.four
          exact bodyPost_ret (v := .tuple #[.agg #[.int .u8 c.kind, .string (bs c.name), .string (bs t), .slice A c.nums.length cap], .string (bs q), .int .i64 0]) (by simp [results, Tryd.results31, go_sem, s0, s1, s2, s3]) rfl ⟨qF.out, .inr ⟨_, q, A, cap, HN2.out, IF.out, HBW.out, rfl⟩⟩

end Go.Proofs.YtklljdjeobifiaaDoor
