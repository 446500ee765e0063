/-
  Scripts, plainly: what is written is read, and what is read is what would be written.
-/
import Derived.Test.YtklljdjeobifiaaDoorScrP
namespace Go.Proofs.YtklljdjeobifiaaDoor
open Go.Lib

def Fits (c : Cm) : Prop := ∀ n ∈ c.nums, -9223372036854775808 ≤ n ∧ n ≤ 9223372036854775807
theorem itoa_byte (v : Int) : ∀ b ∈ itoa v, b ≠ 32 ∧ b ≠ 10 := by
  intro b hb
  rcases itoa_dig v b hb with h | h
  · rw [digB_iff] at h
    constructor <;> (rintro rfl; revert h; decide)
  · rw [h]; decide

/-! ### What okC says -/
structure OkC (s : Shp) (c : Cm) : Prop where
  f : findK c.kind = some s
  n1 : s.name = true → nmB c.name = true
  n2 : s.name = false → c.name = []
  k : s.nums = -1 ∨ (c.nums.length : Int) = s.nums
  m : c.nums.length ≤ 4096
  t1 : s.text = false → c.text = []
  t2 : s.text = true → c.text.length ≤ 65536 ∧ (c.text = [] ∨ hasSuffix c.text [10] = true)
theorem okC_iff {c : Cm} : okC c = true ↔ ∃ s, OkC s c := by
  unfold okC
  constructor
  · intro h
    cases hf : findK c.kind with
    | none => rw [hf] at h; cases h
    | some s =>
      rw [hf] at h
      dsimp only at h
      split at h
      · cases h
      rename_i h1
      split at h
      · cases h
      rename_i h2
      simp only [Bool.or_eq_true, decide_eq_true_eq, not_or] at h2
      refine ⟨s, hf, fun e => ?_, fun e => ?_, ?_, by omega, fun e => ?_, fun e => ?_⟩
      · rw [e] at h1; simpa using h1
      · rw [e] at h1; simpa using h1
      · have := h2.1; omega
      · rw [if_pos e] at h; simpa using h
      · rw [if_neg (by rw [e]; simp)] at h
        simpa using h
  · rintro ⟨s, h⟩
    rw [h.f]
    dsimp only
    rw [if_neg, if_neg]
    · cases ht : s.text with
      | false => simp [h.t1 ht]
      | true => have := h.t2 ht; simpa using this
    · simp only [Bool.or_eq_true, decide_eq_true_eq, not_or]
      exact ⟨by have := h.k; omega, by have := h.m; omega⟩
    · cases hn : s.name with
      | false => simp [h.n2 hn]
      | true => simp [h.n1 hn]
theorem OkC.mem {s : Shp} {c : Cm} (h : OkC s c) : s ∈ shpL ∧ s.kind = c.kind := findK_some h.f

/-! ### One command -/
theorem numsL_map : ∀ (ns : List Int), (∀ n ∈ ns, -9223372036854775808 ≤ n ∧ n ≤ 9223372036854775807) → numsL (ns.map itoa) = some ns
  | [], _ => rfl
  | n :: r, h => by
    have h1 := h n (by simp)
    rw [List.map_cons, numsL, numO_itoa h1.1 h1.2, numsL_map r (fun x hx => h x (by simp [hx]))]
theorem numsL_some : ∀ {ws : List (List UInt8)} {ns : List Int}, numsL ws = some ns → ws = ns.map itoa ∧ ∀ n ∈ ns, -9223372036854775808 ≤ n ∧ n ≤ 9223372036854775807
  | [], ns, h => by rw [numsL] at h; cases h; exact ⟨rfl, fun n hn => by simp at hn⟩
  | w :: r, ns, h => by
    rw [numsL] at h
    cases h1 : numO w with
    | none => rw [h1] at h; cases h
    | some n =>
      cases h2 : numsL r with
      | none => rw [h1, h2] at h; cases h
      | some ms =>
        rw [h1, h2] at h
        cases h
        obtain ⟨e1, e2⟩ := numsL_some h2
        obtain ⟨e3, e4⟩ := numO_some h1
        refine ⟨by rw [e1, List.map_cons, e3], fun x hx => ?_⟩
        rcases List.mem_cons.1 hx with e | e
        · rw [e]; exact e4
        · exact e2 x e
theorem takeL_some : ∀ {k : Nat} {r t q : List UInt8}, takeL k r = some (t, q) → r = t ++ q ∧ t.count 10 = k ∧ (t = [] ∨ hasSuffix t [10] = true)
  | 0, r, t, q, h => by rw [takeL] at h; cases h; exact ⟨rfl, rfl, .inl rfl⟩
  | k + 1, r, t, q, h => by
    rw [takeL] at h
    cases h1 : cutL r with
    | none => rw [h1] at h; cases h
    | some p =>
      obtain ⟨a, r2⟩ := p
      rw [h1] at h
      dsimp only at h
      cases h2 : takeL k r2 with
      | none => rw [h2] at h; cases h
      | some p2 =>
        obtain ⟨t2, q2⟩ := p2
        rw [h2] at h
        cases h
        obtain ⟨e1, e2⟩ := cutL_some h1
        obtain ⟨e3, e4, e5⟩ := takeL_some h2
        refine ⟨by rw [e1, e3]; simp, ?_, .inr ?_⟩
        · rw [List.count_append, List.count_cons_self, e4, List.count_eq_zero.2 (fun h => e2 10 h rfl)]; omega
        · rcases e5 with e5 | e5
          · rw [e5]; unfold hasSuffix; rw [List.isSuffixOf_iff_suffix]; exact ⟨a, rfl⟩
          · unfold hasSuffix at *
            rw [List.isSuffixOf_iff_suffix] at *
            obtain ⟨u, hu⟩ := e5
            exact ⟨a ++ 10 :: u, by rw [← hu]; simp⟩
theorem takeL_text : ∀ (n : Nat) (t q : List UInt8), t.length ≤ n → (t = [] ∨ hasSuffix t [10] = true) → takeL (t.count 10) (t ++ q) = some (t, q)
  | n, [], q, _, _ => rfl
  | 0, b :: r, q, hn, _ => by simp at hn
  | n + 1, b :: r, q, hn, h => by
    have h := h.resolve_left (by simp)
    have hm : (10 : UInt8) ∈ (b :: r) := by
      unfold hasSuffix at h
      rw [List.isSuffixOf_iff_suffix] at h
      obtain ⟨u, hu⟩ := h
      rw [← hu]; simp
    cases hc : cutL (b :: r) with
    | none => exact absurd rfl (cutL_none.1 hc 10 hm)
    | some p =>
      obtain ⟨a, t⟩ := p
      obtain ⟨e1, e2⟩ := cutL_some hc
      have hlt : t.length ≤ n := by have := congrArg List.length e1; simp at this hn; omega
      have hsf : t = [] ∨ hasSuffix t [10] = true := by
        cases t with
        | nil => exact .inl rfl
        | cons x y =>
          right
          unfold hasSuffix at h ⊢
          rw [List.isSuffixOf_iff_suffix] at h ⊢
          rw [e1] at h
          have h2 : [10] <:+ x :: y ∨ x :: y <:+ [10] := by
            have ha : (x :: y) <:+ a ++ 10 :: x :: y := ⟨a ++ [10], by simp⟩
            exact List.suffix_or_suffix_of_suffix h ha
          rcases h2 with h2 | h2
          · exact h2
          · have hl := h2.length_le
            simp at hl
            obtain ⟨u, hu⟩ := h2
            have := congrArg List.length hu
            simp at this
            obtain ⟨rfl, rfl⟩ : u = [] ∧ y = [] := ⟨List.length_eq_zero_iff.1 (by omega), List.length_eq_zero_iff.1 (by omega)⟩
            rw [← hu]; exact ⟨[], rfl⟩
      have ih := takeL_text n t q hlt hsf
      have hcount : (b :: r).count 10 = t.count 10 + 1 := by
        rw [e1, List.count_append, List.count_cons_self, List.count_eq_zero.2 (fun h => e2 10 h rfl)]; omega
      rw [hcount, takeL, e1, List.append_assoc, List.cons_append, cutL_app e2]
      dsimp only
      rw [ih]
theorem wordsC_ok {s : Shp} {c : Cm} (h : OkC s c) : ∀ w ∈ wordsC s c, ∀ b ∈ w, b ≠ 32 ∧ b ≠ 10 := by
  intro w hw b hb
  unfold wordsC at hw
  rcases List.mem_cons.1 hw with e | e
  · rw [e] at hb; exact (shp_all s h.mem.1).2.2.1 b hb
  · rcases List.mem_append.1 e with e | e
    · rcases List.mem_append.1 e with e | e
      · cases hn : s.name with
        | false => rw [hn] at e; simp at e
        | true => rw [hn] at e; simp at e; rw [e] at hb; exact nm_byte (h.n1 hn) b hb
      · obtain ⟨n, _, rfl⟩ := List.mem_map.1 e
        exact itoa_byte n b hb
    · cases ht : s.text with
      | false => rw [ht] at e; simp at e
      | true => rw [ht] at e; simp at e; rw [e] at hb; exact itoa_byte _ b hb
theorem headL_words {s : Shp} {c : Cm} (h : OkC s c) (hf : Fits c) : headL (join (wordsC s c) [32]) = some (⟨c.kind, c.name, [], c.nums⟩, c.text.count 10) := by
  have hall := shp_all s h.mem.1
  unfold headL
  rw [splitL_join _ (by unfold wordsC; simp) (fun w hw b hb => (wordsC_ok h w hw b hb).1)]
  unfold wordsC
  dsimp only
  rw [hall.2.1]
  dsimp only
  have hcnt : ((c.text.count 10 : Nat) : Int) ≤ 9223372036854775807 := by
    cases ht : s.text with
    | false => rw [h.t1 ht]; simp
    | true => have := (h.t2 ht).1; have := List.count_le_length (a := (10 : UInt8)) (l := c.text); omega
  have hnm : nameW s ((if s.name = true then [c.name] else []) ++ c.nums.map itoa ++ (if s.text = true then [itoa (c.text.count 10 : Nat)] else [])) = some (c.name, c.nums.map itoa ++ (if s.text = true then [itoa (c.text.count 10 : Nat)] else [])) := by
    unfold nameW
    cases hn : s.name with
    | false => simp [h.n2 hn]
    | true => simp [h.n1 hn]
  rw [hnm]
  dsimp only
  have hns : numsL (c.nums.map itoa ++ (if s.text = true then [itoa (c.text.count 10 : Nat)] else [])) = some (c.nums ++ (if s.text = true then [(c.text.count 10 : Int)] else [])) := by
    cases ht : s.text with
    | false => simp [numsL_map c.nums hf]
    | true =>
      have e : c.nums.map itoa ++ [itoa (c.text.count 10 : Nat)] = (c.nums ++ [(c.text.count 10 : Int)]).map itoa := by simp
      simp only [if_true]
      rw [e, numsL_map _ (fun n hn => by
        rcases List.mem_append.1 hn with h | h
        · exact hf n h
        · rw [List.mem_singleton.1 h]; omega)]
  rw [hns]
  dsimp only
  have hln : linesN s (c.nums ++ (if s.text = true then [(c.text.count 10 : Int)] else [])) = some (c.text.count 10, c.nums) := by
    unfold linesN
    cases ht : s.text with
    | false => simp [h.t1 ht]
    | true =>
      simp only [if_true]
      rw [List.getLast?_concat, List.dropLast_concat]
      dsimp only
      rw [if_neg (by omega), Int.toNat_natCast]
  rw [hln]
  dsimp only
  rw [if_neg (by have := h.k; omega), h.mem.2]
theorem read1_fmt {c : Cm} (h : okC c = true) (hf : Fits c) (rest : List UInt8) : read1 (fmtC c ++ rest) = .ok c rest := by
  obtain ⟨s, hs⟩ := okC_iff.1 h
  unfold read1 fmtC
  rw [hs.f]
  dsimp only
  rw [List.append_assoc, List.cons_append, cutL_app (fun b hb => by
    rcases join_mem hb with e | ⟨w, hw, hb⟩
    · rw [e]; decide
    · exact (wordsC_ok hs w hw b hb).2)]
  dsimp only
  rw [headL_words hs hf]
  dsimp only
  have ht : c.text = [] ∨ hasSuffix c.text [10] = true := by
    cases ht : s.text with
    | false => exact .inl (hs.t1 ht)
    | true => exact (hs.t2 ht).2
  rw [takeL_text _ c.text rest (Nat.le_refl _) ht]
  dsimp only
  rw [if_pos (show okC { kind := c.kind, name := c.name, text := c.text, nums := c.nums } = true from h)]
theorem headL_some {line : List UInt8} {c : Cm} {k : Nat} (h : headL line = some (c, k)) : ∃ s, s ∈ shpL ∧ c.kind = s.kind ∧ c.text = [] ∧ Fits c ∧ (s.name = true → nmB c.name = true) ∧ (s.name = false → c.name = []) ∧ (s.text = false → k = 0) ∧
    line = join (s.word :: ((if s.name = true then [c.name] else []) ++ c.nums.map itoa ++ (if s.text = true then [itoa (k : Nat)] else []))) [32] := by
  unfold headL at h
  cases hw : splitL line with
  | nil => exact absurd hw (splitL_ne line)
  | cons w ws =>
    rw [hw] at h
    dsimp only at h
    cases hl : lookW w with
    | none => rw [hl] at h; cases h
    | some s =>
      rw [hl] at h
      dsimp only at h
      obtain ⟨hm, hwd⟩ := lookW_some hl
      cases hn : nameW s ws with
      | none => rw [hn] at h; cases h
      | some p =>
        obtain ⟨nm, ws2⟩ := p
        rw [hn] at h
        dsimp only at h
        cases hns : numsL ws2 with
        | none => rw [hns] at h; cases h
        | some ns =>
          rw [hns] at h
          dsimp only at h
          cases hln : linesN s ns with
          | none => rw [hln] at h; cases h
          | some p2 =>
            obtain ⟨k2, ns2⟩ := p2
            rw [hln] at h
            dsimp only at h
            split at h
            · cases h
            cases h
            obtain ⟨e1, e2⟩ := numsL_some hns
            have en : ws = (if s.name = true then [nm] else []) ++ ws2 ∧ (s.name = true → nmB nm = true) ∧ (s.name = false → nm = []) := by
              unfold nameW at hn
              cases hsn : s.name with
              | false => rw [hsn] at hn; simp at hn; simp [hn.1, hn.2]
              | true =>
                rw [hsn] at hn
                simp only [if_true] at hn
                cases ws with
                | nil => cases hn
                | cons a r =>
                  dsimp only at hn
                  split at hn
                  · rename_i ha
                    cases hn; simp [ha]
                  · cases hn
            have el : ns = ns2 ++ (if s.text = true then [(k : Int)] else []) ∧ (s.text = false → k = 0) := by
              unfold linesN at hln
              cases hst : s.text with
              | false => rw [hst] at hln; simp at hln; simp [hln.1, hln.2]
              | true =>
                rw [hst] at hln
                simp only [if_true] at hln
                cases hg : ns.getLast? with
                | none => rw [hg] at hln; cases hln
                | some x =>
                  rw [hg] at hln
                  dsimp only at hln
                  split at hln
                  · cases hln
                  · rename_i hx
                    cases hln
                    have hne : ns ≠ [] := by rintro rfl; simp at hg
                    have := List.dropLast_concat_getLast hne
                    rw [List.getLast?_eq_some_getLast hne] at hg
                    cases hg
                    refine ⟨?_, fun e => by cases e⟩
                    simp only [if_true]
                    rw [show ((ns.getLast hne).toNat : Int) = ns.getLast hne by omega]
                    exact this.symm
            refine ⟨s, hm, rfl, rfl, fun n hn2 => e2 n (by rw [el.1]; simp only [List.mem_append]; exact .inl hn2), en.2.1, en.2.2, el.2, ?_⟩
            rw [← join_splitL line, hw, hwd, en.1, e1, el.1]
            cases hst : s.text <;> simp
theorem read1_ok {s rest : List UInt8} {c : Cm} (h : read1 s = .ok c rest) : okC c = true ∧ Fits c ∧ fmtC c ++ rest = s := by
  unfold read1 at h
  cases h1 : cutL s with
  | none => rw [h1] at h; cases h
  | some p =>
    obtain ⟨first, r⟩ := p
    rw [h1] at h
    dsimp only at h
    cases h2 : headL first with
    | none => rw [h2] at h; cases h
    | some p2 =>
      obtain ⟨c0, k⟩ := p2
      rw [h2] at h
      dsimp only at h
      cases h3 : takeL k r with
      | none => rw [h3] at h; cases h
      | some p3 =>
        obtain ⟨t, q⟩ := p3
        rw [h3] at h
        dsimp only at h
        split at h
        · rename_i hok
          cases h
          obtain ⟨sh, hm, hk, ht, hfit, _, _, hz, hline⟩ := headL_some h2
          obtain ⟨e1, e2⟩ := cutL_some h1
          obtain ⟨e3, e4, _⟩ := takeL_some h3
          refine ⟨hok, hfit, ?_⟩
          unfold fmtC
          rw [show ({ c0 with text := t } : Cm).kind = sh.kind from hk, (shp_all sh hm).1]
          dsimp only
          rw [e1, e3, hline, ← e4]
          unfold wordsC
          simp
        · cases h

/-! ### Scripts -/
theorem fmtC_pos {c : Cm} (h : okC c = true) : 0 < (fmtC c).length := by
  obtain ⟨s, hs⟩ := okC_iff.1 h
  unfold fmtC; rw [hs.f]; simp; omega
theorem prs_fuel : ∀ (f f' : Nat) (s : List UInt8) (acc : List Cm) (line : Nat), s.length < f → s.length < f' → prs f s acc line = prs f' s acc line
  | 0, _, s, _, _, h, _ => by omega
  | f + 1, 0, s, _, _, _, h => by omega
  | f + 1, f' + 1, s, acc, line, h, h' => by
    rw [prs, prs]
    split
    · rfl
    split
    · rfl
    cases hr : read1 s with
    | err e => rfl
    | ok c rest =>
      dsimp only
      obtain ⟨h1, _, h2⟩ := read1_ok hr
      have := fmtC_pos h1
      have hl := congrArg List.length h2
      rw [List.length_append] at hl
      exact prs_fuel f f' rest _ _ (by omega) (by omega)
theorem fmtL_cons (c : Cm) (l : List Cm) : fmtL (c :: l) = fmtC c ++ fmtL l := rfl
theorem fmtL_append (a b : List Cm) : fmtL (a ++ b) = fmtL a ++ fmtL b := by unfold fmtL; simp
theorem prs_fmt : ∀ (l : List Cm) (f : Nat) (s : List UInt8) (acc : List Cm) (line : Nat), (∀ c ∈ l, okC c = true ∧ Fits c) → acc.length + l.length ≤ 1000 → (fmtL l ++ s).length < f → prs f (fmtL l ++ s) acc line = prs (s.length + 1) s (acc ++ l) (line + (l.map lnC).sum)
  | [], f, s, acc, line, _, _, hf => by
    rw [List.append_nil]
    show prs f s acc line = prs (s.length + 1) s acc (line + 0)
    exact prs_fuel _ _ _ _ _ hf (by omega)
  | c :: l, 0, s, acc, line, _, _, hf => by omega
  | c :: l, f + 1, s, acc, line, h, hn, hf => by
    obtain ⟨h1, h2⟩ := h c (by simp)
    have hp := fmtC_pos h1
    rw [fmtL_cons, List.append_assoc] at hf ⊢
    rw [prs, if_neg (by intro e; have := congrArg List.length e; rw [List.length_append] at this; simp only [List.length_nil] at this; omega), if_neg (by simp at hn; omega), read1_fmt h1 h2]
    dsimp only
    rw [prs_fmt l f s (acc ++ [c]) (line + lnC c) (fun x hx => h x (by simp [hx])) (by simp at hn ⊢; omega) (by simp at hf ⊢; omega), List.append_assoc, List.map_cons, List.sum_cons, Nat.add_assoc]
    rfl
theorem parse_fmt {l : List Cm} (h : okL l = true) (hf : ∀ c ∈ l, Fits c) : parseL (fmtL l) = .ok l := by
  unfold okL at h
  simp only [Bool.and_eq_true, decide_eq_true_eq, List.all_eq_true] at h
  have := prs_fmt l ((fmtL l).length + 1) [] [] 1 (fun c hc => ⟨h.2 c hc, hf c hc⟩) (by simpa using h.1) (by simp)
  rw [List.append_nil] at this
  unfold parseL
  rw [this, List.nil_append]
  rfl
theorem prs_ok : ∀ (f : Nat) (s : List UInt8) (acc l : List Cm) (line : Nat), s.length < f → acc.length ≤ 1000 → prs f s acc line = .ok l → ∃ l', l = acc ++ l' ∧ fmtL l' = s ∧ (∀ c ∈ l', okC c = true ∧ Fits c) ∧ l.length ≤ 1000
  | 0, s, _, _, _, h, _, _ => by omega
  | f + 1, s, acc, l, line, hf, ha, h => by
    rw [prs] at h
    split at h
    · rename_i hs
      cases h
      exact ⟨[], by simp, by rw [hs]; rfl, fun c hc => by simp at hc, ha⟩
    split at h
    · cases h
    rename_i h1000
    cases hr : read1 s with
    | err e => rw [hr] at h; cases h
    | ok c rest =>
      rw [hr] at h
      dsimp only at h
      obtain ⟨h1, h2, h3⟩ := read1_ok hr
      have hp := fmtC_pos h1
      have hl := congrArg List.length h3
      rw [List.length_append] at hl
      obtain ⟨l', e1, e2, e3, e4⟩ := prs_ok f rest (acc ++ [c]) l _ (by omega) (by simp; omega) h
      refine ⟨c :: l', by rw [e1]; simp, by rw [fmtL_cons, e2, h3], fun x hx => ?_, e4⟩
      rcases List.mem_cons.1 hx with e | e
      · rw [e]; exact ⟨h1, h2⟩
      · exact e3 x e
theorem parse_ok {s : List UInt8} {l : List Cm} (h : parseL s = .ok l) : okL l = true ∧ (∀ c ∈ l, Fits c) ∧ fmtL l = s := by
  obtain ⟨l', e1, e2, e3, e4⟩ := prs_ok _ s [] l 1 (by omega) (by simp) h
  rw [List.nil_append] at e1
  subst e1
  refine ⟨?_, fun c hc => (e3 c hc).2, e2⟩
  unfold okL
  simp only [Bool.and_eq_true, decide_eq_true_eq, List.all_eq_true]
  exact ⟨e4, fun c hc => (e3 c hc).1⟩
theorem prs_line : ∀ (f : Nat) (s : List UInt8) (acc : List Cm) (line n : Nat) (e : Int), prs f s acc line = .err n e → line ≤ n
  | 0, _, _, _, _, _, h => by cases h
  | f + 1, s, acc, line, n, e, h => by
    rw [prs] at h
    split at h
    · cases h
    split at h
    · cases h; omega
    cases hr : read1 s with
    | err e => rw [hr] at h; cases h; omega
    | ok c rest =>
      rw [hr] at h
      have := prs_line f rest _ _ n e h
      omega

end Go.Proofs.YtklljdjeobifiaaDoor
