/-
  script.readFirst: the walk.
-/
import Derived.Test.YtklljdjeobifiaaDoorScrTake
import Derived.Deep.DeepCutAuto
namespace Go.Proofs.YtklljdjeobifiaaDoor
open Go.ChangeShapes Go.WideShapes Go.ChangeAt Go.RowKit Go.Sort Go.Maps

theorem Bx.set4 {w : World} {b : Nat} {u0 u1 u2 u3 : Value} (h : Bx w b #[u0, u1, u2, u3]) (v0 v1 v2 v3 : Value) : Bx ((((w.setCell ⟨b, 0, none⟩ v0).setCell ⟨b, 1, none⟩ v1).setCell ⟨b, 2, none⟩ v2).setCell ⟨b, 3, none⟩ v3) b #[v0, v1, v2, v3] :=
  (((h.set 0 v0).set 1 v1).set 2 v2).set 3 v3
theorem below_set4 {B : Nat} {a w : World} (h : Below B a w) {b : Nat} (hb : B ≤ b) (v0 v1 v2 v3 : Value) : Below B a ((((w.setCell ⟨b, 0, none⟩ v0).setCell ⟨b, 1, none⟩ v1).setCell ⟨b, 2, none⟩ v2).setCell ⟨b, 3, none⟩ v3) :=
  (((h.setCell (p := ⟨b, 0, none⟩) hb v0).setCell (p := ⟨b, 1, none⟩) hb v1).setCell (p := ⟨b, 2, none⟩) hb v2).setCell (p := ⟨b, 3, none⟩) hb v3
theorem headL_none {line : List UInt8} {w0 : List UInt8} {ws : List (List UInt8)} (h : splitL line = w0 :: ws) (hl : lookW w0 = none) : headL line = none := by
  unfold headL; rw [h]; dsimp only; rw [hl]
theorem headL_of {line : List UInt8} {w0 : List UInt8} {ws : List (List UInt8)} {s : Shp} (h : splitL line = w0 :: ws) (hl : lookW w0 = some s) : headL line = (match nameW s ws with
    | none => none
    | some p => match numsL p.2 with
      | none => none
      | some ns => match linesN s ns with
        | none => none
        | some q => if s.nums ≠ -1 ∧ (q.2.length : Int) ≠ s.nums then none else some (⟨s.kind, p.1, [], q.2⟩, q.1)) := by
  unfold headL; rw [h]; dsimp only; rw [hl]; dsimp only
  cases nameW s ws with
  | none => rfl
  | some p =>
    obtain ⟨nm, w2⟩ := p
    dsimp only
    cases numsL w2 with
    | none => rfl
    | some ns =>
      dsimp only
      cases linesN s ns with
      | none => rfl
      | some q => rfl
theorem strs_tail {w : World} {b o : Nat} {x : ByteArray} {l : List ByteArray} (h : StrsAt w (some ⟨b, o, none⟩) (x :: l)) : StrsAt w (some ⟨b, o + 1, none⟩) l := fun k y hk => by
  obtain ⟨b', o', e, h1⟩ := h (k + 1) y (by simpa using hk)
  cases e
  exact ⟨_, _, rfl, by rw [show o + 1 + k = o + (k + 1) by omega]; exact h1⟩
theorem strs_nil (w : World) (A : Option Addr) : StrsAt w A [] := fun k x hk => by simp at hk
theorem StrsAt.fr {w w' : World} {m : Nat → Prop} {b o : Nat} {l : List ByteArray} (h : StrsAt w (some ⟨b, o, none⟩) l) (hf : Fr w w' m) (hn : ¬ m b) : StrsAt w' (some ⟨b, o, none⟩) l := fun k y hk => by
  obtain ⟨b', o', e, h1⟩ := h k y hk
  cases e
  exact ⟨_, _, rfl, hf.cell h1 hn⟩
theorem fr_set_drew (w : World) (a : Addr) (u : Value) : Fr w (w.drew.setCell a u) (fun k => k = a.block) :=
  have h := Fr.of_set w.drew a u
  ⟨h.os, h.tape, h.output, h.size, h.block⟩
def cmd0 : Value := .agg #[.int .u8 0, .string ⟨#[]⟩, .string ⟨#[]⟩, .slice none 0 0]
def RetHead (line : List UInt8) (w : World) (e : Ending) (w' : World) : Prop :=
  Below w.heap.size w w' ∧ ((headL line = none ∧ e = .returned (.tuple #[cmd0, .int .i64 0, .bool false])) ∨
    ∃ c k A cap, headL line = some (c, k) ∧ k ≤ 9223372036854775807 ∧ IntsAt w' A c.nums ∧ (∀ b o, A = some ⟨b, o, none⟩ → w.heap.size ≤ b) ∧ e = .returned (.tuple #[.agg #[.int .u8 c.kind, .string (bs c.name), .string ⟨#[]⟩, .slice A c.nums.length cap], .int .i64 (k : Nat), .bool true]))
theorem split_any (l : List UInt8) (w : World) (hl : l.length < 4294967281) (h : Wld w) :
    Calls Tryd.prog 62 #[.string (bs l), .string ⟨#[32]⟩] w fun e w' => e = .returned (.slice (some ⟨w.heap.size, 0, none⟩) (splitL l).length (splitL l).length) ∧ w' = w.alloc (.cells (((splitL l).map bs).map Value.string).toArray 9) := by
  obtain ⟨m, hm⟩ := h.mx
  have := Tryd.strings_Split (bs l) ⟨#[32]⟩ m w (by rw [bs_size]; exact hl) hm (by decide)
  obtain ⟨e1, e2⟩ := split_bs l.length l (Nat.le_refl _)
  rw [e2, e1] at this
  exact this
theorem splitL_len : ∀ (l : List UInt8), (splitL l).length ≤ l.length + 1 ∧ ∀ x ∈ splitL l, x.length ≤ l.length
  | [] => by simp [splitL]
  | b :: l => by
    obtain ⟨h1, h2⟩ := splitL_len l
    rw [splitL]
    split
    · refine ⟨by simp; omega, fun x hx => ?_⟩
      rcases List.mem_cons.1 hx with e | e
      · rw [e]; simp
      · have := h2 x e; simp; omega
    · cases hs : splitL l with
      | nil => simp [consH]
      | cons a r =>
        rw [hs] at h1 h2
        refine ⟨by simp [consH] at h1 ⊢; omega, fun x hx => ?_⟩
        rcases List.mem_cons.1 hx with e | e
        · rw [e]; have := h2 a (by simp); simp; omega
        · have := h2 x (by simp [e]); simp; omega
/-- Behind the look-up. -/
structure HdL (W2 : World) (sh : Sh) (bH : Nat) (wc : World) : Prop where
  le : Below W2.heap.size W2 wc
  ge : W2.heap.size ≤ bH
  bH : Bx wc bH #[.int .u8 sh.k, .bool sh.n, .int .i64 sh.m, .bool sh.t]
/-- Behind the name. -/
structure HdA (w : World) (bR bH bC : Nat) (A : Option Addr) (s : Shp) (nm : List UInt8) (ws : List (List UInt8)) (wc : World) : Prop where
  le : Below w.heap.size w wc
  row : StrsAt wc A (ws.map bs)
  fR : Bx wc bR #[.int .u8 0, .string ⟨#[]⟩, .string ⟨#[]⟩, .slice none 0 0]
  fH : Bx wc bH #[.int .u8 s.kind, .bool s.name, .int .i64 s.nums, .bool s.text]
  fC : Bx wc bC #[.int .u8 s.kind, .string (bs nm), .string ⟨#[]⟩, .slice none 0 0]
  blk : ∀ b o, A = some ⟨b, o, none⟩ → b < bC
def NameR (w : World) (bR bH bC : Nat) (s : Shp) (ws : List (List UInt8)) (v ok : Value) (wc : World) : Prop :=
  (nameW s ws = none ∧ ok = .bool false ∧ Below w.heap.size w wc ∧ Bx wc bR #[.int .u8 0, .string ⟨#[]⟩, .string ⟨#[]⟩, .slice none 0 0]) ∨
  ∃ nm ws2 A, nameW s ws = some (nm, ws2) ∧ ok = .bool true ∧ v = .slice A ws2.length ws2.length ∧ HdA w bR bH bC A s nm ws2 wc

/-- In the loop over the numbers. -/
structure HdN (w : World) (bR bH bC base : Nat) (A : Option Addr) (s : Shp) (nm : List UInt8) (ws : List (List UInt8)) (j : Nat) (ns : List Int) (vN : Value) (wr : World) : Prop where
  le : Below w.heap.size w wr
  eq : ws.take j = ns.map Lib.itoa
  fit : ∀ n ∈ ns, -9223372036854775808 ≤ n ∧ n ≤ 9223372036854775807
  own : wr.ownsRow base 3 1 vN ns.length (ns.map (Value.int .i64))
  row : StrsAt wr A (ws.map bs)
  fR : Bx wr bR #[.int .u8 0, .string ⟨#[]⟩, .string ⟨#[]⟩, .slice none 0 0]
  fH : Bx wr bH #[.int .u8 s.kind, .bool s.name, .int .i64 s.nums, .bool s.text]
  fC : Bx wr bC #[.int .u8 s.kind, .string (bs nm), .string ⟨#[]⟩, vN]
  sz : base ≤ wr.heap.size
theorem HdN.below {w : World} {bR bH bC base : Nat} {A : Option Addr} {s : Shp} {nm : List UInt8} {ws : List (List UInt8)} {j : Nat} {ns : List Int} {vN : Value} {wr wx : World} (h : HdN w bR bH bC base A s nm ws j ns vN wr) (hb : Below wr.heap.size wr wx) : HdN w bR bH bC base A s nm ws j ns vN wx :=
  ⟨below_step h.le h.le.size hb, h.eq, h.fit, own_below h.own hb, h.row.mono hb, h.fR.below hb, h.fH.below hb, h.fC.below hb, Nat.le_trans h.sz hb.size⟩
theorem HdN.bad {w : World} {bR bH bC base : Nat} {A : Option Addr} {s : Shp} {nm : List UInt8} {ws : List (List UInt8)} {j : Nat} {ns : List Int} {vN : Value} {wr : World} (_ : HdN w bR bH bC base A s nm ws j ns vN wr) (hj : j < ws.length) (hx : numO ws[j] = none) : numsL ws = none := by
  cases hq : numsL ws with
  | none => rfl
  | some ms =>
    obtain ⟨e1, e2⟩ := numsL_some hq
    subst e1
    rw [List.getElem_map] at hx
    obtain ⟨b0, b1⟩ := e2 _ (List.getElem_mem (by simpa using hj))
    rw [numO_itoa b0 b1] at hx
    cases hx
theorem HdN.end_ {w : World} {bR bH bC base : Nat} {A : Option Addr} {s : Shp} {nm : List UInt8} {ws : List (List UInt8)} {ns : List Int} {vN : Value} {wr : World} (h : HdN w bR bH bC base A s nm ws ws.length ns vN wr) : numsL ws = some ns := by
  have := h.eq
  rw [List.take_length] at this
  rw [this]
  exact numsL_map ns h.fit
theorem HdN.push {w : World} {bR bH bC base : Nat} {A : Option Addr} {s : Shp} {nm : List UInt8} {ws : List (List UInt8)} {j : Nat} {ns : List Int} {vN : Value} {wx w6 : World} {v' : Value} {x : Int} (h : HdN w bR bH bC base A s nm ws j ns vN wx) (hj : j < ws.length) (hx : numO ws[j] = some x)
    (hg : wx.grownBy w6 vN.ownBlock) (hown : w6.ownsRow base 3 1 v' (ns.length + 1) (ns.map (Value.int .i64) ++ [.int .i64 x]))
    (h1 : bR < bC) (h2 : bH < bC) (h3 : bC < base) (h4 : w.heap.size ≤ bC) (hA : ∀ b o, A = some ⟨b, o, none⟩ → b < bC) : HdN w bR bH bC base A s nm ws (j + 1) (ns ++ [x]) v' (w6.setCell ⟨bC, 3, none⟩ v') := by
  obtain ⟨e1, e2, e3⟩ := numO_some hx
  have hge := fun k hk => own_block_geB h.own k hk
  have hge' := fun k hk => own_block_geB hown k hk
  have f1 : Fr wx w6 (fun k => base ≤ k) := (Fr.of_grown hg).mono fun k _ e => hge k e.symm
  have f2 : Fr wx (w6.setCell ⟨bC, 3, none⟩ v') (fun k => base ≤ k ∨ k = bC) := (f1.mono fun k _ e => .inl e).trans (Fr.of_set w6 ⟨bC, 3, none⟩ v') fun k _ e => .inr e
  have own2 := Fr.own (Fr.of_set w6 ⟨bC, 3, none⟩ v') hown fun g hg e => by
    have := hge' g hg
    have e : g = bC := e
    omega
  refine ⟨f2.toBelow h.le h.le.size fun k e => by rcases e with e | e <;> omega, ?_, ?_, ?_, ?_, h.fR.fr f2 (fun e => by rcases e with e | e <;> omega), h.fH.fr f2 (fun e => by rcases e with e | e <;> omega), (h.fC.fr f1 (fun e => by omega)).set 3 v', Nat.le_trans h.sz f2.size⟩
  · rw [List.take_succ_eq_append_getElem hj, h.eq, List.map_append, ← e1]; rfl
  · intro n hn
    rcases List.mem_append.1 hn with hn | hn
    · exact h.fit n hn
    · rw [List.mem_singleton.1 hn]; exact ⟨e2, e3⟩
  · rw [List.length_append, List.map_append]; exact own2
  · intro k y hk
    obtain ⟨b, o, e, c⟩ := h.row k y hk
    have := hA b o e
    exact ⟨b, o, e, f2.cell c (fun e => by
      have e : base ≤ b ∨ b = bC := e
      rcases e with e | e <;> omega)⟩

theorem snoc_or (l : List Int) : l = [] ∨ ∃ r x, l = r ++ [x] := by
  rcases List.eq_nil_or_concat l with h | ⟨r, x, h⟩
  · exact .inl h
  · exact .inr ⟨r, x, by rw [h, List.concat_eq_append]⟩
theorem nameW_mem {s : Shp} {ws ws2 : List (List UInt8)} {nm : List UInt8} (h : nameW s ws = some (nm, ws2)) : ws2.length ≤ ws.length ∧ ∀ x ∈ ws2, x ∈ ws := by
  unfold nameW at h
  split at h
  · cases ws with
    | nil => cases h
    | cons a r =>
      dsimp only at h
      split at h
      · cases h; exact ⟨by simp, fun x hx => by simp [hx]⟩
      · cases h
  · cases h; exact ⟨Nat.le_refl _, fun x hx => hx⟩
theorem HdN.cell3 {w : World} {bR bH bC base : Nat} {A : Option Addr} {s : Shp} {nm : List UInt8} {ws : List (List UInt8)} {j : Nat} {ns : List Int} {vN : Value} {wx w6 : World} (h : HdN w bR bH bC base A s nm ws j ns vN wx) (hg : wx.grownBy w6 vN.ownBlock) (h3 : bC < base) : Bx w6 bC #[.int .u8 s.kind, .string (bs nm), .string ⟨#[]⟩, vN] :=
  h.fC.fr (Fr.of_grown hg) fun e => by
    have := own_block_geB h.own bC e.symm
    omega
/-- Behind the number of lines. -/
structure LinR (w : World) (bR bH bC : Nat) (s : Shp) (nm : List UInt8) (ns : List Int) (k : Nat) (ns2 : List Int) (A : Option Addr) (c : Nat) (wk : World) : Prop where
  ln : linesN s ns = some (k, ns2)
  kb : k ≤ 9223372036854775807
  le : Below w.heap.size w wk
  ints : IntsAt wk A ns2
  fR : Bx wk bR #[.int .u8 0, .string ⟨#[]⟩, .string ⟨#[]⟩, .slice none 0 0]
  fH : Bx wk bH #[.int .u8 s.kind, .bool s.name, .int .i64 s.nums, .bool s.text]
  fC : Bx wk bC #[.int .u8 s.kind, .string (bs nm), .string ⟨#[]⟩, .slice A ns2.length c]
  blk : ∀ b o, A = some ⟨b, o, none⟩ → w.heap.size < b

set_option maxRecDepth 100000 in
set_option maxHeartbeats 4000000 in
theorem readFirst_any (line : List UInt8) (w : World) (hW : Wld w) (hl : line.length ≤ 4294967280) :
    Calls Tryd.prog 47 #[.string (bs line)] w (RetHead line w) := by
  have HWl := Lib.hid hW
  obtain ⟨hn1, hn2⟩ := splitL_len line
  have HN2 := Lib.hid hn2
  have bb := below_box w (Obj.cells #[.int .u8 0, .string ⟨#[]⟩, .string ⟨#[]⟩, .slice none 0 0] 42)
  have br := bx_new w #[.int .u8 0, .string ⟨#[]⟩, .string ⟨#[]⟩, .slice none 0 0] 42
  have HSP := Lib.hid (fun (W : World) (h : Wld W) => split_any line W (by omega) h)
  cases hws : splitL line with
  | nil => exact absurd hws (splitL_ne line)
  | cons w0 ws =>
  rw [hws] at hn1 HN2 HSP
  have HWS := Lib.hid hws
  clear hW hn2 hws
  go_enter Tryd.func47, Tryd.ntmps47
  go_wp2_with fail
  have HW1 := Lib.hid (HWl.out.below bb)
  generalize w.alloc _ = W1 at bb br HW1 ⊢
  refine (HSP.out W1 HW1.out).mono ?_
  rintro e W2 ⟨rfl, hw2⟩
  have b2 := below_box W1 (Obj.cells (((w0 :: ws).map bs).map Value.string).toArray 9)
  have st2 := strs_new W1 9 ((w0 :: ws).map bs) _ rfl
  rw [← hw2] at b2 st2
  clear hw2
  have q2 := Lib.hid (below_step bb bb.size b2)
  have br2 := Lib.hid (br.below b2)
  clear bb br b2
  have st2d := Lib.hid (show StrsAt W2.drew (some ⟨W1.heap.size, 0, none⟩) ((w0 :: ws).map bs) from st2)
  obtain ⟨_, _, e, c0⟩ := st2d.out 0 (bs w0) rfl
  cases e
  have hsz0 : (bs w0).size ≤ maxLen := by rw [bs_size]; have := HN2.out w0 (by simp); unfold maxLen; omega
  have hlt2 : W1.heap.size < W2.drew.heap.size := block_lt_of_cell c0
  have HLK := Lib.hid (shEnv_look (bs w0))
  rw [data_bs] at HLK
  go_upto_region 2 with fail
  obtain ⟨sk, sn, sm, sx, HSH⟩ : ∃ sk sn sm sx, Hid (((lookW w0).map shOf).getD shZ = ⟨sk, sn, sm, sx⟩) := ⟨_, _, _, _, rfl⟩
  obtain ⟨okb, HOKB⟩ : ∃ b, Hid (((lookW w0).map shOf).isSome = b) := ⟨_, rfl⟩
  go_cut [6, 7] (fun p ok wc => ∃ bH, p = .pointer (some ⟨bH, 0, none⟩) ∧ ok = .bool okb ∧ Hid (HdL W2 ⟨sk, sn, sm, sx⟩ bH wc))
  case first =>
    have hbd := Lib.hid (belowDrawn (Below.refl W2.heap.size W2))
    have bz := below_box W2.drew (Obj.cells #[.int .u8 0, .bool false, .int .i64 0, .bool false] 51)
    have hbz := Lib.hid (below_step hbd.out hbd.out.size bz)
    have c0b : (W2.alloc (Obj.cells #[.int .u8 0, .bool false, .int .i64 0, .bool false] 51)).drew.cell? ⟨W1.heap.size, 0, none⟩ = some (.string (bs w0)) := below_cell bz c0
    have c0c : (W2.alloc (Obj.cells #[.int .u8 0, .bool false, .int .i64 0, .bool false] 51)).cell? ⟨W1.heap.size, 0, none⟩ = some (.string (bs w0)) := c0b
    have c0d : W2.cell? ⟨W1.heap.size, 0, none⟩ = some (.string (bs w0)) := c0
    have hlt2' : W1.heap.size < W2.heap.size := hlt2
    have SZ := Lib.hid (show Bx (W2.drew.alloc (Obj.cells #[.int .u8 0, .bool false, .int .i64 0, .bool false] 51)) W2.heap.size #[.int .u8 0, .bool false, .int .i64 0, .bool false] from bx_new W2.drew #[.int .u8 0, .bool false, .int .i64 0, .bool false] 51)
    clear bz
    go_region_law (first | (go_simp; go_at_call 34; refine (shapes_any _).mono ?_; rintro e w3 ⟨b3, rfl, _, hm3, hb3⟩; have hlk := mapS_look (t := 72) Tryd.underlying72 hm3 (bs w0) hsz0; rw [HLK.out, HSH.out, HOKB.out] at hlk; unfold shV at hlk; dsimp only at hlk; have hlk2 := mapS_look (t := 72) Tryd.underlying72 (hm3.below (below_box w3 (Obj.cells #[.int .u8 0, .bool false, .int .i64 0, .bool false] 51))) (bs w0) hsz0; rw [HLK.out, HSH.out, HOKB.out] at hlk2; unfold shV at hlk2; dsimp only at hlk2; first | (have c3 := below_cell hb3 c0; have c4 := below_cell (below_box w3 (Obj.cells #[.int .u8 0, .bool false, .int .i64 0, .bool false] 51)) c3; have q3 := Lib.hid (below_step hbd.out hbd.out.size hb3); clear hm3 hb3) | (have c3 := below_cell hb3 c0b; have q4 := Lib.hid (below_step hbz.out hbz.out.size hb3); have S3 := Lib.hid (SZ.out.below hb3); obtain ⟨s0, s1, s2, s3, t0, t1, t2, t3⟩ := S3.out.four; clear hm3 hb3)) | fail)
    all_goals
      go_wp2_with fail
      go_meet
      first
        | exact ⟨_, rfl, rfl, ⟨below_step q3.out q3.out.size (below_box _ _), q3.out.size, bx_new w3 _ _⟩⟩
        | exact ⟨_, rfl, rfl, ⟨below_set4 q4.out (Nat.le_refl _) _ _ _ _, Nat.le_refl _, S3.out.set4 _ _ _ _⟩⟩
  case rest =>
    obtain ⟨bH, rfl, rfl, hL⟩ := hcut
    obtain ⟨wL, rfl⟩ : ∃ x, x = wc := ⟨wc, rfl⟩
    go_upto_region 3 with fail
    go_cut [5] (fun v wc => ∃ A, v = .slice A ws.length ws.length ∧ Hid ((ws = [] ∨ A = some ⟨W1.heap.size, 1, none⟩) ∧ ∀ b o, A = some ⟨b, o, none⟩ → b = W1.heap.size) ∧ wc = wL)
    case first =>
      rcases Nat.eq_zero_or_pos ws.length with h0 | h0
      · go_wp2_with fail
        go_meet
        exact ⟨_, by rw [h0], ⟨.inl (List.length_eq_zero_iff.1 h0), fun b o e => by cases e; rfl⟩, rfl⟩
      · have h0' : ws.length ≠ 0 := by omega
        go_wp2_with fail
        go_meet
        exact ⟨_, rfl, ⟨.inr rfl, fun b o e => by cases e; rfl⟩, rfl⟩
    case rest =>
    obtain ⟨A1, rfl, hA1, rfl⟩ := hcut
    have b4 := below_box wc (Obj.cells #[.int .u8 sk, .string ⟨#[]⟩, .string ⟨#[]⟩, .slice none 0 0] 42)
    have cb := bx_new wc #[.int .u8 sk, .string ⟨#[]⟩, .string ⟨#[]⟩, .slice none 0 0] 42
    have hb := below_step hL.out.le hL.out.le.size b4
    have q4 := Lib.hid (below_step q2.out q2.out.size hb)
    have br4 := Lib.hid (br2.out.below hb)
    have ST4 := Lib.hid (st2.mono hb)
    have HB4 := Lib.hid (show Bx _ bH #[.int .u8 sk, .bool sn, .int .i64 sm, .bool sx] from hL.out.bH.below b4)
    obtain ⟨h0, h1, h2, h3, _⟩ := (show Bx wc bH #[.int .u8 sk, .bool sn, .int .i64 sm, .bool sx] from hL.out.bH).four
    have hltH := hL.out.bH.lt
    have hltW : W1.heap.size < wc.heap.size := by have := hL.out.le.size; have : W1.heap.size < W2.heap.size := hlt2; omega
    have hltR : w.heap.size < wc.heap.size := by have := br2.out.lt; have := hL.out.le.size; omega
    clear b4 hb hL q2 br2 st2 st2d c0 hlt2
    go_upto_region 5 with fail
    clear h0 h1 h2 h3
    generalize wc.alloc _ = V at cb q4 br4 ST4 HB4 ⊢
    generalize wc.heap.size = bC at *
    cases hlk : lookW w0 with
    | none =>
      rw [hlk] at HSH HOKB
      obtain rfl : false = okb := HOKB.out
      have HN := Lib.hid (headL_none HWS.out hlk)
      clear hlk
      obtain ⟨y0, y1, y2, y3, z0, z1, z2, z3⟩ := br4.out.four
      go_wp2_with fail
      have rbF := br4.out.set4 (.int .u8 0) (.string ⟨#[]⟩) (.string ⟨#[]⟩) (.slice none 0 0)
      have qF := below_set4 q4.out (Nat.le_refl w.heap.size) (.int .u8 0) (.string ⟨#[]⟩) (.string ⟨#[]⟩) (.slice none 0 0)
      obtain ⟨s0, s1, s2, s3, _⟩ := rbF.four
      exact bodyPost_ret (v := .tuple #[cmd0, .int .i64 0, .bool false]) (by simp [results, Tryd.results47, go_sem, cmd0, s0, s1, s2, s3]) rfl ⟨qF, .inl ⟨HN.out, rfl⟩⟩
    | some s =>
      rw [hlk] at HSH HOKB
      obtain rfl : true = okb := HOKB.out
      have h4 := HSH.out
      simp only [Option.map_some, Option.getD_some, shOf, Sh.mk.injEq] at h4
      obtain ⟨rfl, rfl, rfl, rfl⟩ := h4
      have HHS := Lib.hid (headL_of HWS.out hlk)
      clear hlk HLK HOKB HSH HSP
      obtain ⟨h0, h1, h2, h3, _⟩ := HB4.out.four
      have hlb := HB4.out.lt
      go_upto_if 34 with fail
      clear h0 h1 h2 h3
      go_cut [5, 7] (fun v ok wc => Hid (NameR w w.heap.size bH bC s ws v ok wc))
      case first =>
        cases hsn : s.name with
        | false =>
          have HN := Lib.hid (show nameW s ws = some ([], ws) by unfold nameW; rw [hsn]; rfl)
          go_wp2_with fail
          go_meet
          have HRW := Lib.hid (show StrsAt V A1 (ws.map bs) from by
            rcases hA1.out.1 with e | e
            · rw [e]; exact strs_nil _ _
            · rw [e]; exact strs_tail ST4.out)
          exact .inr ⟨[], ws, A1, HN.out, rfl, rfl, ⟨q4.out, HRW.out, br4.out, HB4.out, cb, fun b o e => by rw [hA1.out.2 b o e]; exact hltW⟩⟩
        | true =>
          cases ws with
          | nil =>
            have HN := Lib.hid (show nameW s [] = none by unfold nameW; rw [hsn]; rfl)
            go_wp2_with fail
            go_meet
            exact .inl ⟨HN.out, rfl, q4.out, br4.out⟩
          | cons n r =>
            obtain rfl : A1 = some ⟨W1.heap.size, 1, none⟩ := hA1.out.1.resolve_left (by simp)
            have HN := Lib.hid (show nameW s (n :: r) = if nmB n = true then some (n, r) else none by unfold nameW; rw [hsn]; rfl)
            obtain ⟨_, _, e, c1⟩ := ST4.out 1 (bs n) rfl
            cases e
            have hn9 : (bs n).size ≤ 9223372036854775807 := by rw [bs_size]; have := HN2.out n (by simp); omega
            have HNM := Lib.hid (fun W => lname_any (bs n) W hn9)
            rw [data_bs] at HNM
            go_wp2_with fail
            refine (HNM.out _).mono ?_
            rintro e V2 ⟨rfl, hb2⟩
            have q5 := Lib.hid (below_step q4.out q4.out.size hb2)
            have br5 := Lib.hid (br4.out.below hb2)
            have ST5 := Lib.hid (ST4.out.mono hb2)
            have HB5 := Lib.hid (HB4.out.below hb2)
            have cb5 := cb.below hb2
            have c15 := below_cell hb2 c1
            cases hnm : nmB n with
            | false =>
              have HN2 := Lib.hid (show nameW s (n :: r) = none by rw [HN.out, hnm]; rfl)
              go_wp2_with fail
              go_meet
              exact .inl ⟨HN2.out, rfl, q5.out, br5.out⟩
            | true =>
              have HN2 := Lib.hid (show nameW s (n :: r) = some (n, r) by rw [HN.out, hnm]; rfl)
              obtain ⟨y0, y1, y2, y3, z0, z1, z2, z3⟩ := cb5.four
              go_upto_region 8 with fail
              have hne1 : ¬ bC = W1.heap.size := by omega
              have hne2 : ¬ W1.heap.size = bC := by omega
              have fs := fr_set_drew V2 ⟨bC, 1, none⟩ (.string (bs n))
              have qS := Lib.hid (show Below w.heap.size w (V2.drew.setCell ⟨bC, 1, none⟩ (.string (bs n))) from (belowDrawn q5.out).setCell (p := ⟨bC, 1, none⟩) (Nat.le_of_lt hltR) _)
              have rS := Lib.hid (show Bx (V2.drew.setCell ⟨bC, 1, none⟩ (.string (bs n))) bC #[.int .u8 s.kind, .string (bs n), .string ⟨#[]⟩, .slice none 0 0] from Bx.set (w := V2.drew) cb5 1 (.string (bs n)))
              have brS := Lib.hid (br5.out.fr fs (by show ¬ w.heap.size = bC; omega))
              have HBS := Lib.hid (HB5.out.fr fs (by show ¬ bH = bC; omega))
              have STS := Lib.hid (strs_tail (strs_tail (ST5.out.fr fs (by show ¬ W1.heap.size = bC; omega))))
              clear fs
              rcases Nat.eq_zero_or_pos r.length with h0 | h0
              · have h0' : r = [] := List.length_eq_zero_iff.1 h0
                go_region
                all_goals
                  go_wp2_with fail
                  go_meet
                  exact .inr ⟨n, r, _, HN2.out, rfl, by rw [h0], ⟨qS.out, by rw [h0']; exact strs_nil _ _, brS.out, HBS.out, rS.out, fun b o e => by cases e; exact hltW⟩⟩
              · have h0' : r.length ≠ 0 := by omega
                go_region
                all_goals
                  go_wp2_with fail
                  go_meet
                  exact .inr ⟨n, r, _, HN2.out, rfl, rfl, ⟨qS.out, STS.out, brS.out, HBS.out, rS.out, fun b o e => by cases e; exact hltW⟩⟩
      case rest =>
        rcases hcut.out with ⟨hn, rfl, hq, hbr⟩ | ⟨nm, ws2, A2, hn, rfl, rfl, hA⟩
        · have HN := Lib.hid (show headL line = none by rw [HHS.out, hn])
          clear hcut hn
          obtain ⟨y0, y1, y2, y3, z0, z1, z2, z3⟩ := hbr.four
          go_wp2_with fail
          have rbF := hbr.set4 (.int .u8 0) (.string ⟨#[]⟩) (.string ⟨#[]⟩) (.slice none 0 0)
          have qF := below_set4 hq (Nat.le_refl w.heap.size) (.int .u8 0) (.string ⟨#[]⟩) (.string ⟨#[]⟩) (.slice none 0 0)
          obtain ⟨s0, s1, s2, s3, _⟩ := rbF.four
          exact bodyPost_ret (v := .tuple #[cmd0, .int .i64 0, .bool false]) (by simp [results, Tryd.results47, go_sem, cmd0, s0, s1, s2, s3]) rfl ⟨qF, .inl ⟨HN.out, rfl⟩⟩
        · have HH2 := Lib.hid (show headL line = (match numsL ws2 with
            | none => none
            | some ns => match linesN s ns with
              | none => none
              | some q => if s.nums ≠ -1 ∧ (q.2.length : Int) ≠ s.nums then none else some (⟨s.kind, nm, [], q.2⟩, q.1)) by rw [HHS.out, hn])
          obtain ⟨hw1, hw2⟩ := nameW_mem hn
          have HWL := Lib.hid (fun (x : List UInt8) (hx : x ∈ ws2) => HN2.out x (by simp [hw2 x hx]))
          obtain ⟨j0, hj0, jz0, jz1, jz2⟩ := info_parts info_int
          have HI := Lib.hid (And.intro hj0 (And.intro jz0 (And.intro jz1 jz2)))
          have HN0 := Lib.hid (show HdN w w.heap.size bH bC wc.heap.size A2 s nm ws2 0 [] (.slice none 0 0) wc from ⟨hA.le, rfl, (fun n hn => by simp at hn), World.ownsRow_nil _ _ _ _, hA.row, hA.fR, hA.fH, hA.fC, Nat.le_refl _⟩)
          have HBK := Lib.hid hA.blk
          have hbC : bC < wc.heap.size := hA.fC.lt
          have hwl9 : ws2.length ≤ 4294967281 := by simp at hn1; omega
          clear hA hcut hn hw1 hw2 hj0 jz0 jz1 jz2 HHS
          go_upto_region 12 with fail
          go_loopw [56] (fun i wr => ∃ (j : Nat) (ns : List Int) (vN : Value), j ≤ ws2.length ∧ i = .int .i64 j ∧ Hid (HdN w w.heap.size bH bC wc.heap.size A2 s nm ws2 j ns vN wr)) (fun i _ => ws2.length - (intOf i).toNat)
          case atStart => exact ⟨0, [], _, by omega, rfl, HN0⟩
          case round =>
            obtain ⟨j, ns, vN, hj, rfl, hN⟩ := hrel
            by_cases hjn : j < ws2.length
            · obtain ⟨b, o, rfl, hcell⟩ := hN.out.row.at_ (k := j) (by simpa using hjn)
              rw [List.getElem_map] at hcell
              have HBAD := Lib.hid (fun hx => show headL line = none by rw [HH2.out, hN.out.bad hjn hx])
              have HP := Lib.hid (fun (wx w6 : World) (v' : Value) (x : Int) (h : HdN w w.heap.size bH bC wc.heap.size _ s nm ws2 j ns vN wx) (hx : numO ws2[j] = some x) (hg : wx.grownBy w6 vN.ownBlock) (hown : w6.ownsRow wc.heap.size 3 1 v' (ns.length + 1) (ns.map (Value.int .i64) ++ [.int .i64 x])) => h.push hjn hx hg hown hltR hltH hbC (Nat.le_of_lt hltR) HBK.out)
              have hyl := HWL.out _ (List.getElem_mem hjn)
              have HNL := Lib.hid (show ns.length = j by have := congrArg List.length hN.out.eq; simp at this; omega)
              generalize ws2[j] = y at *
              have HWr := Lib.hid (HWl.out.below hN.out.le)
              have r1 : (0 : Int) ≤ j := by omega
              have r2 : (j : Int) < ws2.length := by omega
              have hlb := block_lt_of_cell hcell
              go_wp2_with fail
              refine (atoi_any y wr (by omega) HWr.out).mono ?_
              rintro e w3 ⟨hb3, h3⟩
              have hN3 := Lib.hid (hN.out.below hb3)
              clear hcell hlb hb3 hN
              rcases h3 with ⟨v, hv, rfl⟩ | ⟨hv, x, N, rfl⟩
              · obtain ⟨v0, v1⟩ := Lib.atoiAll_bounds hv
                have HWr3 := Lib.hid (HWl.out.below hN3.out.le)
                by_cases he : Lib.itoa v = y
                · have he1 : ((bs (Lib.itoa v)).toList == (bs y).toList) = true := by rw [eqS_eq]; simp [he]
                  have HX := Lib.hid (show numO y = some v by unfold numO; rw [hv]; dsimp only; rw [if_pos he])
                  clear hv he
                  go_wp2_with fail
                  refine (itoa_any v w3 HWr3.out v0 v1).mono ?_
                  rintro e w4 ⟨rfl, hb4⟩
                  have hN4 := Lib.hid (hN3.out.below hb4)
                  clear hb4 hN3
                  obtain ⟨y0, y1, y2, y3, z0, z1, z2, z3⟩ := hN4.out.fC.four
                  obtain ⟨Av, cv, rfl, _, _⟩ := own_formB hN4.out.own
                  have HO := Lib.hid (hN4.out.below (below_box w4 (Obj.cells #[.int .i64 v] 3)))
                  have hC3 := Lib.hid (fun (w6 : World) hg => (HO.out.cell3 (w6 := w6) hg hbC).four)
                  go_wp2_with (at_builtin; go_loud (refine wpList_app _ rfl _ _ 40 rfl wc.heap.size 3 j0 (.int .i64 0) 1 8 Tryd.underlying40 HI.out.1 HI.out.2.1 HI.out.2.2.1 HI.out.2.2.2 rfl (by decide) _ _ _ rfl HO.out.own (some ⟨w4.heap.size, 0, none⟩) 1 1 [.int .i64 v] rfl rfl (cells_newU w4 rfl _ _) (one_i64 _) (by have := HNL.out; unfold maxLen; omega) (by have := HNL.out; omega) HO.out.sz ?_; intro v' w6 hown' hgrow _; obtain ⟨A6, c6, rfl, _, _⟩ := own_formB hown'; have NX := Lib.hid (HP.out _ _ _ _ HO.out HX.out hgrow hown'); obtain ⟨_, _, _, s3, _, _, _, t3⟩ := hC3.out w6 hgrow; clear hown' hgrow HO hC3))
                  exact ⟨⟨j + 1, ns ++ [v], _, by omega, by go_num, NX⟩, by simp [intOf]; omega⟩
                · have he1 : ((bs (Lib.itoa v)).toList == (bs y).toList) = false := by
                    rw [eqS_eq]; simp; exact fun e => he (bs_inj e)
                  have HN := Lib.hid (HBAD.out (by unfold numO; rw [hv]; dsimp only; rw [if_neg he]))
                  clear hv he
                  go_wp2_with fail
                  refine (itoa_any v w3 HWr3.out v0 v1).mono ?_
                  rintro e w4 ⟨rfl, hb4⟩
                  have hN4 := Lib.hid (hN3.out.below hb4)
                  clear hb4 hN3
                  obtain ⟨y0, y1, y2, y3, z0, z1, z2, z3⟩ := hN4.out.fR.four
                  go_wp2_with fail
                  have rbF := hN4.out.fR.set4 (.int .u8 0) (.string ⟨#[]⟩) (.string ⟨#[]⟩) (.slice none 0 0)
                  have qF := below_set4 hN4.out.le (Nat.le_refl w.heap.size) (.int .u8 0) (.string ⟨#[]⟩) (.string ⟨#[]⟩) (.slice none 0 0)
                  obtain ⟨s0, s1, s2, s3, _⟩ := rbF.four
                  exact bodyPost_ret (v := .tuple #[cmd0, .int .i64 0, .bool false]) (by simp [results, Tryd.results47, go_sem, cmd0, s0, s1, s2, s3]) rfl ⟨qF, .inl ⟨HN.out, rfl⟩⟩
              · have HN := Lib.hid (HBAD.out (by
                  unfold numO
                  cases ha : Lib.atoiAll y with
                  | ok v => exact absurd ha (hv v)
                  | «syntax» => rfl
                  | range => rfl))
                clear hv
                obtain ⟨y0, y1, y2, y3, z0, z1, z2, z3⟩ := hN3.out.fR.four
                go_wp2_with fail
                have rbF := hN3.out.fR.set4 (.int .u8 0) (.string ⟨#[]⟩) (.string ⟨#[]⟩) (.slice none 0 0)
                have qF := below_set4 hN3.out.le (Nat.le_refl w.heap.size) (.int .u8 0) (.string ⟨#[]⟩) (.string ⟨#[]⟩) (.slice none 0 0)
                obtain ⟨s0, s1, s2, s3, _⟩ := rbF.four
                exact bodyPost_ret (v := .tuple #[cmd0, .int .i64 0, .bool false]) (by simp [results, Tryd.results47, go_sem, cmd0, s0, s1, s2, s3]) rfl ⟨qF, .inl ⟨HN.out, rfl⟩⟩
            · obtain rfl : j = ws2.length := by omega
              have HH3 := Lib.hid (show headL line = (match linesN s ns with
                | none => none
                | some q => if s.nums ≠ -1 ∧ (q.2.length : Int) ≠ s.nums then none else some (⟨s.kind, nm, [], q.2⟩, q.1)) by rw [HH2.out, hN.out.end_])
              obtain ⟨A3, c3, rfl, hints⟩ := ints_of_own hN.out.own
              have hcap : ns.length ≤ c3 := by obtain ⟨_, _, e, hc, _⟩ := own_formB hN.out.own; cases e; exact hc
              have HGE := Lib.hid (fun (b o : Nat) (e : A3 = some ⟨b, o, none⟩) => show wc.heap.size ≤ b from own_block_geB hN.out.own b (by rw [e]; rfl))
              have HNL := Lib.hid <| show ns.length = ws2.length by have := congrArg List.length hN.out.eq; simp at this; omega
              have hle := Lib.hid hN.out.le
              have hfit := Lib.hid hN.out.fit
              have hfR := Lib.hid hN.out.fR
              have hfH := Lib.hid hN.out.fH
              have hfC := Lib.hid hN.out.fC
              have HINT := Lib.hid hints
              clear hN hints HH2
              obtain ⟨h0, h1, h2, h3, _⟩ := hfH.out.four
              have hbH := hfH.out.lt
              go_upto_if 82 with fail
              clear h0 h1 h2 h3
              go_cut [13] (fun v wk => ∃ (k : Nat) (ns2 : List Int) (A : Option Addr) (c : Nat), v = .int .i64 k ∧ Hid (LinR w w.heap.size bH bC s nm ns k ns2 A c wk))
              case first =>
                cases hsx : s.text with
                | false =>
                  have HL := Lib.hid (show linesN s ns = some (0, ns) by unfold linesN; rw [hsx]; rfl)
                  go_wp2_with fail
                  go_meet
                  exact ⟨0, ns, A3, c3, rfl, ⟨HL.out, by omega, hle.out, HINT.out, hfR.out, hfH.out, hfC.out, fun b o e => by have := HGE.out b o e; omega⟩⟩
                | true =>
                  obtain ⟨c0, c1, c2, c3', d0, d1, d2, d3⟩ := hfC.out.four
                  have hbCl := hfC.out.lt
                  rcases snoc_or ns with rfl | ⟨ns2, x, rfl⟩
                  · have HN := Lib.hid (show headL line = none by rw [HH3.out]; unfold linesN; rw [hsx]; rfl)
                    obtain ⟨y0, y1, y2, y3, z0, z1, z2, z3⟩ := hfR.out.four
                    go_wp2_with fail
                    have rbF := hfR.out.set4 (.int .u8 0) (.string ⟨#[]⟩) (.string ⟨#[]⟩) (.slice none 0 0)
                    have qF := below_set4 hle.out (Nat.le_refl w.heap.size) (.int .u8 0) (.string ⟨#[]⟩) (.string ⟨#[]⟩) (.slice none 0 0)
                    obtain ⟨s0, s1, s2, s3, _⟩ := rbF.four
                    exact bodyPost_ret (v := .tuple #[cmd0, .int .i64 0, .bool false]) (by simp [results, Tryd.results47, go_sem, cmd0, s0, s1, s2, s3]) rfl ⟨qF, .inl ⟨HN.out, rfl⟩⟩
                  · have HLX := Lib.hid (show linesN s (ns2 ++ [x]) = if x < 0 then none else some (x.toNat, ns2) by
                      unfold linesN; rw [hsx]; simp only [if_true]; rw [List.getLast?_concat, List.dropLast_concat])
                    have hxl : (ns2 ++ [x]).length = ns2.length + 1 := by simp
                    obtain ⟨b, o, rfl, hcx⟩ := HINT.out.at_ (k := ns2.length) (by rw [hxl]; omega)
                    rw [List.getElem_concat_length rfl] at hcx
                    have hxb := hfit.out x (by simp)
                    have HI2 := Lib.hid (show IntsAt wr (some ⟨b, o, none⟩) ns2 from fun k y hk => HINT.out k y (by rw [List.getElem?_append_left (List.getElem?_eq_some_iff.1 hk).1]; exact hk))
                    rw [hxl] at c3' hfC hcap
                    have hcap2 : ns2.length ≤ c3 := by omega
                    have hlbx := block_lt_of_cell hcx
                    have hm9 : ns2.length + 1 ≤ 4294967281 := by have := HNL.out; rw [hxl] at this; omega
                    have i0 : (0 : Int) ≤ ns2.length := by omega
                    have i1 : (ns2.length : Int) < (ns2.length + 1 : Nat) := by omega
                    by_cases hx0 : x < 0
                    · have HN := Lib.hid (show headL line = none by rw [HH3.out, HLX.out, if_pos hx0])
                      obtain ⟨y0, y1, y2, y3, z0, z1, z2, z3⟩ := hfR.out.four
                      go_wp2_with fail
                      have rbF := hfR.out.set4 (.int .u8 0) (.string ⟨#[]⟩) (.string ⟨#[]⟩) (.slice none 0 0)
                      have qF := below_set4 hle.out (Nat.le_refl w.heap.size) (.int .u8 0) (.string ⟨#[]⟩) (.string ⟨#[]⟩) (.slice none 0 0)
                      obtain ⟨s0, s1, s2, s3, _⟩ := rbF.four
                      exact bodyPost_ret (v := .tuple #[cmd0, .int .i64 0, .bool false]) (by simp [results, Tryd.results47, go_sem, cmd0, s0, s1, s2, s3]) rfl ⟨qF, .inl ⟨HN.out, rfl⟩⟩
                    · obtain ⟨xn, rfl⟩ := Int.eq_ofNat_of_zero_le (show 0 ≤ x by omega)
                      have HL := Lib.hid (show linesN s (ns2 ++ [(xn : Int)]) = some (xn, ns2) by rw [HLX.out, if_neg hx0, Int.toNat_natCast])
                      have fs := fr_set_drew wr ⟨bC, 3, none⟩ (.slice (some ⟨b, o, none⟩) ns2.length c3)
                      have qS := Lib.hid (show Below w.heap.size w (wr.drew.setCell ⟨bC, 3, none⟩ (.slice (some ⟨b, o, none⟩) ns2.length c3)) from (belowDrawn hle.out).setCell (p := ⟨bC, 3, none⟩) (Nat.le_of_lt hltR) _)
                      have rS := Lib.hid (show Bx (wr.drew.setCell ⟨bC, 3, none⟩ (.slice (some ⟨b, o, none⟩) ns2.length c3)) bC #[.int .u8 s.kind, .string (bs nm), .string ⟨#[]⟩, .slice (some ⟨b, o, none⟩) ns2.length c3] from Bx.set (w := wr.drew) hfC.out 3 (.slice (some ⟨b, o, none⟩) ns2.length c3))
                      have brS := Lib.hid (hfR.out.fr fs (by show ¬ w.heap.size = bC; omega))
                      have HBS := Lib.hid (hfH.out.fr fs (by show ¬ bH = bC; omega))
                      have hbne : b ≠ bC := by
                        have := HGE.out b o rfl
                        omega
                      have IS := Lib.hid (show IntsAt (wr.drew.setCell ⟨bC, 3, none⟩ (.slice (some ⟨b, o, none⟩) ns2.length c3)) (some ⟨b, o, none⟩) ns2 from fun k y hk => by
                        obtain ⟨b', o', e, h⟩ := HI2.out k y hk
                        cases e
                        exact ⟨_, _, rfl, fs.cell h (fun e => hbne e)⟩)
                      clear fs
                      go_upto_region 24 with fail
                      go_region
                      all_goals
                        go_wp2_with fail
                        go_meet
                        exact ⟨xn, ns2, _, _, rfl, ⟨HL.out, by omega, qS.out, IS.out, brS.out, HBS.out, rS.out, fun b' o' e => by cases e; have := HGE.out b o rfl; omega⟩⟩
              case rest =>
                obtain ⟨k, ns2, A, c, rfl, hL⟩ := hcut
                have HH4 := Lib.hid (show headL line = if s.nums ≠ -1 ∧ (ns2.length : Int) ≠ s.nums then none else some (⟨s.kind, nm, [], ns2⟩, k) by rw [HH3.out, hL.out.ln])
                obtain ⟨h0, h1, h2, h3, _⟩ := hL.out.fH.four
                obtain ⟨c0, c1, c2, c3', _⟩ := hL.out.fC.four
                have hlH := hL.out.fH.lt
                have hlC := hL.out.fC.lt
                generalize s.nums = sm at *
                have hs1 : (sm ≠ -1 ∧ (sm != -1) = true ∧ (ns2.length : Int) ≠ sm ∧ ((ns2.length : Int) != sm) = true) ∨ (¬ (sm ≠ -1 ∧ (ns2.length : Int) ≠ sm) ∧ ((sm = -1 ∧ (sm != -1) = false) ∨ (sm ≠ -1 ∧ (sm != -1) = true ∧ (ns2.length : Int) = sm ∧ ((ns2.length : Int) != sm) = false))) := by
                  by_cases h1 : sm = -1
                  · right; exact ⟨fun h => h.1 h1, .inl ⟨h1, by rw [h1]; rfl⟩⟩
                  · by_cases h2 : (ns2.length : Int) = sm
                    · right; exact ⟨fun h => h.2 h2, .inr ⟨h1, bne_iff_ne.2 h1, h2, by rw [h2]; simp⟩⟩
                    · left; exact ⟨h1, bne_iff_ne.2 h1, h2, bne_iff_ne.2 h2⟩
                rcases hs1 with ⟨e1, e2, e3, e4⟩ | ⟨en, hs1⟩
                · have HN := Lib.hid (show headL line = none by rw [HH4.out, if_pos ⟨e1, e3⟩])
                  clear HH4 HH3
                  obtain ⟨y0, y1, y2, y3, z0, z1, z2, z3⟩ := hL.out.fR.four
                  go_wp2_with fail
                  have rbF := hL.out.fR.set4 (.int .u8 0) (.string ⟨#[]⟩) (.string ⟨#[]⟩) (.slice none 0 0)
                  have qF := below_set4 hL.out.le (Nat.le_refl w.heap.size) (.int .u8 0) (.string ⟨#[]⟩) (.string ⟨#[]⟩) (.slice none 0 0)
                  obtain ⟨s0, s1, s2, s3, _⟩ := rbF.four
                  exact bodyPost_ret (v := .tuple #[cmd0, .int .i64 0, .bool false]) (by simp [results, Tryd.results47, go_sem, cmd0, s0, s1, s2, s3]) rfl ⟨qF, .inl ⟨HN.out, rfl⟩⟩
                · have HN := Lib.hid (show headL line = some (⟨s.kind, nm, [], ns2⟩, k) by rw [HH4.out, if_neg en])
                  clear HH4 HH3 en
                  have rbF := Lib.hid (hL.out.fR.set4 (.int .u8 s.kind) (.string (bs nm)) (.string ⟨#[]⟩) (.slice A ns2.length c))
                  have qF := Lib.hid (below_set4 hL.out.le (Nat.le_refl w.heap.size) (.int .u8 s.kind) (.string (bs nm)) (.string ⟨#[]⟩) (.slice A ns2.length c))
                  have IF := Lib.hid (show IntsAt ((((wc.setCell ⟨w.heap.size, 0, none⟩ (.int .u8 s.kind)).setCell ⟨w.heap.size, 1, none⟩ (.string (bs nm))).setCell ⟨w.heap.size, 2, none⟩ (.string ⟨#[]⟩)).setCell ⟨w.heap.size, 3, none⟩ (.slice A ns2.length c)) A ns2 from fun j y hj => by
                    obtain ⟨b, o, e, h⟩ := hL.out.ints j y hj
                    have hb := hL.out.blk b o e
                    exact ⟨b, o, e, (((Fr.of_set wc ⟨w.heap.size, 0, none⟩ (.int .u8 s.kind)).trans (Fr.of_set _ ⟨w.heap.size, 1, none⟩ (.string (bs nm))) fun _ _ e => e).trans ((Fr.of_set _ ⟨w.heap.size, 2, none⟩ (.string ⟨#[]⟩)).trans (Fr.of_set _ ⟨w.heap.size, 3, none⟩ (.slice A ns2.length c)) fun _ _ e => e) fun _ _ e => e).cell h (fun e => by
                      have e : b = w.heap.size := e
                      omega)⟩)
                  obtain ⟨y0, y1, y2, y3, z0, z1, z2, z3⟩ := hL.out.fR.four
                  rcases hs1 with ⟨e1, e2⟩ | ⟨e1, e2, e3, e4⟩
                  all_goals
                    go_wp2_with fail
                    obtain ⟨s0, s1, s2, s3, _⟩ := rbF.out.four
                    exact bodyPost_ret (v := .tuple #[.agg #[.int .u8 s.kind, .string (bs nm), .string ⟨#[]⟩, .slice A ns2.length c], .int .i64 k, .bool true]) (by simp [results, Tryd.results47, go_sem, s0, s1, s2, s3]) rfl ⟨qF.out, .inr ⟨_, k, A, c, HN.out, hL.out.kb, IF.out, fun b o e => Nat.le_of_lt (hL.out.blk b o e), rfl⟩⟩

end Go.Proofs.YtklljdjeobifiaaDoor
