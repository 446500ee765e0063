/-
  The reference's head: the walk.
-/
import Derived.Test.YtklljdjeobifiaaDoorScrRRd
import Derived.Test.YtklljdjeobifiaaDoorScrROne
namespace Go.Proofs.YtklljdjeobifiaaDoor
open Go.ChangeShapes Go.WideShapes Go.ChangeAt Go.RowKit Go.Sort Go.Maps

/-- Behind the name. -/
structure HrA (w : World) (bR bH bC : Nat) (A : Option Addr) (s : Shp) (nm : List UInt8) (ws : List (List UInt8)) (wc : World) : Prop where
  le : Below w.heap.size w wc
  row : StrsAt wc A (ws.map bs)
  fR : Bx wc bR #[.int .u8 0, .string ⟨#[]⟩, .string ⟨#[]⟩, .slice none 0 0]
  fH : Bx wc bH #[.string (bs s.word), .bool s.name, .bool s.text, .int .i64 s.nums]
  fC : Bx wc bC #[.int .u8 s.kind, .string (bs nm), .string ⟨#[]⟩, .slice none 0 0]
  blk : ∀ b o, A = some ⟨b, o, none⟩ → b < bC
theorem HrA.drew {w : World} {bR bH bC : Nat} {A : Option Addr} {s : Shp} {nm : List UInt8} {ws : List (List UInt8)} {wc : World} (h : HrA w bR bH bC A s nm ws wc) : HrA w bR bH bC A s nm ws wc.drew := ⟨belowDrawn h.le, h.row, h.fR, h.fH, h.fC, h.blk⟩
def NamR (w : World) (bR bH bC : Nat) (s : Shp) (ws : List (List UInt8)) (v ok : Value) (wc : World) : Prop :=
  (nameW s ws = none ∧ ok = .bool false ∧ HrA w bR bH bC none s [] [] wc) ∨
  ∃ nm ws2 A, nameW s ws = some (nm, ws2) ∧ ok = .bool true ∧ v = .slice A ws2.length ws2.length ∧ HrA w bR bH bC A s nm ws2 wc

/-- In the loop over the numbers. -/
structure HrN (w : World) (bR bH bC base : Nat) (A : Option Addr) (s : Shp) (nm : List UInt8) (ws : List (List UInt8)) (j : Nat) (ns : List Int) (vN : Value) (wr : World) : Prop where
  le : Below w.heap.size w wr
  eq : ws.take j = ns.map Lib.itoa
  fit : ∀ n ∈ ns, -9223372036854775808 ≤ n ∧ n ≤ 9223372036854775807
  own : wr.ownsRow base 3 1 vN ns.length (ns.map (Value.int .i64))
  row : StrsAt wr A (ws.map bs)
  fR : Bx wr bR #[.int .u8 0, .string ⟨#[]⟩, .string ⟨#[]⟩, .slice none 0 0]
  fH : Bx wr bH #[.string (bs s.word), .bool s.name, .bool s.text, .int .i64 s.nums]
  fC : Bx wr bC #[.int .u8 s.kind, .string (bs nm), .string ⟨#[]⟩, vN]
  sz : base ≤ wr.heap.size
theorem HrN.below {w : World} {bR bH bC base : Nat} {A : Option Addr} {s : Shp} {nm : List UInt8} {ws : List (List UInt8)} {j : Nat} {ns : List Int} {vN : Value} {wr wx : World} (h : HrN w bR bH bC base A s nm ws j ns vN wr) (hb : Below wr.heap.size wr wx) : HrN w bR bH bC base A s nm ws j ns vN wx :=
  ⟨below_step h.le h.le.size hb, h.eq, h.fit, own_below h.own hb, h.row.mono hb, h.fR.below hb, h.fH.below hb, h.fC.below hb, Nat.le_trans h.sz hb.size⟩
theorem HrN.bad {w : World} {bR bH bC base : Nat} {A : Option Addr} {s : Shp} {nm : List UInt8} {ws : List (List UInt8)} {j : Nat} {ns : List Int} {vN : Value} {wr : World} (_ : HrN w bR bH bC base A s nm ws j ns vN wr) (hj : j < ws.length) (hx : numO ws[j] = none) : numsL ws = none := by
  cases hq : numsL ws with
  | none => rfl
  | some ms =>
    obtain ⟨e1, e2⟩ := numsL_some hq
    subst e1
    rw [List.getElem_map] at hx
    obtain ⟨b0, b1⟩ := e2 _ (List.getElem_mem (by simpa using hj))
    rw [numO_itoa b0 b1] at hx
    cases hx
theorem HrN.end_ {w : World} {bR bH bC base : Nat} {A : Option Addr} {s : Shp} {nm : List UInt8} {ws : List (List UInt8)} {ns : List Int} {vN : Value} {wr : World} (h : HrN w bR bH bC base A s nm ws ws.length ns vN wr) : numsL ws = some ns := by
  have := h.eq
  rw [List.take_length] at this
  rw [this]
  exact numsL_map ns h.fit
theorem HrN.push {w : World} {bR bH bC base : Nat} {A : Option Addr} {s : Shp} {nm : List UInt8} {ws : List (List UInt8)} {j : Nat} {ns : List Int} {vN : Value} {wx w6 : World} {v' : Value} {x : Int} (h : HrN w bR bH bC base A s nm ws j ns vN wx) (hj : j < ws.length) (hx : numO ws[j] = some x)
    (hg : wx.grownBy w6 vN.ownBlock) (hown : w6.ownsRow base 3 1 v' (ns.length + 1) (ns.map (Value.int .i64) ++ [.int .i64 x]))
    (h1 : bR < bC) (h2 : bH ≠ bC) (h2' : bH < base) (h3 : bC < base) (h4 : w.heap.size ≤ bC) (hA : ∀ b o, A = some ⟨b, o, none⟩ → b < bC) : HrN w bR bH bC base A s nm ws (j + 1) (ns ++ [x]) v' (w6.setCell ⟨bC, 3, none⟩ v') := by
  obtain ⟨e1, e2, e3⟩ := numO_some hx
  have hge := fun k hk => own_block_geB h.own k hk
  have hge' := fun k hk => own_block_geB hown k hk
  have f1 : Fr wx w6 (fun k => base ≤ k) := (Fr.of_grown hg).mono fun k _ e => hge k e.symm
  have f2 : Fr wx (w6.setCell ⟨bC, 3, none⟩ v') (fun k => base ≤ k ∨ k = bC) := (f1.mono fun k _ e => .inl e).trans (Fr.of_set w6 ⟨bC, 3, none⟩ v') fun k _ e => .inr e
  have own2 := Fr.own (Fr.of_set w6 ⟨bC, 3, none⟩ v') hown fun g hg e => by
    have := hge' g hg
    have e : g = bC := e
    omega
  refine ⟨f2.toBelow h.le h.le.size fun k e => by rcases e with e | e <;> omega, ?_, ?_, ?_, ?_, h.fR.fr f2 (fun e => by rcases e with e | e <;> omega), h.fH.fr f2 (fun e => by rcases e with e | e <;> omega), (h.fC.fr f1 (fun e => by omega)).set 3 v', Nat.le_trans h.sz f2.size⟩
  · rw [List.take_succ_eq_append_getElem hj, h.eq, List.map_append, ← e1]; rfl
  · intro n hn
    rcases List.mem_append.1 hn with hn | hn
    · exact h.fit n hn
    · rw [List.mem_singleton.1 hn]; exact ⟨e2, e3⟩
  · rw [List.length_append, List.map_append]; exact own2
  · intro k y hk
    obtain ⟨b, o, e, c⟩ := h.row k y hk
    have := hA b o e
    exact ⟨b, o, e, f2.cell c (fun e => by
      have e : base ≤ b ∨ b = bC := e
      rcases e with e | e <;> omega)⟩

theorem HrN.cell3 {w : World} {bR bH bC base : Nat} {A : Option Addr} {s : Shp} {nm : List UInt8} {ws : List (List UInt8)} {j : Nat} {ns : List Int} {vN : Value} {wx w6 : World} (h : HrN w bR bH bC base A s nm ws j ns vN wx) (hg : wx.grownBy w6 vN.ownBlock) (h3 : bC < base) : Bx w6 bC #[.int .u8 s.kind, .string (bs nm), .string ⟨#[]⟩, vN] :=
  h.fC.fr (Fr.of_grown hg) fun e => by
    have := own_block_geB h.own bC e.symm
    omega
/-- Behind the number of lines. -/
structure LirR (w : World) (bR bH bC : Nat) (s : Shp) (nm : List UInt8) (ns : List Int) (k : Nat) (ns2 : List Int) (A : Option Addr) (c : Nat) (wk : World) : Prop where
  ln : linesN s ns = some (k, ns2)
  kb : k ≤ 9223372036854775807
  le : Below w.heap.size w wk
  ints : IntsAt wk A ns2
  fR : Bx wk bR #[.int .u8 0, .string ⟨#[]⟩, .string ⟨#[]⟩, .slice none 0 0]
  fH : Bx wk bH #[.string (bs s.word), .bool s.name, .bool s.text, .int .i64 s.nums]
  fC : Bx wk bC #[.int .u8 s.kind, .string (bs nm), .string ⟨#[]⟩, .slice A ns2.length c]
  blk : ∀ b o, A = some ⟨b, o, none⟩ → w.heap.size < b


theorem le_of_nil {α : Type} {r : List α} (h : r = []) (n : Nat) : r.length ≤ n := by subst h; exact Nat.zero_le _
/-- The shape among the kinds below k whose word is w. -/
def foK (w0 : List UInt8) (k : Nat) : Option Shp := (lookW w0).filter fun s => decide (s.kind < k)
theorem foK_one (w0 : List UInt8) : foK w0 1 = none := by
  unfold foK
  cases h : lookW w0 with
  | none => rfl
  | some s =>
    obtain ⟨h1, _⟩ := lookW_some h
    have h2 := (shp_all s h1).1
    have hk : ¬ s.kind < 1 := fun h3 => by rw [findK_out (.inl h3)] at h2; cases h2
    simp [Option.filter, hk]
theorem foK_hit {w0 : List UInt8} {k : Nat} {s : Shp} (hf : findK k = some s) (hw : s.word = w0) : foK w0 (k + 1) = some s := by
  obtain ⟨h1, h2⟩ := findK_some hf
  have h3 := (shp_all s h1).2.1
  rw [hw] at h3
  unfold foK
  rw [h3]
  simp [Option.filter, h2]
theorem foK_miss {w0 : List UInt8} {k : Nat} {s : Shp} (hf : findK k = some s) (hw : s.word ≠ w0) : foK w0 (k + 1) = foK w0 k := by
  unfold foK
  cases h : lookW w0 with
  | none => rfl
  | some s' =>
    obtain ⟨h1, h2⟩ := lookW_some h
    have hne : s'.kind ≠ k := fun e => by
      have h3 := (shp_all s' h1).1
      rw [e, hf] at h3
      cases h3
      exact hw h2
    simp only [Option.filter]
    have : decide (s'.kind < k + 1) = decide (s'.kind < k) := decide_eq_decide.2 (by omega)
    show (if decide (s'.kind < k + 1) = true then some s' else none) = (if decide (s'.kind < k) = true then some s' else none)
    rw [this]
theorem foK_all (w0 : List UInt8) : foK w0 15 = lookW w0 := by
  unfold foK
  cases h : lookW w0 with
  | none => rfl
  | some s =>
    obtain ⟨h1, _⟩ := lookW_some h
    have h2 := (shp_all s h1).1
    have hk : s.kind < 15 := by
      rcases Nat.lt_or_ge s.kind 15 with h3 | h3
      · exact h3
      · rw [findK_out (.inr (by omega))] at h2; cases h2
    simp [Option.filter, hk]
/-- In the loop over the kinds. -/
structure HrL (w : World) (bR bC bX g o : Nat) (l : List (List UInt8)) (fo : Option Shp) (kd : Nat) (sw : ByteArray) (sn stx : Bool) (sm : Int) (wr : World) : Prop where
  le : Below w.heap.size w wr
  row : StrsAt wr (some ⟨g, o, none⟩) (l.map bs)
  fR : Bx wr bR #[.int .u8 0, .string ⟨#[]⟩, .string ⟨#[]⟩, .slice none 0 0]
  fC : Bx wr bC #[.int .u8 kd, .string ⟨#[]⟩, .string ⟨#[]⟩, .slice none 0 0]
  fX : Bx wr bX #[.string sw, .bool sn, .bool stx, .int .i64 sm]
  no : fo = none → kd = 0
  so : ∀ s, fo = some s → kd = s.kind ∧ sw = bs s.word ∧ sn = s.name ∧ stx = s.text ∧ sm = s.nums
theorem HrL.below {w : World} {bR bC bX g o : Nat} {l : List (List UInt8)} {fo : Option Shp} {kd : Nat} {sw : ByteArray} {sn stx : Bool} {sm : Int} {wr wx : World} (h : HrL w bR bC bX g o l fo kd sw sn stx sm wr) (hb : Below wr.heap.size wr wx) : HrL w bR bC bX g o l fo kd sw sn stx sm wx :=
  ⟨below_step h.le h.le.size hb, h.row.mono hb, h.fR.below hb, h.fC.below hb, h.fX.below hb, h.no, h.so⟩
theorem HrL.drew {w : World} {bR bC bX g o : Nat} {l : List (List UInt8)} {fo : Option Shp} {kd : Nat} {sw : ByteArray} {sn stx : Bool} {sm : Int} {wr : World} (h : HrL w bR bC bX g o l fo kd sw sn stx sm wr) : HrL w bR bC bX g o l fo kd sw sn stx sm wr.drew :=
  h.below (belowDrawn (Below.refl _ _))
def fo1 (s : Shp) : Option Shp := some s
theorem HrL.hitA {w : World} {bR bC bX g o : Nat} {l : List (List UInt8)} {fo : Option Shp} {kd : Nat} {sw : ByteArray} {sn stx : Bool} {sm : Int} {wr : World} (h : HrL w bR bC bX g o l fo kd sw sn stx sm wr) (s : Shp) (n1 : bC ≠ bX) (n2 : bR ≠ bC) (n3 : bR ≠ bX) (n4 : g ≠ bC) (n5 : g ≠ bX) (h1 : w.heap.size ≤ bC) (h2 : w.heap.size ≤ bX) :
    HrL w bR bC bX g o l (some s) s.kind (bs s.word) s.name s.text s.nums (((((wr.setCell ⟨bC, 0, none⟩ (.int .u8 s.kind)).setCell ⟨bX, 0, none⟩ (.string (bs s.word))).setCell ⟨bX, 1, none⟩ (.bool s.name)).setCell ⟨bX, 2, none⟩ (.bool s.text)).setCell ⟨bX, 3, none⟩ (.int .i64 s.nums)) := by
  have f1 := Fr.of_set wr ⟨bC, 0, none⟩ (.int .u8 s.kind)
  have f2 := ((Fr.of_set (wr.setCell ⟨bC, 0, none⟩ (.int .u8 s.kind)) ⟨bX, 0, none⟩ (.string (bs s.word))).trans (Fr.of_set _ ⟨bX, 1, none⟩ (.bool s.name)) fun _ _ e => e).trans ((Fr.of_set _ ⟨bX, 2, none⟩ (.bool s.text)).trans (Fr.of_set _ ⟨bX, 3, none⟩ (.int .i64 s.nums)) fun _ _ e => e) fun _ _ e => e
  have f := (f1.mono fun k _ (e : k = bC) => (Or.inl e : k = bC ∨ k = bX)).trans f2 fun k _ (e : k = bX) => Or.inr e
  refine ⟨f.toBelow h.le h.le.size fun k e => by rcases e with e | e <;> omega, h.row.fr f (fun e => by rcases e with e | e; exact n4 e; exact n5 e), h.fR.fr f (fun e => by rcases e with e | e; exact n2 e; exact n3 e), ((h.fC.set 0 (.int .u8 s.kind)).fr f2 (fun e => n1 e)), (h.fX.fr f1 (fun e => n1 e.symm)).set4 _ _ _ _, fun e => (by cases e), fun s' e => (by cases e; exact ⟨rfl, rfl, rfl, rfl, rfl⟩)⟩
theorem HrL.hitB {w : World} {bR bC bX g o : Nat} {l : List (List UInt8)} {fo : Option Shp} {kd : Nat} {sw : ByteArray} {sn stx : Bool} {sm : Int} {wr : World} (h : HrL w bR bC bX g o l fo kd sw sn stx sm wr) (s : Shp) (n1 : bC ≠ bX) (n2 : bR ≠ bC) (n3 : bR ≠ bX) (n4 : g ≠ bC) (n5 : g ≠ bX) (h1 : w.heap.size ≤ bC) (h2 : w.heap.size ≤ bX) :
    HrL w bR bC bX g o l (some s) s.kind (bs s.word) s.name s.text s.nums (((((wr.setCell ⟨bX, 0, none⟩ (.string (bs s.word))).setCell ⟨bX, 1, none⟩ (.bool s.name)).setCell ⟨bX, 2, none⟩ (.bool s.text)).setCell ⟨bX, 3, none⟩ (.int .i64 s.nums)).setCell ⟨bC, 0, none⟩ (.int .u8 s.kind)) := by
  have f2 := ((Fr.of_set wr ⟨bX, 0, none⟩ (.string (bs s.word))).trans (Fr.of_set _ ⟨bX, 1, none⟩ (.bool s.name)) fun _ _ e => e).trans ((Fr.of_set _ ⟨bX, 2, none⟩ (.bool s.text)).trans (Fr.of_set _ ⟨bX, 3, none⟩ (.int .i64 s.nums)) fun _ _ e => e) fun _ _ e => e
  have f1 := Fr.of_set ((((wr.setCell ⟨bX, 0, none⟩ (.string (bs s.word))).setCell ⟨bX, 1, none⟩ (.bool s.name)).setCell ⟨bX, 2, none⟩ (.bool s.text)).setCell ⟨bX, 3, none⟩ (.int .i64 s.nums)) ⟨bC, 0, none⟩ (.int .u8 s.kind)
  have f := (f2.mono fun k _ (e : k = bX) => (Or.inl e : k = bX ∨ k = bC)).trans f1 fun k _ (e : k = bC) => Or.inr e
  refine ⟨f.toBelow h.le h.le.size fun k e => by rcases e with e | e <;> omega, h.row.fr f (fun e => by rcases e with e | e; exact n5 e; exact n4 e), h.fR.fr f (fun e => by rcases e with e | e; exact n3 e; exact n2 e), ((h.fC.fr f2 (fun e => n1 e)).set 0 (.int .u8 s.kind)), (h.fX.set4 _ _ _ _).fr f1 (fun e => n1 e.symm), fun e => (by cases e), fun s' e => (by cases e; exact ⟨rfl, rfl, rfl, rfl, rfl⟩)⟩
def RetRHead (line : List UInt8) (w : World) (e : Ending) (w' : World) : Prop :=
  Below w.heap.size w w' ∧ ((headL line = none ∧ ∃ (k : Nat) (nm : List UInt8) (A : Option Addr) (n c : Nat), e = .returned (.tuple #[.agg #[.int .u8 k, .string (bs nm), .string ⟨#[]⟩, .slice A n c], .int .i64 0, .bool false])) ∨
    ∃ c k A cap, headL line = some (c, k) ∧ k ≤ 9223372036854775807 ∧ IntsAt w' A c.nums ∧ (∀ b o, A = some ⟨b, o, none⟩ → w.heap.size < b) ∧ e = .returned (.tuple #[.agg #[.int .u8 c.kind, .string (bs c.name), .string ⟨#[]⟩, .slice A c.nums.length cap], .int .i64 (k : Nat), .bool true]))

set_option maxRecDepth 100000 in
set_option maxHeartbeats 4000000 in
theorem rhead_any (line : List UInt8) (w : World) (hl : line.length ≤ 4294967280) :
    Calls Tryd.prog 33 #[.string (bs line)] w (RetRHead line w) := by
  obtain ⟨hn1, hn2⟩ := splitL_len line
  have HN2 := Lib.hid hn2
  have bb := below_box w (Obj.cells #[.int .u8 0, .string ⟨#[]⟩, .string ⟨#[]⟩, .slice none 0 0] 45)
  have br := bx_new w #[.int .u8 0, .string ⟨#[]⟩, .string ⟨#[]⟩, .slice none 0 0] 45
  have HSP := Lib.hid (fun (W : World) => rwords_any line W (by omega))
  unfold RetWords at HSP
  cases hws : splitL line with
  | nil => exact absurd hws (splitL_ne line)
  | cons w0 ws =>
  rw [hws] at hn1 HN2 HSP
  have HWS := Lib.hid hws
  clear hn2 hws
  go_enter Tryd.func33, Tryd.ntmps33
  go_wp2_with fail
  generalize w.alloc _ = W1 at bb br ⊢
  refine (HSP.out W1).mono ?_
  rintro e W2 ⟨A, cpw, rfl, hcpw, hst2, hb2⟩
  obtain ⟨g, o, rfl, cg0⟩ := hst2 0 (bs w0) rfl
  have hgl := block_lt_of_cell cg0
  have q2 := Lib.hid (below_step bb bb.size hb2)
  have br2 := Lib.hid (br.below hb2)
  have hltR : w.heap.size < W2.heap.size := br2.out.lt
  have b3 := two_box W2 (Obj.cells #[.int .u8 0, .string ⟨#[]⟩, .string ⟨#[]⟩, .slice none 0 0] 45) (Obj.cells #[.string ⟨#[]⟩, .bool false, .bool false, .int .i64 0] 79)
  have cb := (bx_new W2 #[.int .u8 0, .string ⟨#[]⟩, .string ⟨#[]⟩, .slice none 0 0] 45).below (below_box _ (Obj.cells #[.string ⟨#[]⟩, .bool false, .bool false, .int .i64 0] 79))
  have xb := bx_new (W2.alloc (Obj.cells #[.int .u8 0, .string ⟨#[]⟩, .string ⟨#[]⟩, .slice none 0 0] 45)) #[.string ⟨#[]⟩, .bool false, .bool false, .int .i64 0] 79
  rw [show (W2.alloc (Obj.cells #[.int .u8 0, .string ⟨#[]⟩, .string ⟨#[]⟩, .slice none 0 0] 45)).heap.size = W2.heap.size + 1 by simp] at xb
  have HL0 := Lib.hid (show HrL w w.heap.size W2.heap.size (W2.heap.size + 1) g o (w0 :: ws) (foK w0 1) 0 ⟨#[]⟩ false false 0 _ from ⟨below_step q2.out q2.out.size b3, hst2.mono b3, br2.out.below b3, cb, xb, fun _ => rfl, fun s h => by rw [foK_one] at h; cases h⟩)
  clear bb br hst2 hb2 q2 br2 b3 cb xb cg0 HSP
  have HW2 := Lib.hid (And.intro hltR hgl)
  go_upto_region 4 with fail
  generalize hbC : W2.heap.size = bC at *
  generalize World.alloc (World.alloc W2 _) _ = W4 at HL0 ⊢
  go_wp2_with fail
  go_loopw [8] (fun i wr => ∃ (k kd : Nat) (sw : ByteArray) (sn stx : Bool) (sm : Int), 1 ≤ k ∧ k ≤ 15 ∧ i = .int .i64 k ∧ Hid (HrL w w.heap.size bC (bC + 1) g o (w0 :: ws) (foK w0 k) kd sw sn stx sm wr)) (fun i _ => 15 - (intOf i).toNat)
  case atStart => exact ⟨1, 0, _, _, _, _, by omega, by omega, rfl, HL0⟩
  case round =>
    obtain ⟨k, kd, sw, sn, stx, sm, hk1, hk, rfl, hR⟩ := hrel
    by_cases hin : k ≤ 14
    · obtain ⟨m, rfl⟩ : ∃ m, k = m + 1 := ⟨k - 1, by omega⟩
      obtain ⟨s, hf, _⟩ := findK_in (m := m) (by omega)
      have HF := Lib.hid hf
      have HOF := Lib.hid (fun W => rof_any (m + 1) (by omega) W)
      clear hf
      go_wp2_with fail
      refine (HOF.out wr).mono ?_
      rintro e w5 ⟨_, he, hb5⟩
      obtain rfl := he s HF.out
      have bb5 := below_box w5 (Obj.cells #[.string (bs s.word), .bool s.name, .bool s.text, .int .i64 s.nums] 79)
      have sb := bx_new w5 #[.string (bs s.word), .bool s.name, .bool s.text, .int .i64 s.nums] 79
      have HR5 := Lib.hid ((hR.out.below hb5).below bb5)
      have h9 := hR.out.fX.lt
      have h9' := hb5.size
      clear he hb5 bb5 hR
      go_upto_region 8 with fail
      generalize hb9 : w5.heap.size = b9 at *
      generalize World.alloc w5 _ = V at HR5 sb ⊢
      obtain ⟨a0, a1, a2, a3, _⟩ := sb.four
      obtain ⟨g', o', e', cg⟩ := HR5.out.row 0 (bs w0) rfl
      cases e'
      rw [Nat.add_zero] at cg
      have hl9 := sb.lt
      have hlg := block_lt_of_cell cg
      go_region
      have HV := Lib.hid (HR5.out.drew)
      have sbV : Bx V.drew b9 _ := sb.below (belowDrawn (Below.refl _ _))
      clear a0 a1 a2 a3 cg sb HR5 hl9 hlg
      generalize V.drew = V2 at HV sbV ⊢
      generalize hq : ((bs s.word).toList == (bs w0).toList) = q
      cases q with
      | true =>
        have hw : s.word = w0 := bs_inj (eqS_iff.1 hq)
        clear hq
        have HHIT := Lib.hid (foK_hit HF.out hw)
        have hsk : s.kind = m + 1 := (findK_some HF.out).2
        have n1 : b9 ≠ bC := by omega
        have n2 : b9 ≠ bC + 1 := by omega
        have n3 : bC ≠ b9 := by omega
        have n4 : bC + 1 ≠ b9 := by omega
        obtain ⟨a0, a1, a2, a3, _⟩ := sbV.four
        obtain ⟨c0, c1, c2, c3, d0, d1, d2, d3⟩ := HV.out.fC.four
        obtain ⟨x0, x1, x2, x3, t0, t1, t2, t3⟩ := HV.out.fX.four
        have hl9 := sbV.lt
        have hlC := HV.out.fC.lt
        have hlX := HV.out.fX.lt
        have NA := Lib.hid (HV.out.hitA s (by omega) (by omega) (by omega) (by omega) (by omega) (by omega) (by omega)).drew
        have NB := Lib.hid (HV.out.hitB s (by omega) (by omega) (by omega) (by omega) (by omega) (by omega) (by omega)).drew
        rw [hsk] at NA NB
        clear hsk hw
        go_upto_region 9 with fail
        go_region
        all_goals
          go_wp2_with fail
          first
            | exact ⟨⟨m + 1 + 1, _, _, _, _, _, by omega, by omega, by go_num, by rw [HHIT.out]; exact NA⟩, by simp [intOf]; omega⟩
            | exact ⟨⟨m + 1 + 1, _, _, _, _, _, by omega, by omega, by go_num, by rw [HHIT.out]; exact NB⟩, by simp [intOf]; omega⟩
      | false =>
        have hw : s.word ≠ w0 := fun e => by rw [eqS_iff.2 (by rw [e])] at hq; cases hq
        clear hq
        have HMISS := Lib.hid (foK_miss HF.out hw)
        rw [← HMISS.out] at HV
        go_wp2_with fail
        exact ⟨⟨m + 1 + 1, kd, sw, sn, stx, sm, by omega, by omega, by go_num, HV⟩, by simp [intOf]; omega⟩
    · obtain rfl : k = 15 := by omega
      rw [foK_all] at hR
      have h9 := hR.out.fX.lt
      cases hlk : lookW w0 with
      | none =>
        rw [hlk] at hR
        obtain rfl := hR.out.no rfl
        have HN := Lib.hid (headL_none HWS.out hlk)
        clear hlk
        obtain ⟨c0, c1, c2, c3, _⟩ := hR.out.fC.four
        have hlC := hR.out.fC.lt
        obtain ⟨y0, y1, y2, y3, z0, z1, z2, z3⟩ := hR.out.fR.four
        go_wp2_with fail
        have rbF := hR.out.fR.set4 (.int .u8 0) (.string ⟨#[]⟩) (.string ⟨#[]⟩) (.slice none 0 0)
        have qF := below_set4 hR.out.le (Nat.le_refl w.heap.size) (.int .u8 0) (.string ⟨#[]⟩) (.string ⟨#[]⟩) (.slice none 0 0)
        obtain ⟨s0, s1, s2, s3, _⟩ := rbF.four
        exact bodyPost_ret (v := .tuple #[.agg #[.int .u8 0, .string ⟨#[]⟩, .string ⟨#[]⟩, .slice none 0 0], .int .i64 0, .bool false]) (by simp [results, Tryd.results33, go_sem, s0, s1, s2, s3]) rfl ⟨qF, .inl ⟨HN.out, 0, [], none, 0, 0, rfl⟩⟩
      | some s =>
        rw [hlk] at hR
        obtain ⟨rfl, rfl, rfl, rfl, rfl⟩ := hR.out.so s rfl
        have hk0 : ((s.kind : Int) == 0) = false := by
          have h1 := (shp_all s (lookW_some hlk).1).1
          rw [beq_eq_false_iff_ne]
          intro e
          rw [findK_out (.inl (by omega))] at h1; cases h1
        have HHS := Lib.hid (headL_of HWS.out hlk)
        have HLO := Lib.hid (shp_all s (lookW_some hlk).1).2.2.2.2.1
        clear hlk
        obtain ⟨c0, c1, c2, c3, _⟩ := hR.out.fC.four
        have hlC := hR.out.fC.lt
        have hcp : ws.length + 1 ≤ cpw := hcpw
        have hw9 : ws.length ≤ 4294967280 := by simp at hn1; omega
        go_upto_region 12 with fail
        clear c0 c1 c2 c3
        go_cut [5] from 42 to 43 (fun v wc => ∃ A c, v = .slice A ws.length c ∧ Hid (ws.length ≤ c ∧ (ws = [] ∨ A = some ⟨g, o + 1, none⟩) ∧ ∀ b o, A = some ⟨b, o, none⟩ → b = g) ∧ wc = wr)
        case first =>
          rcases Nat.eq_zero_or_pos ws.length with h0 | h0
          · have hn0 := Lib.hid (List.length_eq_zero_iff.1 h0)
            by_cases hc1 : cpw = 1
            · subst hc1
              go_wp2_with fail
              go_meet
              exact ⟨_, _, by rw [h0], ⟨by omega, .inl hn0.out, fun b o e => by cases e; rfl⟩, rfl⟩
            · have hc2 : cpw - 1 ≠ 0 := by omega
              go_wp2_with fail
              go_meet
              exact ⟨_, _, by rw [h0], ⟨by omega, .inl hn0.out, fun b o e => by cases e; rfl⟩, rfl⟩
          · have h0' : ws.length ≠ 0 := by omega
            have hc2 : cpw - 1 ≠ 0 := by omega
            go_wp2_with fail
            go_meet
            exact ⟨_, _, rfl, ⟨by omega, .inr rfl, fun b o e => by cases e; rfl⟩, rfl⟩
        case rest =>
          obtain ⟨A1, cp1, rfl, hA1, rfl⟩ := hcut
          have HRW := Lib.hid (show StrsAt wc A1 (ws.map bs) from by
            rcases hA1.out.2.1 with e | e
            · rw [e]; exact strs_nil _ _
            · rw [e]; exact strs_tail hR.out.row)
          have HA0 := Lib.hid (show HrA w w.heap.size (bC + 1) bC A1 s [] ws wc from ⟨hR.out.le, HRW.out, hR.out.fR, hR.out.fX, hR.out.fC, fun b o e => by rw [hA1.out.2.2 b o e]; exact hgl⟩)
          have hcl1 := hA1.out.1
          obtain ⟨x0, x1, x2, x3, _⟩ := hR.out.fX.four
          clear hR hcpw hcp
          generalize hsn : s.name = sn at x1
          have HSN := Lib.hid hsn
          go_upto_if 45 with fail
          clear x0 x1 x2 x3
          go_cut [5] from 46 to 62 (fun v wd => ∃ nm ws2 A c, v = .slice A ws2.length c ∧ Hid (nameW s ws = some (nm, ws2) ∧ ws2.length ≤ c ∧ HrA w w.heap.size (bC + 1) bC A s nm ws2 wd))
          case first =>
            cases sn with
            | false =>
              have HN := Lib.hid (show nameW s ws = some ([], ws) by unfold nameW; rw [HSN.out]; rfl)
              go_wp2_with fail
              go_meet
              exact ⟨[], ws, A1, cp1, rfl, HN.out, hcl1, HA0.out⟩
            | true =>
              obtain ⟨c0, c1, c2, c3, d0, d1, d2, d3⟩ := HA0.out.fC.four
              have hlC := HA0.out.fC.lt
              cases ws with
              | nil =>
                have HN := Lib.hid (show headL line = none by rw [HHS.out]; unfold nameW; rw [HSN.out]; rfl)
                obtain ⟨y0, y1, y2, y3, z0, z1, z2, z3⟩ := HA0.out.fR.four
                go_wp2_with fail
                have rbF := HA0.out.fR.set4 (.int .u8 s.kind) (.string (bs [])) (.string ⟨#[]⟩) (.slice none 0 0)
                have qF := below_set4 HA0.out.le (Nat.le_refl w.heap.size) (.int .u8 s.kind) (.string (bs [])) (.string ⟨#[]⟩) (.slice none 0 0)
                obtain ⟨s0, s1, s2, s3, _⟩ := rbF.four
                exact bodyPost_ret (v := .tuple #[.agg #[.int .u8 s.kind, .string (bs []), .string ⟨#[]⟩, .slice none 0 0], .int .i64 0, .bool false]) (by simp [results, Tryd.results33, go_sem, s0, s1, s2, s3]) rfl ⟨qF, .inl ⟨HN.out, s.kind, [], _, _, _, rfl⟩⟩
              | cons n r =>
                obtain rfl : A1 = some ⟨g, o + 1, none⟩ := hA1.out.2.1.resolve_left (by simp)
                have HN := Lib.hid (show nameW s (n :: r) = if nmB n = true then some (n, r) else none by unfold nameW; rw [HSN.out]; rfl)
                obtain ⟨_, _, e, e1⟩ := HA0.out.row 0 (bs n) rfl
                cases e
                rw [Nat.add_zero] at e1
                have hn9 : n.length ≤ 9223372036854775807 := by have := HN2.out n (by simp); omega
                have HNM := Lib.hid (fun W => rname_any n W hn9)
                unfold RetName at HNM
                have hlg := block_lt_of_cell e1
                go_wp2_with fail
                refine (HNM.out _).mono ?_
                rintro e V2 ⟨rfl, hb2⟩
                have HA2 := Lib.hid (show HrA w w.heap.size (bC + 1) bC (some ⟨g, o + 1, none⟩) s [] (n :: r) V2 from ⟨below_step HA0.out.le HA0.out.le.size hb2, HA0.out.row.mono hb2, HA0.out.fR.below hb2, HA0.out.fH.below hb2, HA0.out.fC.below hb2, HA0.out.blk⟩)
                have c15 := below_cell hb2 e1
                clear c0 c1 c2 c3 d0 d1 d2 d3 hlC e1 hlg hb2
                obtain ⟨c0, c1, c2, c3, d0, d1, d2, d3⟩ := HA2.out.fC.four
                have hlC := HA2.out.fC.lt
                cases hnm : nmB n with
                | false =>
                  have HN2 := Lib.hid (show headL line = none by rw [HHS.out, HN.out, hnm]; rfl)
                  clear hnm
                  obtain ⟨y0, y1, y2, y3, z0, z1, z2, z3⟩ := HA2.out.fR.four
                  go_wp2_with fail
                  have rbF := HA2.out.fR.set4 (.int .u8 s.kind) (.string (bs [])) (.string ⟨#[]⟩) (.slice none 0 0)
                  have qF := below_set4 HA2.out.le (Nat.le_refl w.heap.size) (.int .u8 s.kind) (.string (bs [])) (.string ⟨#[]⟩) (.slice none 0 0)
                  obtain ⟨s0, s1, s2, s3, _⟩ := rbF.four
                  exact bodyPost_ret (v := .tuple #[.agg #[.int .u8 s.kind, .string (bs []), .string ⟨#[]⟩, .slice none 0 0], .int .i64 0, .bool false]) (by simp [results, Tryd.results33, go_sem, s0, s1, s2, s3]) rfl ⟨qF, .inl ⟨HN2.out, s.kind, [], _, _, _, rfl⟩⟩
                | true =>
                  have HN2 := Lib.hid (show nameW s (n :: r) = some (n, r) by rw [HN.out, hnm]; rfl)
                  clear hnm
                  go_upto_region 16 with fail
                  have hne1 : ¬ bC = g := by omega
                  have hne2 : ¬ g = bC := by omega
                  have hlg := block_lt_of_cell c15
                  have fs := fr_set_drew V2 ⟨bC, 1, none⟩ (.string (bs n))
                  have fs2 := Fr.of_set V2 ⟨bC, 1, none⟩ (.string (bs n))
                  have hlt := HW2.out.1
                  have HAN := Lib.hid (fun (c : Nat) => show r = [] → HrA w w.heap.size (bC + 1) bC (some ⟨g, c, none⟩) s n r (V2.setCell ⟨bC, 1, none⟩ (.string (bs n))).drew from fun e => HrA.drew ⟨fs2.toBelow HA2.out.le HA2.out.le.size (fun k (e : k = bC) => by omega), (by rw [e]; exact strs_nil _ _), HA2.out.fR.fr fs2 (by show ¬ w.heap.size = bC; omega), HA2.out.fH.fr fs2 (by show ¬ bC + 1 = bC; omega), HA2.out.fC.set 1 _, (fun b o e => by cases e; exact hgl)⟩)
                  have HAC := Lib.hid (show HrA w w.heap.size (bC + 1) bC (some ⟨g, o + 1 + 1, none⟩) s n r (V2.setCell ⟨bC, 1, none⟩ (.string (bs n))).drew from HrA.drew ⟨fs2.toBelow HA2.out.le HA2.out.le.size (fun k (e : k = bC) => by omega), strs_tail (HA2.out.row.fr fs2 (by show ¬ g = bC; omega)), HA2.out.fR.fr fs2 (by show ¬ w.heap.size = bC; omega), HA2.out.fH.fr fs2 (by show ¬ bC + 1 = bC; omega), HA2.out.fC.set 1 _, (fun b o e => by cases e; exact hgl)⟩)
                  clear fs fs2
                  have HCL2 := Lib.hid (show r.length + 1 ≤ cp1 from hcl1)
                  clear hcl1
                  rcases Nat.eq_zero_or_pos r.length with h0 | h0
                  · have h0' := Lib.hid (List.length_eq_zero_iff.1 h0)
                    clear h0
                    by_cases hc1 : cp1 = 1
                    · subst hc1
                      go_region
                      all_goals
                        go_wp2_with fail
                        go_meet
                        exact ⟨n, r, _, _, rfl, HN2.out, le_of_nil h0'.out _, HAN.out _ h0'.out⟩
                    · have hc2 : cp1 - 1 ≠ 0 := by have := HCL2.out; omega
                      go_region
                      all_goals
                        go_wp2_with fail
                        go_meet
                        exact ⟨n, r, _, _, rfl, HN2.out, le_of_nil h0'.out _, HAN.out _ h0'.out⟩
                  · have h0' : r.length ≠ 0 := by omega
                    have hc2 : cp1 - 1 ≠ 0 := by have := HCL2.out; omega
                    go_region
                    all_goals
                      go_wp2_with fail
                      go_meet
                      exact ⟨n, r, _, _, rfl, HN2.out, by have := HCL2.out; omega, HAC.out⟩
          case rest =>
            obtain ⟨nm, ws2, A2, cp2, rfl, hcut2⟩ := hcut
            obtain ⟨hn, hcp2, hA⟩ := hcut2.out
            have HH2 := Lib.hid (show headL line = (match numsL ws2 with
              | none => none
              | some ns => match linesN s ns with
                | none => none
                | some q => if s.nums ≠ -1 ∧ (q.2.length : Int) ≠ s.nums then none else some (⟨s.kind, nm, [], q.2⟩, q.1)) by rw [HHS.out, hn]; rfl)
            obtain ⟨hw1, hw2⟩ := nameW_mem hn
            have HWL := Lib.hid (fun (x : List UInt8) (hx : x ∈ ws2) => HN2.out x (by simp [hw2 x hx]))
            obtain ⟨j0, hj0, jz0, jz1, jz2⟩ := info_parts info_int
            have HI := Lib.hid (And.intro hj0 (And.intro jz0 (And.intro jz1 jz2)))
            have HN0 := Lib.hid (show HrN w w.heap.size (bC + 1) bC wc.heap.size A2 s nm ws2 0 [] (.slice none 0 0) wc from ⟨hA.le, rfl, (fun n hn => by simp at hn), World.ownsRow_nil _ _ _ _, hA.row, hA.fR, hA.fH, hA.fC, Nat.le_refl _⟩)
            have HBK := Lib.hid hA.blk
            have hbC : bC < wc.heap.size := hA.fC.lt
            have hbX : bC + 1 < wc.heap.size := hA.fH.lt
            have hltR := HW2.out.1
            have hwl9 : ws2.length ≤ 4294967281 := by simp at hn1; omega
            clear hA hcut2 hn hw1 hw2 hj0 jz0 jz1 jz2 HHS HSN
            go_wp2_with fail
            go_loopw [11] (fun i wr => ∃ (j : Nat) (ns : List Int) (vN : Value), j ≤ ws2.length ∧ i = .int .i64 j ∧ Hid (HrN w w.heap.size (bC + 1) bC wc.heap.size A2 s nm ws2 j ns vN wr)) (fun i _ => ws2.length - (intOf i).toNat)
            case atStart => exact ⟨0, [], _, by omega, rfl, HN0⟩
            case round =>
              obtain ⟨j, ns, vN, hj, rfl, hN⟩ := hrel
              by_cases hjn : j < ws2.length
              · obtain ⟨b, o, rfl, hcell⟩ := hN.out.row.at_ (k := j) (by simpa using hjn)
                rw [List.getElem_map] at hcell
                have HBAD := Lib.hid (fun hx => show headL line = none by rw [HH2.out, hN.out.bad hjn hx])
                have HP := Lib.hid (fun (wx w6 : World) (v' : Value) (x : Int) (h : HrN w w.heap.size (bC + 1) bC wc.heap.size _ s nm ws2 j ns vN wx) (hx : numO ws2[j] = some x) (hg : wx.grownBy w6 vN.ownBlock) (hown : w6.ownsRow wc.heap.size 3 1 v' (ns.length + 1) (ns.map (Value.int .i64) ++ [.int .i64 x])) => h.push hjn hx hg hown hltR (by omega) hbX hbC (Nat.le_of_lt hltR) HBK.out)
                have hyl := HWL.out _ (List.getElem_mem hjn)
                have HNL := Lib.hid (show ns.length = j by have := congrArg List.length hN.out.eq; simp at this; omega)
                have HNU := Lib.hid (fun W => rnumber_any ws2[j] W (by omega))
                unfold RetNum at HNU
                generalize ws2[j] = y at *
                have r1 : (0 : Int) ≤ j := by omega
                have r2 : (j : Int) < ws2.length := by omega
                have hlb := block_lt_of_cell hcell
                go_wp2_with fail
                refine (HNU.out wr).mono ?_
                rintro e w3 ⟨⟨v, hx, rfl⟩ | ⟨hx, z, rfl⟩, rfl⟩
                · have HX := Lib.hid hx
                  clear hx hcell hlb
                  obtain ⟨y0, y1, y2, y3, z0, z1, z2, z3⟩ := hN.out.fC.four
                  obtain ⟨Av, cv, rfl, _, _⟩ := own_formB hN.out.own
                  have HO := Lib.hid (hN.out.below (below_box w3 (Obj.cells #[.int .i64 v] 3)))
                  have hC3 := Lib.hid (fun (w6 : World) hg => (HO.out.cell3 (w6 := w6) hg hbC).four)
                  go_wp2_with (at_builtin; go_loud (refine wpList_app _ rfl _ _ 40 rfl wc.heap.size 3 j0 (.int .i64 0) 1 8 Tryd.underlying40 HI.out.1 HI.out.2.1 HI.out.2.2.1 HI.out.2.2.2 rfl (by decide) _ _ _ rfl HO.out.own (some ⟨w3.heap.size, 0, none⟩) 1 1 [.int .i64 v] rfl rfl (cells_newU w3 rfl _ _) (one_i64 _) (by have := HNL.out; unfold maxLen; omega) (by have := HNL.out; omega) HO.out.sz ?_; intro v' w6 hown' hgrow _; obtain ⟨A6, c6, rfl, _, _⟩ := own_formB hown'; have NX := Lib.hid (HP.out _ _ _ _ HO.out HX.out hgrow hown'); obtain ⟨p0, p1, p2, p3, t0, t1, t2, t3⟩ := hC3.out w6 hgrow; clear hown' hgrow))
                  go_roundw
                  case rel =>
                    (repeat apply Exists.intro)
                    exact ⟨⟨j + 1, ns ++ [v], _, by omega, by go_num, NX⟩, rfl⟩
                  case measure => simp [intOf]; omega
                · have HN := Lib.hid (HBAD.out hx)
                  clear hx hcell hlb
                  obtain ⟨Av, cv, rfl, _, _⟩ := own_formB hN.out.own
                  obtain ⟨c0, c1, c2, c3, _⟩ := hN.out.fC.four
                  have hlC := hN.out.fC.lt
                  obtain ⟨y0, y1, y2, y3, z0, z1, z2, z3⟩ := hN.out.fR.four
                  go_wp2_with fail
                  have rbF := hN.out.fR.set4 (.int .u8 s.kind) (.string (bs nm)) (.string ⟨#[]⟩) (.slice Av ns.length cv)
                  have qF := below_set4 hN.out.le (Nat.le_refl w.heap.size) (.int .u8 s.kind) (.string (bs nm)) (.string ⟨#[]⟩) (.slice Av ns.length cv)
                  obtain ⟨s0, s1, s2, s3, _⟩ := rbF.four
                  exact bodyPost_ret (v := .tuple #[.agg #[.int .u8 s.kind, .string (bs nm), .string ⟨#[]⟩, .slice Av ns.length cv], .int .i64 0, .bool false]) (by simp [results, Tryd.results33, go_sem, s0, s1, s2, s3]) rfl ⟨qF, .inl ⟨HN.out, s.kind, nm, _, _, _, rfl⟩⟩
              · obtain rfl : j = ws2.length := by omega
                have HH3 := Lib.hid (show headL line = (match linesN s ns with
                  | none => none
                  | some q => if s.nums ≠ -1 ∧ (q.2.length : Int) ≠ s.nums then none else some (⟨s.kind, nm, [], q.2⟩, q.1)) by rw [HH2.out, hN.out.end_])
                obtain ⟨A3, c3, rfl, hints⟩ := ints_of_own hN.out.own
                have hcap : ns.length ≤ c3 := by obtain ⟨_, _, e, hc, _⟩ := own_formB hN.out.own; cases e; exact hc
                have HGE := Lib.hid (fun (b o : Nat) (e : A3 = some ⟨b, o, none⟩) => show wc.heap.size ≤ b from own_block_geB hN.out.own b (by rw [e]; rfl))
                have HNL := Lib.hid <| show ns.length = ws2.length by have := congrArg List.length hN.out.eq; simp at this; omega
                have hle := Lib.hid hN.out.le
                have hfit := Lib.hid hN.out.fit
                have hfR := Lib.hid hN.out.fR
                have hfH := Lib.hid hN.out.fH
                have hfC := Lib.hid hN.out.fC
                have HINT := Lib.hid hints
                clear hN hints HH2
                obtain ⟨h0, h1, h2, h3, _⟩ := hfH.out.four
                have hbH := hfH.out.lt
                generalize hsx : s.text = sx at h2
                have HSX := Lib.hid hsx
                go_upto_if 87 with fail
                clear h0 h1 h2 h3
                go_cut [14, 15] from 88 to 112 (fun v _ wk => ∃ (k : Nat) (ns2 : List Int) (A : Option Addr) (c : Nat), v = .int .i64 k ∧ Hid (LirR w w.heap.size (bC + 1) bC s nm ns k ns2 A c wk))
                case first =>
                  cases sx with
                  | false =>
                    have HL := Lib.hid (show linesN s ns = some (0, ns) by unfold linesN; rw [HSX.out]; rfl)
                    go_wp2_with fail
                    go_meet
                    exact ⟨0, ns, A3, c3, rfl, ⟨HL.out, by omega, hle.out, HINT.out, hfR.out, hfH.out, hfC.out, fun b o e => by have := HGE.out b o e; omega⟩⟩
                  | true =>
                    obtain ⟨c0, c1, c2, c3', d0, d1, d2, d3⟩ := hfC.out.four
                    have hbCl := hfC.out.lt
                    rcases snoc_or ns with rfl | ⟨ns2, x, rfl⟩
                    · have HN := Lib.hid (show headL line = none by rw [HH3.out]; unfold linesN; rw [HSX.out]; rfl)
                      obtain ⟨y0, y1, y2, y3, z0, z1, z2, z3⟩ := hfR.out.four
                      go_wp2_with fail
                      have rbF := hfR.out.set4 (.int .u8 s.kind) (.string (bs nm)) (.string ⟨#[]⟩) (.slice A3 0 c3)
                      have qF := below_set4 hle.out (Nat.le_refl w.heap.size) (.int .u8 s.kind) (.string (bs nm)) (.string ⟨#[]⟩) (.slice A3 0 c3)
                      obtain ⟨s0, s1, s2, s3, _⟩ := rbF.four
                      exact bodyPost_ret (v := .tuple #[.agg #[.int .u8 s.kind, .string (bs nm), .string ⟨#[]⟩, .slice A3 0 c3], .int .i64 0, .bool false]) (by simp [results, Tryd.results33, go_sem, s0, s1, s2, s3]) rfl ⟨qF, .inl ⟨HN.out, s.kind, nm, _, _, _, rfl⟩⟩
                    · have HLX := Lib.hid (show linesN s (ns2 ++ [x]) = if x < 0 then none else some (x.toNat, ns2) by
                        unfold linesN; rw [HSX.out]; simp only [if_true]; rw [List.getLast?_concat, List.dropLast_concat])
                      have hxl : (ns2 ++ [x]).length = ns2.length + 1 := by simp
                      obtain ⟨b, o, rfl, hcx⟩ := HINT.out.at_ (k := ns2.length) (by rw [hxl]; omega)
                      rw [List.getElem_concat_length rfl] at hcx
                      have hxb := hfit.out x (by simp)
                      have HI2 := Lib.hid (show IntsAt wr (some ⟨b, o, none⟩) ns2 from fun k y hk => HINT.out k y (by rw [List.getElem?_append_left (List.getElem?_eq_some_iff.1 hk).1]; exact hk))
                      rw [hxl] at c3' hfC hcap
                      have hcap2 : ns2.length ≤ c3 := by omega
                      have hlbx := block_lt_of_cell hcx
                      have hm9 : ns2.length + 1 ≤ 4294967281 := by have := HNL.out; rw [hxl] at this; omega
                      have i0 : (0 : Int) ≤ ns2.length := by omega
                      have i1 : (ns2.length : Int) < (ns2.length + 1 : Nat) := by omega
                      by_cases hx0 : x < 0
                      · have HN := Lib.hid (show headL line = none by rw [HH3.out, HLX.out, if_pos hx0])
                        obtain ⟨y0, y1, y2, y3, z0, z1, z2, z3⟩ := hfR.out.four
                        go_wp2_with fail
                        have rbF := hfR.out.set4 (.int .u8 s.kind) (.string (bs nm)) (.string ⟨#[]⟩) (.slice (some ⟨b, o, none⟩) (ns2.length + 1) c3)
                        have qF := below_set4 hle.out (Nat.le_refl w.heap.size) (.int .u8 s.kind) (.string (bs nm)) (.string ⟨#[]⟩) (.slice (some ⟨b, o, none⟩) (ns2.length + 1) c3)
                        obtain ⟨s0, s1, s2, s3, _⟩ := rbF.four
                        exact bodyPost_ret (v := .tuple #[.agg #[.int .u8 s.kind, .string (bs nm), .string ⟨#[]⟩, .slice (some ⟨b, o, none⟩) (ns2.length + 1) c3], .int .i64 0, .bool false]) (by simp [results, Tryd.results33, go_sem, s0, s1, s2, s3]) rfl ⟨qF, .inl ⟨HN.out, s.kind, nm, _, _, _, rfl⟩⟩
                      · obtain ⟨xn, rfl⟩ := Int.eq_ofNat_of_zero_le (show 0 ≤ x by omega)
                        have HL := Lib.hid (show linesN s (ns2 ++ [(xn : Int)]) = some (xn, ns2) by rw [HLX.out, if_neg hx0, Int.toNat_natCast])
                        have fs2 := Fr.of_set wr ⟨bC, 3, none⟩ (.slice (some ⟨b, o, none⟩) ns2.length c3)
                        have qS := Lib.hid (show Below w.heap.size w (wr.setCell ⟨bC, 3, none⟩ (.slice (some ⟨b, o, none⟩) ns2.length c3)).drew from belowDrawn (hle.out.setCell (p := ⟨bC, 3, none⟩) (Nat.le_of_lt hltR) _))
                        have rS := Lib.hid (show Bx (wr.setCell ⟨bC, 3, none⟩ (.slice (some ⟨b, o, none⟩) ns2.length c3)).drew bC #[.int .u8 s.kind, .string (bs nm), .string ⟨#[]⟩, .slice (some ⟨b, o, none⟩) ns2.length c3] from Bx.set (w := wr) hfC.out 3 (.slice (some ⟨b, o, none⟩) ns2.length c3))
                        have brS0 := hfR.out.fr fs2 (by show ¬ w.heap.size = bC; omega)
                        have brS := Lib.hid (show Bx (wr.setCell ⟨bC, 3, none⟩ (.slice (some ⟨b, o, none⟩) ns2.length c3)).drew w.heap.size _ from brS0)
                        have HBS0 := hfH.out.fr fs2 (by show ¬ bC + 1 = bC; omega)
                        have HBS := Lib.hid (show Bx (wr.setCell ⟨bC, 3, none⟩ (.slice (some ⟨b, o, none⟩) ns2.length c3)).drew (bC + 1) _ from HBS0)
                        have hbne : b ≠ bC := by
                          have := HGE.out b o rfl
                          omega
                        have IS := Lib.hid (show IntsAt (wr.setCell ⟨bC, 3, none⟩ (.slice (some ⟨b, o, none⟩) ns2.length c3)).drew (some ⟨b, o, none⟩) ns2 from fun k y hk => by
                          obtain ⟨b', o', e, h⟩ := HI2.out k y hk
                          cases e
                          exact ⟨_, _, rfl, fs2.cell h (fun e => hbne e)⟩)
                        clear fs2 brS0 HBS0
                        go_upto_region 29 with fail
                        go_region
                        all_goals
                          go_wp2_with fail
                          go_meet
                          exact ⟨xn, ns2, _, _, rfl, ⟨HL.out, by omega, qS.out, IS.out, brS.out, HBS.out, rS.out, fun b' o' e => by cases e; have := HGE.out b o rfl; omega⟩⟩
                case rest =>
                  obtain ⟨k, ns2, A, c, rfl, hL⟩ := hcut
                  have HH4 := Lib.hid (show headL line = if s.nums ≠ -1 ∧ (ns2.length : Int) ≠ s.nums then none else some (⟨s.kind, nm, [], ns2⟩, k) by rw [HH3.out, hL.out.ln])
                  obtain ⟨h0, h1, h2, h3, _⟩ := hL.out.fH.four
                  obtain ⟨c0, c1, c2, c3', _⟩ := hL.out.fC.four
                  have hlH := hL.out.fH.lt
                  have hlC := hL.out.fC.lt
                  have hlo := HLO.out
                  generalize s.nums = sm at *
                  have hs1 : (0 ≤ sm ∧ decide (0 ≤ sm) = true ∧ (ns2.length : Int) ≠ sm ∧ ((ns2.length : Int) != sm) = true) ∨ (¬ (sm ≠ -1 ∧ (ns2.length : Int) ≠ sm) ∧ ((sm = -1 ∧ decide (0 ≤ sm) = false) ∨ (0 ≤ sm ∧ decide (0 ≤ sm) = true ∧ (ns2.length : Int) = sm ∧ ((ns2.length : Int) != sm) = false))) := by
                    by_cases h1 : sm = -1
                    · right; exact ⟨fun h => h.1 h1, .inl ⟨h1, by rw [h1]; rfl⟩⟩
                    · have h0 : 0 ≤ sm := by omega
                      by_cases h2 : (ns2.length : Int) = sm
                      · right; exact ⟨fun h => h.2 h2, .inr ⟨h0, decide_eq_true h0, h2, by rw [h2]; simp⟩⟩
                      · left; exact ⟨h0, decide_eq_true h0, h2, bne_iff_ne.2 h2⟩
                  rcases hs1 with ⟨e1, e2, e3, e4⟩ | ⟨en, hs1⟩
                  · have HN := Lib.hid (show headL line = none by rw [HH4.out, if_pos ⟨by omega, e3⟩])
                    clear HH4 HH3
                    obtain ⟨y0, y1, y2, y3, z0, z1, z2, z3⟩ := hL.out.fR.four
                    go_wp2_with fail
                    have rbF := hL.out.fR.set4 (.int .u8 s.kind) (.string (bs nm)) (.string ⟨#[]⟩) (.slice A ns2.length c)
                    have qF := below_set4 hL.out.le (Nat.le_refl w.heap.size) (.int .u8 s.kind) (.string (bs nm)) (.string ⟨#[]⟩) (.slice A ns2.length c)
                    obtain ⟨s0, s1, s2, s3, _⟩ := rbF.four
                    exact bodyPost_ret (v := .tuple #[.agg #[.int .u8 s.kind, .string (bs nm), .string ⟨#[]⟩, .slice A ns2.length c], .int .i64 0, .bool false]) (by simp [results, Tryd.results33, go_sem, s0, s1, s2, s3]) rfl ⟨qF, .inl ⟨HN.out, s.kind, nm, _, _, _, rfl⟩⟩
                  · have HN := Lib.hid (show headL line = some (⟨s.kind, nm, [], ns2⟩, k) by rw [HH4.out, if_neg en])
                    clear HH4 HH3 en
                    have rbF := Lib.hid (hL.out.fR.set4 (.int .u8 s.kind) (.string (bs nm)) (.string ⟨#[]⟩) (.slice A ns2.length c))
                    have qF := Lib.hid (below_set4 hL.out.le (Nat.le_refl w.heap.size) (.int .u8 s.kind) (.string (bs nm)) (.string ⟨#[]⟩) (.slice A ns2.length c))
                    have IF := Lib.hid (show IntsAt ((((wc.setCell ⟨w.heap.size, 0, none⟩ (.int .u8 s.kind)).setCell ⟨w.heap.size, 1, none⟩ (.string (bs nm))).setCell ⟨w.heap.size, 2, none⟩ (.string ⟨#[]⟩)).setCell ⟨w.heap.size, 3, none⟩ (.slice A ns2.length c)) A ns2 from fun j y hj => by
                      obtain ⟨b, o, e, h⟩ := hL.out.ints j y hj
                      have hb := hL.out.blk b o e
                      exact ⟨b, o, e, (((Fr.of_set wc ⟨w.heap.size, 0, none⟩ (.int .u8 s.kind)).trans (Fr.of_set _ ⟨w.heap.size, 1, none⟩ (.string (bs nm))) fun _ _ e => e).trans ((Fr.of_set _ ⟨w.heap.size, 2, none⟩ (.string ⟨#[]⟩)).trans (Fr.of_set _ ⟨w.heap.size, 3, none⟩ (.slice A ns2.length c)) fun _ _ e => e) fun _ _ e => e).cell h (fun e => by
                        have e : b = w.heap.size := e
                        omega)⟩)
                    obtain ⟨y0, y1, y2, y3, z0, z1, z2, z3⟩ := hL.out.fR.four
                    rcases hs1 with ⟨e1, e2⟩ | ⟨e1, e2, e3, e4⟩
                    all_goals
                      go_wp2_with fail
                      obtain ⟨s0, s1, s2, s3, _⟩ := rbF.out.four
                      exact bodyPost_ret (v := .tuple #[.agg #[.int .u8 s.kind, .string (bs nm), .string ⟨#[]⟩, .slice A ns2.length c], .int .i64 k, .bool true]) (by simp [results, Tryd.results33, go_sem, s0, s1, s2, s3]) rfl ⟨qF.out, .inr ⟨_, k, A, c, HN.out, hL.out.kb, IF.out, fun b o e => hL.out.blk b o e, rfl⟩⟩

end Go.Proofs.YtklljdjeobifiaaDoor
