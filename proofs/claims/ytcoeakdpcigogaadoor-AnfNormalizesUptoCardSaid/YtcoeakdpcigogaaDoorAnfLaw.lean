/-
  The law's awake.
  The law's size, few, arguments, same.
  The law's same; more fuel, plainly.
-/
import Derived.Test.YtcoeakdpcigogaaDoorAnfEv7
import Derived.Test.YtcoeakdpcigogaaDoorFunRow
import Derived.Lib.QuietBelow
import Derived.Deep.RegionHeld3
namespace Go.Proofs.YtcoeakdpcigogaaDoor
open Go.ChangeShapes Go.WideShapes Go.ChangeAt Go.RowKit Go.Sort Go.Maps

theorem nds_pair (w : World) {b : Nat} (x y : Nd) (A : Option Addr) (c : Nat) (B : Option Addr) (d : Nat) (hx : Bx w b #[.int .u8 x.kind, .int .i64 x.num, .string x.name, .slice A x.kids.length c, .int .u8 y.kind, .int .i64 y.num, .string y.name, .slice B y.kids.length d]) (h : NdsAt w A x.kids) (g : NdsAt w B y.kids) : NdsAt w (some ⟨b, 0, none⟩) [x, y] := fun k z hk => by
  match k, hk with
  | 0, hk => simp at hk; subst hk; exact ⟨_, _, rfl, nd_of_cells (hx.cell rfl) (hx.cell rfl) (hx.cell rfl) (hx.cell rfl) h⟩
  | 1, hk => simp at hk; subst hk; exact ⟨_, _, rfl, nd_of_cells (hx.cell rfl) (hx.cell rfl) (hx.cell rfl) (hx.cell rfl) g⟩
  | k + 2, hk => simp at hk
theorem nds_none (w : World) (A : Option Addr) : NdsAt w A [] := fun k z hk => by simp at hk
/-- The example's library. -/
def AWW (w : World) : World := (((((((w.alloc (Obj.cells #[.int .u8 81, .int .i64 0, .string ⟨#[120]⟩, .slice none 0 0] 53)).alloc (Obj.cells #[.int .u8 81, .int .i64 0, .string ⟨#[120]⟩, .slice none 0 0, .int .u8 80, .int .i64 1, .string ⟨#[]⟩, .slice none 0 0] 53)).alloc (Obj.cells #[.int .u8 85, .int .i64 0, .string ⟨#[102]⟩, .slice (some ⟨w.heap.size + 1, 0, none⟩) 2 2] 53)).alloc (Obj.cells #[.string ⟨#[120]⟩, .bool false, .string ⟨#[121]⟩, .bool false] 65)).alloc (Obj.cells #[.string ⟨#[120]⟩, .bool false] 65)).alloc (Obj.cells #[.int .u8 81, .int .i64 0, .string ⟨#[120]⟩, .slice none 0 0, .int .u8 85, .int .i64 0, .string ⟨#[102]⟩, .slice (some ⟨w.heap.size + 1, 0, none⟩) 2 2] 53)).alloc (Obj.cells #[.string ⟨#[102]⟩, .slice (some ⟨w.heap.size + 1 + 1 + 1, 0, none⟩) 2 2, .bool false, .int .u8 81, .int .i64 0, .string ⟨#[120]⟩, .slice none 0 0, .string ⟨#[104]⟩, .slice (some ⟨w.heap.size + 1 + 1 + 1 + 1, 0, none⟩) 1 1, .bool false, .int .u8 82, .int .i64 8, .string ⟨#[]⟩, .slice (some ⟨w.heap.size + 1 + 1 + 1 + 1 + 1, 0, none⟩) 2 2] 55))
theorem bx_at (w : World) {n : Nat} (h : w.heap.size = n) (cs : Array Value) (T : TypeId) : Bx (w.alloc (Obj.cells cs T)) n cs := by subst h; exact bx_new w cs T
theorem aw_mem (w : World) : Below w.heap.size w (AWW w) ∧ LibAt (AWW w) (some ⟨w.heap.size + 1 + 1 + 1 + 1 + 1 + 1, 0, none⟩) awLib := by
  unfold AWW
  generalize hW1 : w.alloc _ = W1
  generalize hW2 : W1.alloc _ = W2
  generalize hW3 : W2.alloc _ = W3
  generalize hW4 : W3.alloc _ = W4
  generalize hW5 : W4.alloc _ = W5
  generalize hW6 : W5.alloc _ = W6
  generalize hW7 : W6.alloc _ = W7
  have s1 : W1.heap.size = w.heap.size + 1 := by rw [← hW1]; simp
  have s2 : W2.heap.size = w.heap.size + 1 + 1 := by rw [← hW2]; simp [s1]
  have s3 : W3.heap.size = w.heap.size + 1 + 1 + 1 := by rw [← hW3]; simp [s2]
  have s4 : W4.heap.size = w.heap.size + 1 + 1 + 1 + 1 := by rw [← hW4]; simp [s3]
  have s5 : W5.heap.size = w.heap.size + 1 + 1 + 1 + 1 + 1 := by rw [← hW5]; simp [s4]
  have s6 : W6.heap.size = w.heap.size + 1 + 1 + 1 + 1 + 1 + 1 := by rw [← hW6]; simp [s5]
  have b1 : Below w.heap.size w W1 := by rw [← hW1]; exact below_box w _
  have b2 : Below W1.heap.size W1 W2 := by rw [← hW2]; exact below_box W1 _
  have b3 : Below W2.heap.size W2 W3 := by rw [← hW3]; exact below_box W2 _
  have b4 : Below W3.heap.size W3 W4 := by rw [← hW4]; exact below_box W3 _
  have b5 : Below W4.heap.size W4 W5 := by rw [← hW5]; exact below_box W4 _
  have b6 : Below W5.heap.size W5 W6 := by rw [← hW6]; exact below_box W5 _
  have b7 : Below W6.heap.size W6 W7 := by rw [← hW7]; exact below_box W6 _
  have x2 : Bx W2 (w.heap.size + 1) #[.int .u8 81, .int .i64 0, .string ⟨#[120]⟩, .slice none 0 0, .int .u8 80, .int .i64 1, .string ⟨#[]⟩, .slice none 0 0] := by rw [← hW2]; exact bx_at W1 s1 _ _
  have x4 : Bx W4 (w.heap.size + 1 + 1 + 1) #[.string ⟨#[120]⟩, .bool false, .string ⟨#[121]⟩, .bool false] := by rw [← hW4]; exact bx_at W3 s3 _ _
  have x5 : Bx W5 (w.heap.size + 1 + 1 + 1 + 1) #[.string ⟨#[120]⟩, .bool false] := by rw [← hW5]; exact bx_at W4 s4 _ _
  have x6 : Bx W6 (w.heap.size + 1 + 1 + 1 + 1 + 1) #[.int .u8 81, .int .i64 0, .string ⟨#[120]⟩, .slice none 0 0, .int .u8 85, .int .i64 0, .string ⟨#[102]⟩, .slice (some ⟨w.heap.size + 1, 0, none⟩) 2 2] := by rw [← hW6]; exact bx_at W5 s5 _ _
  have x7 : Bx W7 (w.heap.size + 1 + 1 + 1 + 1 + 1 + 1) #[.string ⟨#[102]⟩, .slice (some ⟨w.heap.size + 1 + 1 + 1, 0, none⟩) 2 2, .bool false, .int .u8 81, .int .i64 0, .string ⟨#[120]⟩, .slice none 0 0, .string ⟨#[104]⟩, .slice (some ⟨w.heap.size + 1 + 1 + 1 + 1, 0, none⟩) 1 1, .bool false, .int .u8 82, .int .i64 8, .string ⟨#[]⟩, .slice (some ⟨w.heap.size + 1 + 1 + 1 + 1 + 1, 0, none⟩) 2 2] := by rw [← hW7]; exact bx_at W6 s6 _ _
  have x2' := ((((x2.below b3).below b4).below b5).below b6).below b7
  have x4' := ((x4.below b5).below b6).below b7
  have x5' := (x5.below b6).below b7
  have x6' := x6.below b7
  have n1 : NdsAt W7 (some ⟨w.heap.size + 1, 0, none⟩) [axN, a1N] := nds_pair W7 axN a1N none 0 none 0 x2' (nds_none _ _) (nds_none _ _)
  have n2 : NdsAt W7 (some ⟨w.heap.size + 1 + 1 + 1 + 1 + 1, 0, none⟩) [axN, acN] := nds_pair W7 axN acN none 0 (some ⟨w.heap.size + 1, 0, none⟩) 2 x6' (nds_none _ _) n1
  have p1 : PmsAt W7 (some ⟨w.heap.size + 1 + 1 + 1, 0, none⟩) [⟨sx, false⟩, ⟨sy, false⟩] := fun k z hk => by
    match k, hk with
    | 0, hk => simp at hk; subst hk; exact ⟨_, _, rfl, x4'.cell rfl, x4'.cell rfl⟩
    | 1, hk => simp at hk; subst hk; exact ⟨_, _, rfl, x4'.cell rfl, x4'.cell rfl⟩
    | k + 2, hk => simp at hk
  have p2 : PmsAt W7 (some ⟨w.heap.size + 1 + 1 + 1 + 1, 0, none⟩) [⟨sx, false⟩] := fun k z hk => by
    match k, hk with
    | 0, hk => simp at hk; subst hk; exact ⟨_, _, rfl, x5'.cell rfl, x5'.cell rfl⟩
    | k + 1, hk => simp at hk
  refine ⟨below_step (below_step (below_step (below_step (below_step (below_step b1 b1.size b2) (by omega) b3) (by omega) b4) (by omega) b5) (by omega) b6) (by omega) b7, fun k g hk => ?_⟩
  match k, hk with
  | 0, hk =>
    simp [awLib] at hk; subst hk
    refine ⟨_, _, rfl, fnO_of_cells (f := awF1) (c7 := [.string sf, .slice (some ⟨w.heap.size + 1 + 1 + 1, 0, none⟩) 2 2, .bool false, .int .u8 81, .int .i64 0, .string sx, .slice none 0 0]) ⟨_, _, _, _, rfl, p1, nds_none W7 _⟩ fun j hj => ?_⟩
    match j, hj with
    | 0, _ => exact x7.cell rfl
    | 1, _ => exact x7.cell rfl
    | 2, _ => exact x7.cell rfl
    | 3, _ => exact x7.cell rfl
    | 4, _ => exact x7.cell rfl
    | 5, _ => exact x7.cell rfl
    | 6, _ => exact x7.cell rfl
    | j + 7, h => omega
  | 1, hk =>
    simp [awLib] at hk; subst hk
    refine ⟨_, _, rfl, fnO_of_cells (f := awF2) (c7 := [.string sh, .slice (some ⟨w.heap.size + 1 + 1 + 1 + 1, 0, none⟩) 1 1, .bool false, .int .u8 82, .int .i64 8, .string ⟨#[]⟩, .slice (some ⟨w.heap.size + 1 + 1 + 1 + 1 + 1, 0, none⟩) 2 2]) ⟨_, _, _, _, rfl, p2, n2⟩ fun j hj => ?_⟩
    match j, hj with
    | 0, _ => exact x7.cell rfl
    | 1, _ => exact x7.cell rfl
    | 2, _ => exact x7.cell rfl
    | 3, _ => exact x7.cell rfl
    | 4, _ => exact x7.cell rfl
    | 5, _ => exact x7.cell rfl
    | 6, _ => exact x7.cell rfl
    | j + 7, h => omega
  | k + 2, hk => simp [awLib] at hk

theorem aw_vls (w : World) : VlsX (w.alloc (Obj.cells #[.bool false, .int .i64 5, .slice none 0 0] 46)) (fun _ => False) (some ⟨w.heap.size, 0, none⟩) [⟨false, 5, []⟩] := fun k v hk => by
  have bx := bx_new w #[.bool false, .int .i64 5, .slice none 0 0] 46
  match k, hk with
  | 0, hk => simp at hk; subst hk; exact ⟨w.heap.size, 0, none, 0, rfl, id, bx.cell rfl, bx.cell rfl, bx.cell rfl, IntsC.nil _ _ _ _⟩
  | k + 1, hk => simp at hk
def RetAw (w : World) (e : Ending) (w' : World) : Prop := Below w.heap.size w w' ∧ ∃ A c, e = .returned (.tuple #[.slice A 2 c, .int .i64 0]) ∧ AfsAt w' A (normL awLib)
theorem aw_normalize {w : World} (hW : Wld w) {A : Option Addr} (hL : LibAt w A awLib) : Calls Tryd.prog 11 #[.slice A 2 2] w (RetAw w) := by
  refine (Normalize_any (cap := 2) hW hL aw_fit aw_few aw_nodes (by decide)).mono ?_
  rintro e w' ⟨hb, ⟨h, _⟩ | ⟨_, A', c, h1, h2⟩⟩
  · exact absurd aw_valid h
  · exact ⟨hb, A', c, h1, h2⟩
def RetA2 (w : World) (e : Ending) (w' : World) : Prop := Below w.heap.size w w' ∧ ∃ A c, e = .returned (.tuple #[.agg #[.bool false, .int .i64 10, .slice A 0 c], .int .i64 0])
theorem aw_evals {w : World} {A : Option Addr} {c : Nat} (hL : AfsAt w A (normL awLib)) {Al : Option Addr} (hV : VlsX w (fun _ => False) Al [⟨false, 5, []⟩]) (cl : Nat) : Calls Tryd.prog 19 #[.slice A 2 c, .string ⟨#[104]⟩, .slice Al 1 cl, .int .i64 9] w (RetA2 w) := by
  have hfit : ∀ g ∈ normL awLib, AfFit g := fun g hg => afFitB_ok (List.all_eq_true.1 aw_norm g hg)
  have h := aEval_any c hL hfit (fun g hg => by have := of_decide_eq_true (List.all_eq_true.1 aw_names g hg); omega) (by rw [aw_len]; omega) (ar_valid hfit) ⟨#[104]⟩ Al [⟨false, 5, []⟩] cl hV (fun v hv => by simp at hv; subst hv; simp) (by simp) 9 (fun _ _ _ _ _ => by omega)
  rw [aw_len] at h
  refine h.mono ?_
  rintro e w' ⟨hb, _, A', c', h1, _⟩
  rw [show aEval apR (normL awLib) ⟨#[104]⟩ [⟨false, 5, []⟩] 9 = (0, ⟨false, 10, []⟩) from aw_eval] at h1
  exact ⟨hb, A', c', h1⟩
/-- What the example reads of the normalized library. -/
structure AwR (w : World) (A : Option Addr) : Prop where
  r : ∃ b o Ab0 cb0 Ab1 cb1 b2 o2, A = some ⟨b, o, none⟩ ∧ w.cell? ⟨b, o + 4, none⟩ = some (.slice Ab0 0 cb0) ∧ w.cell? ⟨b, o + 5, none⟩ = some (.string ⟨#[120]⟩) ∧ w.cell? ⟨b, o + 6 + 4, none⟩ = some (.slice Ab1 4 cb1) ∧ w.cell? ⟨b, o + 6 + 5, none⟩ = some (.string ⟨#[116, 51]⟩) ∧ Ab1 = some ⟨b2, o2, none⟩ ∧ w.cell? ⟨b2, o2 + 16 + 2, none⟩ = some (.int .u8 85) ∧ b < w.heap.size ∧ b2 < w.heap.size
theorem aw_read {w : World} {A : Option Addr} (h : AfsAt w A (normL awLib)) : AwR w A := by
  obtain ⟨f0, h0⟩ : ∃ f0, (normL awLib)[0]? = some f0 := ⟨_, List.getElem?_eq_getElem (by rw [aw_len]; omega)⟩
  obtain ⟨f1, h1⟩ : ∃ f1, (normL awLib)[1]? = some f1 := ⟨_, List.getElem?_eq_getElem (by rw [aw_len]; omega)⟩
  have e0 := aw_f0
  rw [h0] at e0
  simp at e0
  have e1 := aw_f1
  rw [h1] at e1
  simp at e1
  obtain ⟨b, o, cs0, rfl, ⟨Ap, cp, Aτ, cτ, Ab0, cb0, rfl, _⟩, c0⟩ := h 0 f0 h0
  obtain ⟨b', o', cs1, e, ⟨Ap1, cp1, Aτ1, cτ1, Ab1, cb1, rfl, _, _, hb1⟩, c1⟩ := h 1 f1 h1
  cases e
  obtain ⟨t, ht, hop⟩ := e1.2.2
  obtain ⟨b2, o2, rfl, hbo⟩ := hb1 2 t ht
  obtain ⟨cs, ⟨Aa, ca, At, ct, Ae, ce, rfl, _⟩, _, hc⟩ := hbo.open_
  have k1 := c0 4 _ rfl
  have k2 := c0 5 _ rfl
  have k3 := c1 4 _ rfl
  have k4 := c1 5 _ rfl
  have k5 := hc 2 _ rfl
  simp only [Nat.zero_mul, Nat.add_zero, Nat.one_mul] at k1 k2 k3 k4
  have hz : f0.body.length = 0 := by rw [e0.1]; rfl
  rw [hz] at k1
  rw [e0.2] at k2
  rw [e1.1] at k3
  rw [e1.2.1] at k4
  rw [hop] at k5
  exact ⟨b, o, Ab0, cb0, _, cb1, b2, o2, rfl, k1, k2, k3, k4, rfl, k5, block_lt_of_cell k1, block_lt_of_cell k5⟩
theorem AwR.below {w w' : World} {A : Option Addr} (h : AwR w A) (hb : Below w.heap.size w w') : AwR w' A := by
  obtain ⟨b, o, Ab0, cb0, Ab1, cb1, b2, o2, e, k1, k2, k3, k4, e2, k5, l1, l2⟩ := h.r
  have := hb.size
  exact ⟨b, o, Ab0, cb0, Ab1, cb1, b2, o2, e, below_cell hb k1, below_cell hb k2, below_cell hb k3, below_cell hb k4, e2, below_cell hb k5, by omega, by omega⟩

set_option maxRecDepth 100000 in
set_option maxHeartbeats 4000000 in
theorem awake_any {w : World} (hW : Wld w) : Calls Tryd.prog 9 #[] w fun e w' => e = .returned (.bool true) ∧ Below w.heap.size w w' := by
  have HM := Lib.hid (aw_mem w)
  have HW := Lib.hid hW
  clear hW
  unfold AWW at HM
  go_enter Tryd.func9, Tryd.ntmps9
  go_wp2_with fail
  generalize World.alloc _ _ = W at HM ⊢
  refine (aw_normalize (HW.out.below HM.out.1) HM.out.2).mono ?_
  rintro e w1 ⟨hb1, A1, c1, rfl, h1⟩
  have HB1 := Lib.hid (below_step HM.out.1 HM.out.1.size hb1)
  have HA1 := Lib.hid h1
  have HBV := Lib.hid (below_box w1 (Obj.cells #[.bool false, .int .i64 5, .slice none 0 0] 46))
  have HVL := Lib.hid (aw_vls w1)
  clear hb1 h1
  go_wp2_with fail
  generalize w1.alloc _ = W2 at HBV HVL ⊢
  refine (aw_evals (HA1.out.below HBV.out) HVL.out 1).mono ?_
  rintro e w3 ⟨hb3, A3, c3, rfl⟩
  have HB3 := Lib.hid (below_step (below_step HB1.out HB1.out.size HBV.out) (by have := HB1.out.size; have := HBV.out.size; omega) hb3)
  have HBY := Lib.hid (below_box w3 (Obj.cells #[.bool false, .int .i64 10, .slice A3 0 c3] 46))
  have HXY := Lib.hid (bx_new w3 #[.bool false, .int .i64 10, .slice A3 0 c3] 46)
  have HRD := Lib.hid ((aw_read HA1.out).below (below_step (below_step HBV.out HBV.out.size hb3) (by have := HBV.out.size; have := hb3.size; omega) HBY.out))
  clear hb3
  go_upto_region 6 with fail
  generalize w3.alloc _ = W4 at HBY HXY HRD ⊢
  obtain ⟨b, o, Ab0, cb0, Ab1, cb1, b2, o2, rfl, k1, k2, k3, k4, rfl, k5, l1, l2⟩ := HRD.out.r
  obtain ⟨y0, y1, y2, _⟩ := Bx.three HXY.out
  have hly := HXY.out.lt
  go_wp2_with fail
  go_ret
  exact ⟨rfl, below_step HB3.out HB3.out.size HBY.out⟩

end Go.Proofs.YtcoeakdpcigogaaDoor

namespace Go.Proofs.YtcoeakdpcigogaaDoor
open Go.ChangeShapes Go.WideShapes Go.ChangeAt Go.RowKit Go.Sort Go.Maps

mutual
def szB : Bd → Nat
  | .mk _ _ _ _ _ _ t e => szA t t.length + szA e e.length
def szA : List Bd → Nat → Nat
  | [], s => s
  | b :: r, s => if s < 400 then szA r (s + szB b) else s
end
theorem szB_eq (b : Bd) : szB b = szA b.thn b.thn.length + szA b.els b.els.length := by cases b; rw [szB]; rfl
mutual
theorem szB_le : ∀ b : Bd, szB b + 1 ≤ bszT b
  | .mk _ _ _ _ _ _ t e => by
    rw [szB, bszT]
    have h1 := szA_le t t.length
    have h2 := szA_le e e.length
    have h3 := bszL_len t
    have h4 := bszL_len e
    omega
theorem szA_le : ∀ (l : List Bd) (s : Nat), szA l s + l.length ≤ s + bszL l
  | [], s => by rw [szA, bszL]; simp
  | b :: r, s => by
    rw [szA, bszL, List.length_cons]
    have h1 := szB_le b
    have h3 := bszL_len r
    split
    · have h2 := szA_le r (s + szB b)
      omega
    · omega
end
mutual
theorem szB_ge : ∀ b : Bd, szB b < 400 → bszT b = szB b + 1
  | .mk _ _ _ _ _ _ t e, h => by
    rw [szB] at h ⊢
    rw [bszT]
    have h1 := szA_ge t t.length (by omega)
    have h2 := szA_ge e e.length (by omega)
    omega
theorem szA_ge : ∀ (l : List Bd) (s : Nat), szA l s < 400 → szA l s + l.length = s + bszL l
  | [], s, h => by rw [szA, bszL]; simp
  | b :: r, s, h => by
    rw [szA] at h ⊢
    rw [bszL, List.length_cons]
    by_cases hs : s < 400
    · rw [if_pos hs] at h ⊢
      have h2 := szA_ge r (s + szB b) h
      have h3 := szA_mono r (s + szB b)
      have h1 := szB_ge b (by omega)
      omega
    · rw [if_neg hs] at h; omega
theorem szA_mono : ∀ (l : List Bd) (s : Nat), s ≤ szA l s
  | [], s => by rw [szA]; omega
  | b :: r, s => by
    rw [szA]
    split
    · have := szA_mono r (s + szB b); omega
    · omega
end
theorem szA_step {l : List Bd} {k s : Nat} (h : k < l.length) : szA (l.drop k) s = if s < 400 then szA (l.drop (k + 1)) (s + szB l[k]) else s := by
  rw [List.drop_eq_getElem_cons h, szA]

set_option maxRecDepth 100000 in
set_option maxHeartbeats 4000000 in
theorem size_any : ∀ (N : Nat) (l : List Bd), bszL l < N → N ≤ 2000000 → ∀ (A : Option Addr) (c : Nat) (w : World), BdsX w (fun _ => False) A l →
    Calls Tryd.prog 33 #[.slice A l.length c] w fun e w' => e = .returned (.int .i64 (szA l l.length)) ∧ Below w.heap.size w w' := by
  intro N
  induction N with
  | zero =>
    intro l hl; omega
  | succ N ih =>
    intro l hl hN A c w hA
    have HA := Lib.hid hA
    have HIH := Lib.hid ih
    have hll := bszL_len l
    clear ih hA
    go_enter Tryd.func33, Tryd.ntmps33
    go_wp2_with fail
    go_loopw [3, 4] (fun s i wr => ∃ (k sk : Nat), k ≤ l.length ∧ i = .int .i64 k ∧ s = .int .i64 sk ∧ sk ≤ l.length + bszL (l.take k) ∧ Hid (szA l l.length = szA (l.drop k) sk) ∧ Hid (Below w.heap.size w wr)) (fun _ i _ => l.length - (intOf i).toNat)
    case atStart => exact ⟨0, l.length, by omega, rfl, rfl, by omega, Lib.hid (by rw [List.drop_zero]), Lib.hid (Below.refl _ _)⟩
    case round =>
      obtain ⟨k, sk, hk, rfl, rfl, hsk, hE, hb⟩ := hrel
      by_cases hin : k < l.length
      · have HST := Lib.hid (hE.out.trans (szA_step hin))
        by_cases h4 : sk < 400
        · have HST2 := Lib.hid (HST.out.trans (if_pos h4))
          have HTK := Lib.hid (bszL_step hin)
          have hbt := bszL_take l (k + 1)
          rw [HTK.out] at hbt
          obtain ⟨b, o, rfl, hbo⟩ := HA.out k _ (List.getElem?_eq_getElem hin)
          generalize l[k] = t at *
          obtain ⟨cs, ⟨Aa, ca, At, ct, Ae, ce, rfl, _, hT, hE2⟩, _, hcell⟩ := hbo.open_
          have c0 := below_cell hb.out (hcell 0 _ rfl)
          have c6 := below_cell hb.out (hcell 6 _ rfl)
          have c7 := below_cell hb.out (hcell 7 _ rfl)
          have hlb := block_lt_of_cell c0
          have d6 := cell_regrown c6
          have d7 := cell_regrown c7
          have hz := bszT_eq t
          have hzb := szB_le t
          have HI1 := Lib.hid (fun w' (hb' : Below wr.heap.size wr w') => HIH.out t.thn (by omega) (by omega) At ct w' (hT.le (Le.belowA (below_step hb.out hb.out.size hb') fun _ _ e => e)))
          have HI2 := Lib.hid (fun w' (hb' : Below wr.heap.size wr w') => HIH.out t.els (by omega) (by omega) Ae ce w' (hE2.le (Le.belowA (below_step hb.out hb.out.size hb') fun _ _ e => e)))
          have HSB := Lib.hid (szB_eq t)
          have rk1 : (0 : Int) ≤ k := by omega
          have q1 := szA_le t.thn t.thn.length
          have q2 := szA_le t.els t.els.length
          have q3 := bszL_len t.thn
          have q4 := bszL_len t.els
          clear hbo hcell hT hE2 hE HST
          generalize szA t.thn t.thn.length = n1 at *
          generalize szA t.els t.els.length = n2 at *
          go_wp2_with fail
          refine wp_region_quiet_below (by kernel_rfl) (by kernel_rfl) ?_
          repeat (first | go_big_quiet_step ((go_at_call 33; first | with_reducible exact Calls.regrown_of (HI1.out _ (below_regrown _ _ _)) | with_reducible exact Calls.regrown_of (HI2.out _ (below_regrown _ _ _)))) | quiet_step ((go_at_call 33; first | with_reducible exact Calls.regrown_of (HI1.out _ (below_regrown _ _ _)) | with_reducible exact Calls.regrown_of (HI2.out _ (below_regrown _ _ _)))))
          refine wpQuiet_nil ?_
          intro w3 hw'
          obtain ⟨⟨dq, osq⟩, hw''⟩ := hw'
          have hb3 := below_regrown wr dq osq
          rw [← hw''] at hb3
          clear hw''
          have q := Lib.hid (below_step hb.out hb.out.size hb3)
          have hsum : (sk : Int) + ((n1 : Int) + (n2 : Int)) = ((sk + (n1 + n2) : Nat) : Int) := by omega
          rw [HSB.out] at HST2
          go_wp2_with fail
          exact ⟨⟨k + 1, sk + (n1 + n2), by omega, by go_num, by rw [hsum], by rw [HTK.out]; have := HSB.out; omega, HST2, q⟩, by simp [intOf]; omega⟩
        · have HST2 := Lib.hid (HST.out.trans (if_neg h4))
          clear HST hE
          go_wp2_with fail
          go_ret
          exact ⟨ret_i64 (by rw [HST2.out]), hb.out⟩
      · obtain rfl : k = l.length := by omega
        rw [List.drop_length, szA] at hE
        go_wp2_with fail
        go_ret
        exact ⟨ret_i64 (by rw [hE.out]), hb.out⟩

def oneB (b : Bool) : Int := if b = true then 1 else 0
def fewA (f : Af) : Bool := decide (szA f.body f.body.length ≤ 200) && decide (f.params.length ≤ 20) && decide (f.temps.length ≤ 300)
def fewB (l : List Af) : Bool := decide (l.length ≤ 8) && l.all fewA
set_option maxRecDepth 100000 in
set_option maxHeartbeats 4000000 in
theorem few_any (l : List Af) (A : Option Addr) (c : Nat) (w : World) (hA : AfsAt w A l) (hz : ∀ f ∈ l, bszL f.body ≤ 1900000) (hp : ∀ f ∈ l, f.params.length ≤ 1900000 ∧ f.temps.length ≤ 1900000) (hl : l.length ≤ 9223372036854775807) :
    Calls Tryd.prog 17 #[.slice A l.length c] w fun e w' => e = .returned (.int .i64 (oneB (fewB l))) ∧ Below w.heap.size w w' := by
  have HA := Lib.hid hA
  have HZ := Lib.hid (And.intro hz hp)
  clear hA hz hp
  by_cases h8 : 8 < l.length
  · have HE := Lib.hid (show oneB (fewB l) = 0 by unfold oneB fewB; rw [decide_eq_false (by omega : ¬ l.length ≤ 8)]; simp)
    go_enter Tryd.func17, Tryd.ntmps17
    go_wp2_with fail
    go_ret
    exact ⟨ret_i64 HE.out.symm, Below.refl _ _⟩
  have HEQ := Lib.hid (show fewB l = (l.drop 0).all fewA by unfold fewB; rw [decide_eq_true (by omega : l.length ≤ 8), List.drop_zero]; rfl)
  go_enter Tryd.func17, Tryd.ntmps17
  go_wp2_with fail
  go_loopw [3] (fun i wr => ∃ k : Nat, k ≤ l.length ∧ i = .int .i64 k ∧ Hid (fewB l = (l.drop k).all fewA) ∧ Hid (Below w.heap.size w wr)) (fun i _ => l.length - (intOf i).toNat)
  case atStart => exact ⟨0, by omega, rfl, HEQ, Lib.hid (Below.refl _ _)⟩
  case round =>
    obtain ⟨k, hk, rfl, hE, hb⟩ := hrel
    by_cases hin : k < l.length
    · have HST := Lib.hid (hE.out.trans (by rw [List.drop_eq_getElem_cons hin, List.all_cons]) : fewB l = (fewA l[k] && (l.drop (k + 1)).all fewA))
      obtain ⟨b, o, cs, rfl, hc, hcell⟩ := HA.out k _ (List.getElem?_eq_getElem hin)
      have hzk := HZ.out.1 _ (List.getElem_mem hin)
      have hpk := HZ.out.2 _ (List.getElem_mem hin)
      generalize l[k] = f at *
      obtain ⟨Ap, cp, Aτ, cτ, Ab, cb, rfl, _, _, hbs⟩ := hc
      have c1 := below_cell hb.out (hcell 1 _ rfl)
      have c3 := below_cell hb.out (hcell 3 _ rfl)
      have c4 := below_cell hb.out (hcell 4 _ rfl)
      have hlb := block_lt_of_cell c1
      have HS := Lib.hid (size_any 2000000 f.body (by omega) (by omega) Ab cb wr (hbs.le (Le.belowA hb.out fun _ _ e => e)))
      have hsz := szA_le f.body f.body.length
      have HFA := Lib.hid (fewA.eq_def f)
      have rk1 : (0 : Int) ≤ k := by omega
      clear hcell hbs hE
      generalize szA f.body f.body.length = n at *
      go_wp2_with fail
      refine HS.out.mono ?_
      clear HS
      rintro e w5 ⟨rfl, hb5⟩
      have q5 := Lib.hid (below_step hb.out hb.out.size hb5)
      have d1 := below_cell hb5 c1
      have d3 := below_cell hb5 c3
      have hl5 := block_lt_of_cell d1
      clear hb5 c1 c3 c4 hlb
      by_cases hbad : n ≤ 200 ∧ f.params.length ≤ 20 ∧ f.temps.length ≤ 300
      · have HST2 := Lib.hid (show fewB l = (l.drop (k + 1)).all fewA by rw [HST.out, HFA.out, decide_eq_true hbad.1, decide_eq_true hbad.2.1, decide_eq_true hbad.2.2]; rfl)
        obtain ⟨r1, r2, r3⟩ := hbad
        go_wp2_with fail
        exact ⟨⟨k + 1, by omega, by go_num, HST2, q5⟩, by simp [intOf]; omega⟩
      · have HE := Lib.hid (show oneB (fewB l) = 0 by
          have : fewA f = false := by
            rw [HFA.out]
            by_cases e1 : n ≤ 200
            · by_cases e2 : f.params.length ≤ 20
              · have e3 : ¬ f.temps.length ≤ 300 := fun e3 => hbad ⟨e1, e2, e3⟩
                rw [decide_eq_false e3]; simp
              · rw [decide_eq_false e2]; simp
            · rw [decide_eq_false e1]; simp
          unfold oneB; rw [HST.out, this]; simp)
        by_cases e1 : n ≤ 200
        · by_cases e2 : f.params.length ≤ 20
          · have e3 : ¬ f.temps.length ≤ 300 := fun e3 => hbad ⟨e1, e2, e3⟩
            clear hbad
            go_wp2_with fail
            go_ret
            exact ⟨ret_i64 HE.out.symm, q5.out⟩
          · clear hbad
            go_wp2_with fail
            go_ret
            exact ⟨ret_i64 HE.out.symm, q5.out⟩
        · clear hbad
          go_wp2_with fail
          go_ret
          exact ⟨ret_i64 HE.out.symm, q5.out⟩
    · obtain rfl : k = l.length := by omega
      rw [List.drop_length] at hE
      have HE := Lib.hid (show oneB (fewB l) = 1 by unfold oneB; rw [hE.out]; rfl)
      go_wp2_with fail
      go_ret
      exact ⟨ret_i64 HE.out.symm, hb.out⟩
def argB (l : List Vl) : Bool := decide (l.length ≤ 10) && l.all fun v => decide (v.l.length ≤ 60)
set_option maxRecDepth 100000 in
set_option maxHeartbeats 4000000 in
theorem arguments_any (l : List Vl) (A : Option Addr) (c : Nat) (w : World) (hA : VlsX w (fun _ => False) A l) (hl : l.length ≤ 9223372036854775807) (hv : ∀ v ∈ l, v.l.length ≤ 9223372036854775807) :
    Calls Tryd.prog 18 #[.slice A l.length c] w fun e w' => e = .returned (.int .i64 (oneB (argB l))) ∧ Below w.heap.size w w' := by
  have HA := Lib.hid (And.intro hA hv)
  clear hA hv
  by_cases h8 : 10 < l.length
  · have HE := Lib.hid (show oneB (argB l) = 0 by unfold oneB argB; rw [decide_eq_false (by omega : ¬ l.length ≤ 10)]; simp)
    go_enter Tryd.func18, Tryd.ntmps18
    go_wp2_with fail
    go_ret
    exact ⟨ret_i64 HE.out.symm, Below.refl _ _⟩
  have HEQ := Lib.hid (show argB l = (l.drop 0).all (fun v => decide (v.l.length ≤ 60)) by unfold argB; rw [decide_eq_true (by omega : l.length ≤ 10), List.drop_zero]; rfl)
  go_enter Tryd.func18, Tryd.ntmps18
  go_wp2_with fail
  go_loopw [3] (fun i wr => ∃ k : Nat, k ≤ l.length ∧ i = .int .i64 k ∧ Hid (argB l = (l.drop k).all (fun v => decide (v.l.length ≤ 60))) ∧ Hid (Below w.heap.size w wr)) (fun i _ => l.length - (intOf i).toNat)
  case atStart => exact ⟨0, by omega, rfl, HEQ, Lib.hid (Below.refl _ _)⟩
  case round =>
    obtain ⟨k, hk, rfl, hE, hb⟩ := hrel
    by_cases hin : k < l.length
    · have HST := Lib.hid (hE.out.trans (by rw [List.drop_eq_getElem_cons hin, List.all_cons]) : argB l = (decide (l[k].l.length ≤ 60) && (l.drop (k + 1)).all (fun v => decide (v.l.length ≤ 60))))
      obtain ⟨b, o, A', c', rfl, _, d0, d1, d2, _⟩ := HA.out.1 k _ (List.getElem?_eq_getElem hin)
      have hvk := HA.out.2 _ (List.getElem_mem hin)
      generalize l[k] = v at *
      have c2 := below_cell hb.out d2
      have hlb := block_lt_of_cell c2
      have rk1 : (0 : Int) ≤ k := by omega
      clear d0 d1 d2 hE
      by_cases h60 : v.l.length ≤ 60
      · have HST2 := Lib.hid (show argB l = (l.drop (k + 1)).all (fun v => decide (v.l.length ≤ 60)) by rw [HST.out, decide_eq_true h60]; rfl)
        go_wp2_with fail
        exact ⟨⟨k + 1, by omega, by go_num, HST2, hb⟩, by simp [intOf]; omega⟩
      · have HE := Lib.hid (show oneB (argB l) = 0 by unfold oneB; rw [HST.out, decide_eq_false h60]; simp)
        go_wp2_with fail
        go_ret
        exact ⟨ret_i64 HE.out.symm, hb.out⟩
    · obtain rfl : k = l.length := by omega
      rw [List.drop_length] at hE
      have HE := Lib.hid (show oneB (argB l) = 1 by unfold oneB; rw [hE.out]; rfl)
      go_wp2_with fail
      go_ret
      exact ⟨ret_i64 HE.out.symm, hb.out⟩

end Go.Proofs.YtcoeakdpcigogaaDoor

namespace Go.Proofs.YtcoeakdpcigogaaDoor
open Go.ChangeShapes Go.WideShapes Go.ChangeAt Go.RowKit Go.Sort Go.Maps

theorem two_boxV (w : World) (c1 c2 : Array Value) : Below w.heap.size w ((w.alloc (Obj.cells c1 46)).alloc (Obj.cells c2 46)) ∧ Bx ((w.alloc (Obj.cells c1 46)).alloc (Obj.cells c2 46)) w.heap.size c1 ∧ Bx ((w.alloc (Obj.cells c1 46)).alloc (Obj.cells c2 46)) (w.heap.size + 1) c2 := by
  have b1 := below_box w (Obj.cells c1 46)
  have b2 := below_box (w.alloc (Obj.cells c1 46)) (Obj.cells c2 46)
  have h2 := bx_new (w.alloc (Obj.cells c1 46)) c2 46
  rw [show (w.alloc (Obj.cells c1 46)).heap.size = w.heap.size + 1 by simp] at h2
  exact ⟨below_step b1 b1.size b2, (bx_new w c1 _).below b2, h2⟩
set_option maxRecDepth 100000 in
set_option maxHeartbeats 4000000 in
theorem same_any (v : Vl) (A B : Option Addr) (c d : Nat) (w : World) (hA : IntsAt w A v.l) (hB : IntsAt w B v.l) (hl : v.l.length ≤ 1000000) :
    Calls Tryd.prog 20 #[.agg #[.bool v.list, .int .i64 v.n, .slice A v.l.length c], .agg #[.bool v.list, .int .i64 v.n, .slice B v.l.length d]] w fun e w' => e = .returned (.int .i64 1) ∧ Below w.heap.size w w' := by
  obtain ⟨hbx, hx, hy⟩ := two_boxV w #[.bool v.list, .int .i64 v.n, .slice A v.l.length c] #[.bool v.list, .int .i64 v.n, .slice B v.l.length d]
  have HBX := Lib.hid hbx
  have HX := Lib.hid hx
  have HY := Lib.hid hy
  have HA := Lib.hid (And.intro (hA.mono hbx) (hB.mono hbx))
  clear hbx hx hy hA hB
  obtain ⟨b, n, l⟩ := v
  simp only at *
  go_enter Tryd.func20, Tryd.ntmps20
  go_upto_region 1 with fail
  generalize (w.alloc _).alloc _ = W at HBX HX HY HA ⊢
  obtain ⟨x0, x1, x2, _⟩ := Bx.three HX.out
  obtain ⟨y0, y1, y2, _⟩ := Bx.three HY.out
  have hlx := HX.out.lt
  have hly := HY.out.lt
  go_wp2_with fail
  clear x0 x1 x2 y0 y1 y2 hlx hly
  go_loopw [5] (fun i wr => ∃ k : Nat, k ≤ l.length ∧ i = .int .i64 k ∧ Hid (Below W.heap.size W wr)) (fun i _ => l.length - (intOf i).toNat)
  case atStart => exact ⟨0, by omega, rfl, Lib.hid (Below.refl _ _)⟩
  case round =>
    obtain ⟨k, hk, rfl, hb⟩ := hrel
    have HXr := Lib.hid (HX.out.below hb.out)
    have HYr := Lib.hid (HY.out.below hb.out)
    have HBr := Lib.hid (below_step HBX.out HBX.out.size hb.out)
    obtain ⟨x0, x1, x2, _⟩ := Bx.three HXr.out
    obtain ⟨y0, y1, y2, _⟩ := Bx.three HYr.out
    have hlx := HXr.out.lt
    have hly := HYr.out.lt
    by_cases hin : k < l.length
    · obtain ⟨b1, o1, rfl, c1⟩ := (HA.out.1.mono hb.out) k _ (List.getElem?_eq_getElem hin)
      obtain ⟨b2, o2, rfl, c2⟩ := (HA.out.2.mono hb.out) k _ (List.getElem?_eq_getElem hin)
      have HB2 := Lib.hid (belowDrawnP hb.out)
      have hl1 := block_lt_of_cell c1
      have hl2 := block_lt_of_cell c2
      have rk1 : (0 : Int) ≤ k := by omega
      generalize l[k] = z at *
      clear hb
      go_wp2_with fail
      go_region
      go_wp2_with fail
      exact ⟨⟨k + 1, by omega, by go_num, HB2⟩, by simp [intOf]; omega⟩
    · obtain rfl : k = l.length := by omega
      go_wp2_with fail
      go_ret
      exact ⟨rfl, HBr.out⟩

/-! ### More fuel -/
theorem aCall_more {ap : Int → Int → Int → Int × Int} {lib : List Af} (f k : Nat) (act : Nat) (g : Af) (args : List Vl) : (aCall (aRun ap lib f) act g args f = .err 18) ∨ (∃ e, aCall (aRun ap lib f) act g args f = .err e ∧ aCall (aRun ap lib (f + k)) act g args (f + k) = .err e) ∨ ∃ v f', aCall (aRun ap lib f) act g args f = .ok v f' ∧ aCall (aRun ap lib (f + k)) act g args (f + k) = .ok v (f' + k) := by
  unfold aCall
  by_cases h3 : 30 ≤ act
  · rw [if_pos h3, if_pos h3]; exact .inr (.inl ⟨19, rfl, rfl⟩)
  · rw [if_neg h3, if_neg h3]
    rcases aRun_more (ap := ap) (lib := lib) k f (f + k) (Nat.le_refl _) (act + 1) g.body (envV g.params args fun _ => none) f (Nat.le_refl _) with e | ⟨e, e1, e2⟩ | ⟨v, f', e1, e2⟩
    · rw [e]; exact .inl rfl
    · rw [e1, e2]; exact .inr (.inl ⟨e, rfl, rfl⟩)
    · rw [e1, e2]; exact .inr (.inr ⟨_, f', rfl, rfl⟩)
theorem aEval_more {ap : Int → Int → Int → Int × Int} {lib : List Af} {name : ByteArray} {args : List Vl} {F : Int} (hF : 0 ≤ F) (m : Nat) (h : (aEval ap lib name args F).1 ≠ 18) : aEval ap lib name args (F + m) = aEval ap lib name args F := by
  unfold aEval at h ⊢
  by_cases h1 : libB lib = false
  · rw [if_pos h1, if_pos h1]
  rw [if_neg h1] at h
  rw [if_neg h1, if_neg h1]
  cases hg : findA lib name with
  | none => rfl
  | some g =>
    rw [hg] at h
    dsimp only at h ⊢
    by_cases h2 : args.length ≠ g.params.length
    · rw [if_pos h2, if_pos h2]
    rw [if_neg h2] at h
    rw [if_neg h2, if_neg h2]
    by_cases h3 : tyA args g.params = false
    · rw [if_pos h3, if_pos h3]
    rw [if_neg h3] at h
    rw [if_neg h3, if_neg h3]
    by_cases h4 : longA args = true
    · rw [if_pos h4, if_pos h4]
    rw [if_neg h4] at h
    rw [if_neg h4, if_neg h4]
    rw [show (F + m).toNat = F.toNat + m by omega]
    rcases aCall_more (ap := ap) (lib := lib) F.toNat m 0 g args with e | ⟨e, e1, e2⟩ | ⟨v, f', e1, e2⟩
    · rw [e] at h; exact absurd rfl h
    · rw [e1, e2]
    · rw [e1, e2]
theorem aEval_zero {ap : Int → Int → Int → Int × Int} {lib : List Af} {name : ByteArray} {args : List Vl} {F : Int} (h : (aEval ap lib name args F).1 ≠ 0) : (aEval ap lib name args F).2 = zeroV := by
  unfold aEval at h ⊢
  split at h
  · rename_i h1; rw [if_pos h1]
  rename_i h1
  rw [if_neg h1]
  cases hg : findA lib name with
  | none => rfl
  | some g =>
    rw [hg] at h
    dsimp only at h ⊢
    split at h
    · rename_i h2; rw [if_pos h2]
    rename_i h2
    rw [if_neg h2]
    split at h
    · rename_i h3; rw [if_pos h3]
    rename_i h3
    rw [if_neg h3]
    split at h
    · rename_i h4; rw [if_pos h4]
    rename_i h4
    rw [if_neg h4]
    cases hc : aCall (aRun ap lib F.toNat) 0 g args F.toNat with
    | err e => rfl
    | ok v f' => rw [hc] at h; exact absurd rfl h
theorem aEval_neg {ap : Int → Int → Int → Int × Int} {lib : List Af} {name : ByteArray} {args : List Vl} {F : Int} (h : F < 0) : aEval ap lib name args F = aEval ap lib name args 0 := by
  unfold aEval
  rw [show F.toNat = (0 : Int).toNat by omega]
theorem oneB_t {b : Bool} (h : b = true) : oneB b = 1 := by rw [h]; rfl
theorem oneB_f {b : Bool} (h : b = false) : oneB b = 0 := by rw [h]; rfl
end Go.Proofs.YtcoeakdpcigogaaDoor
