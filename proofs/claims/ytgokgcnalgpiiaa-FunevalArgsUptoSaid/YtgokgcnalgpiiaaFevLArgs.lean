/-
  The walk of the law FunevalArgs.
-/
import Derived.Test.YtgokgcnalgpiiaaFevL0
import Derived.Test.YtgokgcnalgpiiaaFunRow
import Derived.Deep.OwnRows
namespace Go.Proofs.Ytgokgcnalgpiiaa
open Go.ChangeShapes Go.WideShapes Go.ChangeAt Go.RowKit Go.Sort Go.Maps

/-! ### What start answers (plain) -/
theorem args_none {lib : List Fn1} {name : ByteArray} {args : List Vl} {F : Int} (h : (validR lib).2 = 0) (hf : findF lib name 0 < 0) : startR lib name args F = .err 21 := by
  unfold startR; rw [if_neg (fun e => e h), if_pos hf]
theorem args_wrong {lib : List Fn1} {name : ByteArray} {args : List Vl} {F : Int} (h : (validR lib).2 = 0) {j : Nat} {f : Fn1} (hj : findF lib name 0 = j) (hf : lib[j]? = some f) (hw : args.length ≠ f.params.length ∨ tyB args f.params = false) : startR lib name args F = .err 7 := by
  unfold startR
  rw [if_neg (fun e => e h), hj, if_neg (by omega), Int.toNat_natCast, hf]
  dsimp only
  by_cases h1 : args.length ≠ f.params.length
  · rw [if_pos h1]
  · rw [if_neg h1, if_pos (hw.resolve_left h1)]
/-- The argument i with another list. -/
def longA (args : List Vl) (i n : Nat) : List Vl := args.set i ⟨((args[i]?).getD zeroV).list, ((args[i]?).getD zeroV).n, List.replicate n 0⟩
theorem longA_len (args : List Vl) (i n : Nat) : (longA args i n).length = args.length := by unfold longA; simp
theorem longA_ty {args : List Vl} {i n : Nat} : (longA args i n).map Vl.list = args.map Vl.list := by
  unfold longA
  rw [List.map_set]
  apply List.ext_getElem?
  intro k
  rw [List.getElem?_set]
  by_cases hk : i = k
  · subst hk
    rw [if_pos rfl]
    by_cases hl : i < (args.map Vl.list).length
    · rw [if_pos hl]
      have hl' : i < args.length := by simpa using hl
      rw [List.getElem?_map, List.getElem?_eq_getElem hl']
      rfl
    · rw [if_neg hl, List.getElem?_eq_none (by omega)]
  · rw [if_neg hk]
theorem args_long {lib : List Fn1} {name : ByteArray} {args : List Vl} {F : Int} (h : (validR lib).2 = 0) {j : Nat} {f : Fn1} (hj : findF lib name 0 = j) (hf : lib[j]? = some f) (hl : args.length = f.params.length) (ht : tyB args f.params = true) {i n : Nat} {u : Vl} (hu : args[i]? = some u) (hul : u.list = true) (hn : 1000 < n) : startR lib name (longA args i n) F = .err 5 := by
  have ht2 : tyB (longA args i n) f.params = true := by unfold tyB at *; rw [longA_ty]; exact ht
  have hlo : longB (longA args i n) = true := by
    unfold longB
    rw [List.any_eq_true]
    refine ⟨⟨true, u.n, List.replicate n 0⟩, ?_, by simpa using hn⟩
    unfold longA
    rw [hu]
    show _ ∈ args.set i ⟨u.list, u.n, List.replicate n 0⟩
    rw [hul]
    exact List.mem_set (List.getElem?_eq_some_iff.1 hu).1 _
  unfold startR
  rw [if_neg (fun e => e h), hj, if_neg (by omega), Int.toNat_natCast, hf]
  dsimp only
  rw [longA_len, if_neg (fun e => e hl), if_neg (by rw [ht2]; simp), if_pos hlo]

/-! ### Values in a row of the call's own -/
theorem VlsX.row {w : World} {A : Option Addr} {l : List Vl} (h : VlsX w (fun _ => False) A l) : ∃ cs, RowG (VlC w (fun _ => False)) cs l ∧ CellsAt w A cs := by
  have key : ∀ n, n ≤ l.length → ∃ cs, RowG (VlC w (fun _ => False)) cs (l.take n) ∧ CellsAt w A cs := by
    intro n
    induction n with
    | zero => intro _; exact ⟨[], by simpa using RowG.nil, fun j u hu => by simp at hu⟩
    | succ n ih =>
      intro hn
      obtain ⟨cs, h1, h2⟩ := ih (by omega)
      obtain ⟨b, o, A', c', hA, _, d0, d1, d2, hi⟩ := h n _ (List.getElem?_eq_getElem (show n < l.length by omega))
      refine ⟨cs ++ [.bool l[n].list, .int .i64 l[n].n, .slice A' l[n].l.length c'], by rw [List.take_succ_eq_append_getElem (by omega)]; exact .snoc h1 ⟨A', c', rfl, hi⟩, fun j u hu => ?_⟩
      have hl := h1.len VlC.len
      rw [List.length_take, Nat.min_eq_left (by omega)] at hl
      by_cases hj : j < cs.length
      · rw [List.getElem?_append_left hj] at hu; exact h2 j u hu
      · rw [List.getElem?_append_right (by omega)] at hu
        refine ⟨b, o, hA, ?_⟩
        obtain ⟨q, rfl⟩ : ∃ q, j = n * 3 + q := ⟨j - n * 3, by omega⟩
        rw [show n * 3 + q - cs.length = q by omega] at hu
        match q, hu with
        | 0, hu => simp at hu; subst hu; exact d0
        | 1, hu => simp at hu; subst hu; exact d1
        | 2, hu => simp at hu; subst hu; exact d2
        | q + 3, hu => simp at hu
  obtain ⟨cs, h1, h2⟩ := key l.length (Nat.le_refl _)
  rw [List.take_length] at h1
  exact ⟨cs, h1, h2⟩
theorem IntsC.setOther {w : World} {A : Option Addr} {c : Nat} {l : List Int} (h : IntsC w (fun _ => False) A c l) {a : Addr} {x : Value} (hx : ∀ n, w.cell? a ≠ some (.int .i64 n)) : IntsC (w.setCell a x) (fun _ => False) A c l := ⟨h.1, fun k y hk => by
  obtain ⟨b, o, e, h1, h2⟩ := h.2 k y hk
  refine ⟨b, o, e, h1, ?_⟩
  rw [World.cell?_setCell_other _ _ _ _ (fun e => hx y (by rw [e]; exact h2))]
  exact h2⟩
/-- One value's list is another one. -/
theorem VlsX.long {w : World} {g : Nat} {args : List Vl} (h : VlsX w (fun _ => False) (some ⟨g, 0, none⟩) args) {i n : Nat} {u : Vl} (hu : args[i]? = some u) {A' : Option Addr} {c' : Nat} (hz : IntsC w (fun _ => False) A' c' (List.replicate n 0)) :
    VlsX (w.setCell ⟨g, i * 3 + 2, none⟩ (.slice A' n c')) (fun _ => False) (some ⟨g, 0, none⟩) (longA args i n) := fun k v hk => by
  obtain ⟨bi, oi, Ai, ci, ei, _, f0, f1, f2, _⟩ := h i u hu
  cases ei
  rw [Nat.zero_add] at f2
  have hx : ∀ n, w.cell? ⟨g, i * 3 + 2, none⟩ ≠ some (.int .i64 n) := fun n e => by rw [f2] at e; cases e
  unfold longA at hk
  rw [List.getElem?_set] at hk
  by_cases hik : i = k
  · subst hik
    rw [if_pos rfl, if_pos (List.getElem?_eq_some_iff.1 hu).1, hu] at hk
    have hv := Option.some.inj hk
    subst hv
    refine ⟨g, 0, A', c', rfl, id, ?_, ?_, ?_, ?_⟩
    · rw [World.cell?_setCell_other _ _ _ _ (fun e => by have h := congrArg Addr.off e; dsimp only at h; omega)]; exact f0
    · rw [World.cell?_setCell_other _ _ _ _ (fun e => by have h := congrArg Addr.off e; dsimp only at h; omega)]; exact f1
    · show _ = some (Value.slice A' (List.replicate n 0).length c')
      rw [List.length_replicate, Nat.zero_add]
      exact World.cell?_setCell_same _ _ _ f2
    · exact hz.setOther hx
  · rw [if_neg hik] at hk
    obtain ⟨bk, ok, Ak, ck, ek, _, d0, d1, d2, hi⟩ := h k v hk
    cases ek
    refine ⟨g, 0, Ak, ck, rfl, id, ?_, ?_, ?_, hi.setOther hx⟩
    · rw [World.cell?_setCell_other _ _ _ _ (fun e => by have h := congrArg Addr.off e; dsimp only at h; omega)]; exact d0
    · rw [World.cell?_setCell_other _ _ _ _ (fun e => by have h := congrArg Addr.off e; dsimp only at h; omega)]; exact d1
    · rw [World.cell?_setCell_other _ _ _ _ (fun e => by have h := congrArg Addr.off e; dsimp only at h; omega)]; exact d2
theorem ints_made (w : World) (n : Nat) (T : TypeId) : IntsC (w.alloc (.cells (madeCells #[.int .i64 0] n) T)) (fun _ => False) (some ⟨w.heap.size, 0, none⟩) n (List.replicate n 0) := ⟨by simp, fun k x hk => by
  obtain ⟨hkn, hx⟩ := List.getElem?_eq_some_iff.1 hk
  simp at hx hkn
  subst hx
  obtain ⟨c, hc, hs, hf⟩ := World.rowIs_made w (.int .i64 0) n T
  refine ⟨w.heap.size, 0, rfl, id, ?_⟩
  rw [Nat.zero_add]
  exact (show Bx (w.alloc (.cells (madeCells #[.int .i64 0] n) T)) w.heap.size (madeCells #[.int .i64 0] n) from bx_new w _ T).cell (by
    simp [madeCells, hkn, Nat.mod_one])⟩

/-- The result's list, turned in place. -/
structure Tn (W wr : World) (A : Option Addr) (n bv : Nat) : Prop where
  hb : Below W.heap.size W wr
  at_ : ∀ k, k < n → ∃ b o x, A = some ⟨b, o, none⟩ ∧ ¬ Nw W wr b ∧ b < bv ∧ wr.cell? ⟨b, o + k, none⟩ = some (.int .i64 x)
theorem Tn.set {W wr : World} {A : Option Addr} {n bv : Nat} (h : Tn W wr A n bv) {b o k : Nat} (hA : A = some ⟨b, o, none⟩) (hk : k < n) (y : Int) : Tn W (wr.setCell ⟨b, o + k, none⟩ (.int .i64 y)) A n bv := by
  obtain ⟨b1, o1, x1, e1, n1, l1, c1⟩ := h.at_ k hk
  rw [hA] at e1; cases e1
  refine ⟨h.hb.setCell (p := ⟨b, o + k, none⟩) (by have : ¬ b < W.heap.size := fun e => n1 (.inl e); show W.heap.size ≤ b; omega) _, fun j hj => ?_⟩
  obtain ⟨b2, o2, x2, e2, n2, l2, c2⟩ := h.at_ j hj
  rw [hA] at e2; cases e2
  have n3 : ¬ Nw W (wr.setCell ⟨b, o + k, none⟩ (.int .i64 y)) b := fun e => n2 (by
    rcases e with e | ⟨q, e⟩
    · exact .inl e
    · exact .inr ⟨q, by rw [World.frozen?_setCell] at e; exact e⟩)
  by_cases hjk : j = k
  · subst hjk
    exact ⟨b, o, y, hA, n3, l2, World.cell?_setCell_same _ _ _ c2⟩
  · exact ⟨b, o, x2, hA, n3, l2, by rw [World.cell?_setCell_other _ _ _ _ (fun e => by have h := congrArg Addr.off e; dsimp only at h; omega)]; exact c2⟩

theorem own_free {w : World} {base : Nat} {e : TypeId} {size n m c g : Nat} {xs : List Value} (h : w.ownsRow base e size (.slice (some ⟨g, 0, none⟩) m c) n xs) (j : Nat) : w.frozen? ⟨g, j, none⟩ = false := by
  rcases h.2 with ⟨e, _⟩ | ⟨g', cap, cur, e, _, hc, _⟩
  · simp at e
  · simp at e
    obtain ⟨rfl, _⟩ := e
    simp [World.frozen?, hc]
def RetVN (o : OutT) (w : World) (e : Ending) (w' : World) : Prop :=
  Below w.heap.size w w' ∧ o.val.l.length ≤ 1000000 ∧ ∃ A c, IntsC w' (Nw w w') A c o.val.l ∧ e = .returned (.tuple #[.agg #[.bool o.val.list, .int .i64 o.val.n, .slice A o.val.l.length c], .int .i64 o.code])
theorem RetCallN.v {o : OutT} {w w' : World} {e : Ending} (h : RetCallN o w e w') : RetVN o w e w' := by
  obtain ⟨h1, h2⟩ := h
  rcases h2 with ⟨n, rfl, hn, rfl⟩ | ⟨t, f, rfl, hl, A, c, hi, rfl⟩
  · exact ⟨h1, by simp [OutT.val], none, 0, IntsC.nil _ _ _ _, rfl⟩
  · exact ⟨h1, hl, A, c, hi, rfl⟩
theorem Tn.of {W w' : World} {A : Option Addr} {c : Nat} {l : List Int} (hb : Below W.heap.size W w') (h : IntsC w' (Nw W w') A c l) (o : Obj) : Tn W (w'.alloc o) A l.length w'.heap.size := by
  refine ⟨below_step hb hb.size (below_box w' o), fun k hk => ?_⟩
  obtain ⟨b, off, e, hn, hc⟩ := h.2 k _ (List.getElem?_eq_getElem hk)
  have hlt := block_lt_of_cell hc
  refine ⟨b, off, _, e, fun q => hn ?_, hlt, below_cell (below_box w' o) hc⟩
  rcases q with q | ⟨j, q⟩
  · exact .inl q
  · exact .inr ⟨j, by rw [← q]; exact (World.frozen?_of_block (a := ⟨b, j, none⟩) ((below_box w' o).block b hlt)).symm⟩

theorem own_emptyA {W : World} {B C : Nat} (hB : W.heap.size = C) (hC : B ≤ C) (e : TypeId) {size : Nat} : (W.alloc (Obj.cells #[] e)).ownsRow B e size (.slice (some ⟨C, 0, none⟩) 0 0) 0 [] := by
  subst hB
  exact ⟨by simp, .inr ⟨W.heap.size, 0, #[], rfl, hC, heap_alloc_new W _, Nat.le_refl _, by simp [maxLen], by simp, by simp⟩⟩
/-- The arguments copied into a row of the call's own. -/
structure LongR (W w7 : World) (g : Nat) (args : List Vl) : Prop where
  hb : Below W.heap.size W w7
  hg : W.heap.size ≤ g
  vs : VlsX w7 (fun _ => False) (some ⟨g, 0, none⟩) args
  fz : ∀ j, w7.frozen? ⟨g, j, none⟩ = false
theorem LongR.of {W W1 w7 : World} {e : TypeId} {args : List Vl} {cs : List Value} (hrw : RowG (VlC W (fun _ => False)) cs args) (hbE : Below W.heap.size W W1) {v7 : Value} (hown : w7.ownsRow W.heap.size e 3 v7 args.length cs) {r : Option Nat} (hg : W1.grownBy w7 r) (hr : ∀ k, r = some k → W.heap.size ≤ k) (h0 : 0 < args.length) : ∃ g c, v7 = .slice (some ⟨g, 0, none⟩) args.length c ∧ LongR W w7 g args := by
  have hb := hbE.grown hg hbE.size hr
  obtain ⟨A7, c7, rfl, _, hA⟩ := own_formB hown
  obtain ⟨g, rfl, hge⟩ := hA h0
  obtain ⟨A, c, e, hv⟩ := vlsX_of_own hown (hrw.map (VlC.le (Le.of_fr (X' := fun _ => False) (Fr.of_below hb (fun _ => False)) (fun _ _ e => e) fun _ _ e => e))) (fun _ _ => id)
  obtain ⟨rfl, rfl⟩ : some (⟨g, 0, none⟩ : Addr) = A ∧ c7 = c := by simpa using e
  exact ⟨g, _, rfl, hb, hge, hv, own_free hown⟩
theorem ints_zeros (n : Nat) : (madeCells (Value.int .i64 0).cells (n * 1)).toList = (List.replicate n (0 : Int)).map (Value.int .i64) := by
  apply List.ext_getElem?
  intro k
  rw [List.getElem?_map, Nat.mul_one]
  by_cases hk : k < n
  · simp [madeCells, hk, Value.cells, Nat.mod_one]
  · rw [List.getElem?_eq_none (by simp [madeCells]; omega), List.getElem?_eq_none (by simp; omega)]; rfl
theorem LongR.made {W w7 w8 : World} {g : Nat} {args : List Vl} (h : LongR W w7 g args) {e : TypeId} {A' : Option Addr} {n : Nat} (hown : w8.ownsRow w7.heap.size e 1 (.slice A' n n) n (madeCells (Value.int .i64 0).cells (n * 1)).toList) (hg : w7.grownBy w8 none) {k : Nat} {u : Vl} (hu : args[k]? = some u) :
    (∃ x, w8.cell? ⟨g, k * 3 + 2, none⟩ = some x) ∧ w8.frozen? ⟨g, k * 3 + 2, none⟩ = false ∧ g < w8.heap.size ∧ Hid (VlsX (w8.setCell ⟨g, k * 3 + 2, none⟩ (.slice A' n n)) (fun _ => False) (some ⟨g, 0, none⟩) (longA args k n) ∧ Below W.heap.size W (w8.setCell ⟨g, k * 3 + 2, none⟩ (.slice A' n n))) := by
  have q8 : Below w7.heap.size w7 w8 := (Below.refl _ _).grown hg (Nat.le_refl _) (fun k hk => by cases hk)
  obtain ⟨b, o, Ai, ci, e, _, d0, d1, d2, _⟩ := h.vs k u hu
  cases e
  rw [Nat.zero_add] at d2
  have hlt := block_lt_of_cell d2
  rw [ints_zeros] at hown
  have hrl : (List.replicate n (0 : Int)).length = n := by simp
  obtain ⟨A2, c2, e2, hz⟩ := intsC_of_own (X := fun _ => False) (l := List.replicate n 0) (by rw [hrl]; exact hown) (fun _ _ => id)
  obtain ⟨rfl, rfl⟩ : A' = A2 ∧ n = c2 := by simpa using e2
  exact ⟨⟨_, below_cell q8 d2⟩, by rw [World.frozen?_of_block (a := ⟨g, k * 3 + 2, none⟩) (q8.block g hlt)]; exact h.fz _, Nat.lt_of_lt_of_le hlt q8.size, (h.vs.mono q8).long hu hz, (below_step h.hb h.hb.size q8).setCell (p := ⟨g, k * 3 + 2, none⟩) h.hg _⟩

set_option maxRecDepth 100000 in
set_option maxHeartbeats 4000000 in
theorem funevalArgs_walk (lib : List Fn1) (A : Option Addr) (cap : Nat) (name : ByteArray) (args : List Vl) (Aa : Option Addr) (ca : Nat) (more : Nat) (w : World) (hL : LibAt w A lib) (hF : LibFit lib) (hP : FewParams lib) (hN : FewNodes lib) (hV : VlsX w (fun _ => False) Aa args) (hvl : ∀ v ∈ args, v.l.length ≤ 9223372036854775807) (hal : args.length ≤ 9223372036854775807) (hmore : more < 256) :
    Calls Try.prog 9 #[.slice A lib.length cap, .string name, .slice Aa args.length ca, .int .u8 more] w fun e w' => e = .returned (.bool true) ∧ Below w.heap.size w w' := by
  have HL := Lib.hid hL
  have HV := Lib.hid hV
  have HVL := Lib.hid hvl
  have hll := hF.1
  clear hL hV hvl
  go_enter Try.func9, Try.ntmps9
  go_wp2_with fail
  refine (awake_any w).mono ?_
  rintro e w1 ⟨rfl, hb1⟩
  have q1 := Lib.hid hb1
  clear hb1
  go_wp2_with fail
  refine (valid_any lib A cap w1 (HL.out.mono q1.out) hF hP hN).mono ?_
  rintro e w2 ⟨rfl, hb2⟩
  have q2 := Lib.hid (below_step q1.out q1.out.size hb2)
  clear hb2 q1
  obtain ⟨v2, hv2⟩ : ∃ v2 : Int, v2 = (validR lib).2 := ⟨_, rfl⟩
  rw [← hv2]
  have HV2 := Lib.hid hv2
  clear hv2
  generalize (validR lib).1 = v1 at *
  go_wp2_with fail
  refine (Great_any lib A cap args Aa ca w2 (HL.out.mono q2.out) hF (HV.out.mono q2.out) HVL.out hal).mono ?_
  rintro e w3 ⟨g, rfl, hg, hb3⟩
  have q3 := Lib.hid (below_step q2.out q2.out.size hb3)
  have HG := Lib.hid hg
  clear hb3 hg q2
  cases g with
  | true => go_wp2_with fail; go_ret; exact ⟨rfl, q3.out⟩
  | false =>
  have HS := Lib.hid (HG.out rfl)
  clear HG
  by_cases he : v2 = 0
  rotate_left
  · have hn2 : (v2 != 0) = true := by simpa using he
    go_wp2_with fail
    go_ret
    exact ⟨rfl, q3.out⟩
  have HVD := Lib.hid (show (validR lib).2 = 0 by rw [← HV2.out]; exact he)
  subst he
  clear HV2
  go_wp2_with fail
  refine (find_any lib A cap name w3 (HL.out.mono q3.out) hll).mono ?_
  rintro e w4 ⟨rfl, hb4⟩
  have q4 := Lib.hid (below_step q3.out q3.out.size hb4)
  clear hb4 q3
  obtain ⟨fi, hfi⟩ : ∃ fi : Int, fi = findF lib name 0 := ⟨_, rfl⟩
  rw [← hfi]
  have HFI := Lib.hid hfi
  clear hfi
  obtain ⟨O, hO⟩ : ∃ O : OutT, O = startR lib name args 100 := ⟨_, rfl⟩
  have HCN := Lib.hid (fun (Y : World) (hY : Below w.heap.size w Y) => show Calls Try.prog 13 #[.slice A lib.length cap, .string name, .slice Aa args.length ca, .int .i64 100] Y (RetVN O Y) by
    rw [hO]; exact (evcall_anyN lib A cap name args Aa ca 100 Y (HL.out.mono hY) hF HS.out.fp HS.out.fn (HV.out.mono hY) HS.out.vl HS.out.al (by omega)).mono fun _ _ => RetCallN.v)
  have HO := Lib.hid hO
  clear hO
  go_wp2_with fail
  refine (HCN.out w4 q4.out).mono ?_
  rintro e w5 ⟨hb5, hl5, A5, c5, hi5, rfl⟩
  have q5 := Lib.hid (below_step q4.out q4.out.size hb5)
  have bb6 := below_box w5 (Obj.cells #[.bool O.val.list, .int .i64 O.val.n, .slice A5 O.val.l.length c5] 29)
  have q6 := Lib.hid (below_step q5.out q5.out.size bb6)
  clear hb5 hi5 q4
  by_cases hf0 : fi < 0
  · have e21 : O.code = 21 := by rw [HO.out, args_none HVD.out (by rw [← HFI.out]; exact hf0)]; rfl
    rw [e21]
    clear e21
    go_wp2_with fail
    go_ret
    exact ⟨rfl, q6.out⟩
  obtain ⟨j, f, hj, hf⟩ := findF_some (lib := lib) (s := name) (by rw [← HFI.out]; exact hf0)
  obtain rfl : fi = j := by rw [HFI.out, hj]
  have hnp := (HS.out.f j f hf).1
  have hna := HS.out.a
  obtain ⟨hjl, hjg⟩ := List.getElem?_eq_some_iff.1 hf
  have hl6 := HS.out.l
  obtain ⟨b, o, rfl, hfo⟩ := (HL.out.mono q6.out).at_ hjl
  rw [hjg] at hfo
  obtain ⟨Ap, cp, d1, hp7⟩ := hfo.ps
  have hlb := block_lt_of_cell d1
  have r1 : (0 : Int) ≤ j := by omega
  have r2 : (j : Int) < lib.length := by omega
  have HWR := Lib.hid (fun (hw : args.length ≠ f.params.length ∨ tyB args f.params = false) => show O.code = 7 by rw [HO.out, args_wrong HVD.out hj hf hw]; rfl)
  have HLG := Lib.hid (fun (hl : args.length = f.params.length) (ht : tyB args f.params = true) (i n : Nat) (u : Vl) (hu : args[i]? = some u) (hul : u.list = true) (hn : 1000 < n) => args_long (F := 100) HVD.out hj hf hl ht hu hul hn)
  have HPM := Lib.hid hp7
  obtain ⟨E, hE⟩ : ∃ E : Int, E = O.code := ⟨_, rfl⟩
  rw [← hE] at HWR
  have HEE := Lib.hid hE
  rw [← hE]
  obtain ⟨bb0, hbb, hb1, hb2⟩ : ∃ bb0 : Bool, ((args.length : Int) != (f.params.length : Int)) = bb0 ∧ (bb0 = true → args.length ≠ f.params.length) ∧ (bb0 = false → args.length = f.params.length) := by
    refine ⟨_, rfl, fun e => ?_, fun e => ?_⟩
    · have : (args.length : Int) ≠ f.params.length := by simpa using e
      omega
    · have : (args.length : Int) = f.params.length := by simpa using e
      omega
  have HB1 := Lib.hid hb1
  have HB2 := Lib.hid hb2
  clear hb1 hb2 hE hj hf hfo hp7 hjg HO HFI bb6 q5
  go_wp2_with fail
  generalize World.alloc _ _ = W6 at *
  clear hbb
  go_loopw [14, 15] (fun x i wr => ∃ (bb : Bool) (k : Nat), x = .bool bb ∧ i = .int .i64 k ∧ k ≤ args.length ∧ Hid (Below W6.heap.size W6 wr) ∧ Hid (bb = true → args.length ≠ f.params.length ∨ tyB args f.params = false) ∧ Hid (bb = false → args.length = f.params.length ∧ ∀ m, m < k → ∃ a p, args[m]? = some a ∧ f.params[m]? = some p ∧ a.list = p.list)) (fun x i _ => args.length - (intOf i).toNat)
  case atStart => exact ⟨bb0, 0, rfl, rfl, by omega, Below.refl _ _, Lib.hid fun e => .inl (HB1.out e), Lib.hid fun e => ⟨HB2.out e, fun m hm => by omega⟩⟩
  case round =>
    obtain ⟨bb, k, rfl, rfl, hk, hb, hw1, hw2⟩ := hrel
    have qr := Lib.hid (below_step q6.out q6.out.size hb.out)
    cases bb with
    | true =>
      have e7 := HWR.out (hw1.out rfl)
      subst e7
      go_wp2_with fail
      go_ret
      exact ⟨rfl, qr.out⟩
    | false =>
    obtain ⟨hla, hall⟩ := hw2.out rfl
    have HLA := Lib.hid hla
    have HALL := Lib.hid hall
    clear hla hall hw1 hw2
    by_cases hin : k < args.length
    · have hin' : k < f.params.length := by rw [← HLA.out]; exact hin
      obtain ⟨ba', oa', A', c', rfl, _, d0, _, _, hi⟩ := (HV.out.mono qr.out) k _ (List.getElem?_eq_getElem hin)
      obtain ⟨bp, op, rfl, e0, e1⟩ := (HPM.out.mono hb.out).at_ hin'
      have g1 := Lib.hid (List.getElem?_eq_getElem hin)
      have g2 := Lib.hid (List.getElem?_eq_getElem hin')
      generalize args[k] = u at *
      generalize f.params[k] = p at *
      have hp2 := below_cell hb.out d1
      have hlt1 : ba' < wr.heap.size := block_lt_of_cell d0
      have hlt2 : bp < wr.heap.size := block_lt_of_cell e1
      have hlt3 : b < wr.heap.size := block_lt_of_cell hp2
      have rk1 : (0 : Int) ≤ k := by omega
      have rk2 : (k : Int) < args.length := by omega
      have rk3 : (k : Int) < f.params.length := by omega
      have HN := Lib.hid (fun (h : u.list = p.list) (m : Nat) (hm : m < k + 1) => show ∃ a p, args[m]? = some a ∧ f.params[m]? = some p ∧ a.list = p.list from by
        by_cases e : m = k
        · rw [e]; exact ⟨u, p, g1.out, g2.out, h⟩
        · exact HALL.out m (by omega))
      have HT := Lib.hid (fun (h : u.list ≠ p.list) => tyB_not g1.out g2.out h)
      clear hi e0 g1 g2
      cases hu : u.list <;> cases hp : p.list
      all_goals
        have HN2 := Lib.hid HN.out
        have HT2 := Lib.hid HT.out
        clear HN HT
        rw [hu] at d0 HN2 HT2
        rw [hp] at e1 HN2 HT2
        clear hu hp
        go_wp2_with fail
        go_quiet (fail)
        go_wp2_with fail
        first
          | exact ⟨⟨false, k + 1, rfl, by go_num, by omega, Lib.hid (below_drewN hb.out _), Lib.hid (fun e => by cases e), Lib.hid (fun _ => ⟨HLA.out, HN2.out (by first | exact trivial | exact rfl)⟩)⟩, by simp [intOf]; omega⟩
          | exact ⟨⟨true, k + 1, rfl, by go_num, by omega, Lib.hid (below_drewN hb.out _), Lib.hid (fun _ => .inr (HT2.out (by simp))), Lib.hid (fun e => by cases e)⟩, by simp [intOf]; omega⟩
    · obtain rfl : k = args.length := by omega
      have HTY := Lib.hid (tyB_get HLA.out HALL.out)
      have HLG2 := Lib.hid (HLG.out HLA.out HTY.out)
      clear HLG HALL HTY HLA HWR hb HB1 HB2
      go_wp2_with fail
      clear d1 hlb HPM
      obtain ⟨wo, rfl⟩ : ∃ wo : World, wo = wr := ⟨_, rfl⟩
      obtain ⟨i0, hi0, hz0, hz1, hz2⟩ := info_parts info_val
      have HI := Lib.hid (And.intro hi0 (And.intro hz0 (And.intro hz1 hz2)))
      obtain ⟨j0, hj0, hy0, hy1, hy2⟩ := info_parts info_int
      have HJ := Lib.hid (And.intro hj0 (And.intro hy0 (And.intro hy1 hy2)))
      clear hi0 hz0 hz1 hz2 hj0 hy0 hy1 hy2
      go_loopw [92] (fun i wr => ∃ k : Nat, k ≤ args.length ∧ i = .int .i64 k ∧ Hid (Below w.heap.size w wr)) (fun i _ => args.length - (intOf i).toNat)
      case atStart => exact ⟨0, by omega, rfl, qr⟩
      case round =>
        obtain ⟨k, hk, rfl, hb⟩ := hrel
        by_cases hin : k < args.length
        rotate_left
        · go_wp2_with fail
          go_ret
          exact ⟨rfl, hb.out⟩
        have hget := List.getElem?_eq_getElem hin
        have HVr := Lib.hid (HV.out.mono hb.out)
        obtain ⟨ba, oa, Ai, ci, rfl, _, d0, d1, d2, hi⟩ := HVr.out k _ hget
        have hu40 := HS.out.v k _ hget
        have HGU := Lib.hid hget
        generalize args[k] = u at *
        obtain ⟨ul, un, us⟩ := u
        simp only at *
        have hlt := block_lt_of_cell d0
        have rk1 : (0 : Int) ≤ k := by omega
        have rk2 : (k : Int) < args.length := by omega
        clear hget
        cases ul with
        | false =>
          clear hi
          go_wp2_with fail
          exact ⟨⟨k + 1, by omega, by go_num, hb⟩, by simp [intOf]; omega⟩
        | true =>
        have HIA := Lib.hid hi.at_
        obtain ⟨cs, hrw, hcs⟩ := HVr.out.row
        have hbE := below_box wr (Obj.cells #[] 29)
        have HLEN := Lib.hid (hrw.len VlC.len)
        have HONE := Lib.hid (hrw.one VlC.one)
        have HCS := Lib.hid (hcs.mono hbE)
        have HE1 := Lib.hid (own_empty wr (e := 29) (size := 3))
        have HLR := Lib.hid (fun (v7 : Value) (w7 : World) (hown : w7.ownsRow wr.heap.size 29 3 v7 args.length cs) (hg : (wr.alloc (Obj.cells #[] 29)).grownBy w7 (some wr.heap.size)) => LongR.of hrw hbE hown hg (fun k hk => (by simp at hk; omega)) (by omega : 0 < args.length))
        have hws := hb.out.size
        clear hi hrw hcs
        go_wp2_with (first | (at_builtin; refine wpList_app _ rfl (.tmp 101) (.tmp 102) 23 rfl wr.heap.size 29 i0 (.agg #[.bool false, .int .i64 0, .slice none 0 0]) 3 40 Try.underlying23 HI.out.1 HI.out.2.1 HI.out.2.2.1 HI.out.2.2.2 rfl (by decide) _ 0 [] rfl HE1.out (some ⟨ba, oa, none⟩) args.length ca cs rfl HLEN.out HCS.out HONE.out (by unfold maxLen; omega) (by omega) hbE.size ?_; intro v7 w7 hown7 hgrow7 _; rw [Nat.zero_add, List.nil_append] at hown7; obtain ⟨g7, c7, rfl, hl7⟩ := HLR.out v7 w7 hown7 hgrow7; have HL7 := Lib.hid hl7; clear hown7 hgrow7 hl7) | (at_make; refine wpList_make_full _ rfl _ _ 27 rfl w7.heap.size 3 j0 (.int .i64 0) 1 Try.underlying27 HJ.out.1 HJ.out.2.1 HJ.out.2.2.1 .i64 .i64 _ _ (1001 + more) rfl rfl (by omega) (by omega) (by rw [HJ.out.2.2.2]; omega) (by unfold maxLen; omega) (Nat.le_refl _) ?_; intro w8 hown8 hgrow8; obtain ⟨⟨u8, x8⟩, z8, b8, HL8⟩ := HL7.out.made hown8 hgrow8 HGU.out; clear hown8 hgrow8))
        generalize World.setCell _ _ _ = W9 at HL8 ⊢
        have HC9 := Lib.hid (evcall_any lib (some ⟨b, o, none⟩) cap name (longA args k (1001 + more)) (some ⟨g7, 0, none⟩) c7 100 W9 (HL.out.mono (below_step hb.out hb.out.size HL8.out.2)) hF HS.out.fp HS.out.fn HL8.out.1 (fun v hv => by
          rcases List.mem_or_eq_of_mem_set hv with h | h
          · exact HS.out.vl v h
          · rw [h]; show (List.replicate _ _).length ≤ _; rw [List.length_replicate]; omega) (by rw [longA_len]; exact HS.out.al) (by omega))
        rw [longA_len, HLG2.out k (1001 + more) _ HGU.out rfl (by omega)] at HC9
        have q9 := Lib.hid (below_step hb.out hb.out.size HL8.out.2)
        refine HC9.out.mono ?_
        rintro e w10 ⟨hb10, h10⟩
        rcases h10 with ⟨n, ho, _, rfl⟩ | ⟨t, f1, ho, _⟩
        rotate_left
        · cases ho
        cases ho
        have q10 := Lib.hid (below_step q9.out q9.out.size hb10)
        have bb11 := below_box w10 (Obj.cells #[.bool false, .int .i64 0, .slice none 0 0] 29)
        have Q11 := Lib.hid (below_step (below_step q10.out q10.out.size bb11) (Nat.le_trans q10.out.size bb11.size) (below_box _ (Obj.cells #[] 3)))
        have HE3 := Lib.hid (own_emptyA (W := w10.alloc (Obj.cells #[.bool false, .int .i64 0, .slice none 0 0] 29)) (B := w10.heap.size) (C := w10.heap.size + 1) (by simp) (Nat.le_succ _) 3 (size := 1))
        have R10 := below_step hb.out hb.out.size HL8.out.2
        have V10 := Lib.hid (HV.out.mono q10.out)
        obtain ⟨ba2, oa2, Ai2, ci2, e2, _, y0, y1, y2, hi2⟩ := V10.out k _ HGU.out
        cases e2
        have HI10 := Lib.hid ((hi2.at_.mono (below_step bb11 bb11.size (below_box _ (Obj.cells #[] 3)))).cells)
        have hlt2 := block_lt_of_cell y2
        have HWS := Lib.hid (show w.heap.size ≤ w10.heap.size + 1 from by have := q10.out.size; omega)
        clear d0 d1 d2 hi2 hb10 HC9 HL8 HL7 HCS HONE HLEN HE1 HLR hbE x8 z8 b8
        go_wp2_with (at_builtin; refine wpList_app _ rfl (.tmp 121) (.tmp 126) 27 rfl w10.heap.size 3 j0 (.int .i64 0) 1 8 Try.underlying27 HJ.out.1 HJ.out.2.1 HJ.out.2.2.1 HJ.out.2.2.2 rfl (by decide) _ 0 [] rfl HE3.out Ai2 us.length ci2 (us.map (Value.int .i64)) rfl (by simp) HI10.out (ints_one _) (by unfold maxLen; omega) (by omega) (by simp; omega) ?_; intro v12 w12 hown12 hgrow12 _; rw [Nat.zero_add, List.nil_append] at hown12; obtain ⟨A12, c12, rfl, I12⟩ := ints_of_own (l := us) hown12; have HI12 := Lib.hid I12; have q12 := Lib.hid (Q11.out.grown hgrow12 Q11.out.size (fun g hg => (by have h1 := (HE3.out.lt g hg).1; have h2 := q10.out.size; omega))); clear hown12 hgrow12 I12)
        refine (HCN.out w12 q12.out).mono ?_
        rintro e w13 ⟨hb13, hl13, A13, c13, hi13, rfl⟩
        rw [← HEE.out]
        have q13 := Lib.hid (below_step q12.out q12.out.size hb13)
        have bb14 := below_box w13 (Obj.cells #[.bool O.val.list, .int .i64 O.val.n, .slice A13 O.val.l.length c13] 29)
        have vb14 := bx_new w13 #[.bool O.val.list, .int .i64 O.val.n, .slice A13 O.val.l.length c13] 29
        have T14 := Lib.hid (Tn.of hb13 hi13 (Obj.cells #[.bool O.val.list, .int .i64 O.val.n, .slice A13 O.val.l.length c13] 29))
        have VB14 := Lib.hid vb14
        obtain ⟨s0, s1, s2, _⟩ := vb14.three
        have hl14 := vb14.lt
        clear y0 y1 y2 hi13 hb13 bb14 vb14
        go_wp2_with fail
        generalize World.alloc _ _ = W14 at T14 VB14 ⊢
        clear s0 s1 s2 hl14
        obtain ⟨wo2, rfl⟩ : ∃ wo2 : World, wo2 = wr := ⟨_, rfl⟩
        go_loopw [138] (fun i wr => ∃ m : Nat, m ≤ O.val.l.length ∧ i = .int .i64 m ∧ Hid (Tn w12 wr A13 O.val.l.length w13.heap.size ∧ Bx wr w13.heap.size #[.bool O.val.list, .int .i64 O.val.n, .slice A13 O.val.l.length c13])) (fun i _ => O.val.l.length - (intOf i).toNat)
        case atStart => exact ⟨0, by omega, rfl, Lib.hid ⟨T14.out, VB14.out⟩⟩
        case round =>
          obtain ⟨m, hm, rfl, ht⟩ := hrel
          obtain ⟨s0, s1, s2, _⟩ := ht.out.2.three
          have hls := ht.out.2.lt
          by_cases hin3 : m < O.val.l.length
          · obtain ⟨b3, o3, x3, rfl, n3, l3, c3⟩ := ht.out.1.at_ m hin3
            have z3 : wr.frozen? ⟨b3, o3 + m, none⟩ = false := by
              cases h : wr.frozen? ⟨b3, o3 + m, none⟩ with
              | false => rfl
              | true => exact absurd (.inr ⟨_, h⟩) n3
            have rm1 : (0 : Int) ≤ m := by omega
            have rm2 : (m : Int) < O.val.l.length := by omega
            have hlt3 := block_lt_of_cell c3
            have HN3 := Lib.hid (fun y : Int => And.intro (ht.out.1.set rfl hin3 y) (ht.out.2.fr (Fr.of_set wr ⟨b3, o3 + m, none⟩ (.int .i64 y)) (fun e => by have e' : w13.heap.size = b3 := e; omega)))
            clear n3 ht
            go_wp2_with fail
            exact ⟨⟨m + 1, by omega, by go_num, Lib.hid (HN3.out _)⟩, by simp [intOf]; omega⟩
          · have qr3 := Lib.hid (below_step q12.out q12.out.size ht.out.1.hb)
            obtain ⟨ba3, oa3, Ai3, ci3, e3, _, y0, y1, y2, hi3⟩ := (HV.out.mono qr3.out) k _ HGU.out
            cases e3
            have HI3 := Lib.hid hi3.at_
            have HO3 := Lib.hid (HI12.out.mono ht.out.1.hb)
            have hlt3 := block_lt_of_cell y0
            have hee : (E != E) = false := by simp
            clear hi3 ht
            go_wp2_with fail
            refine (equal_any ⟨true, un, us⟩ ⟨true, 0, us⟩ Ai3 A12 ci3 c12 wr HI3.out HO3.out (by show us.length ≤ _; omega) (by show us.length ≤ _; omega)).mono ?_
            rintro e w15 ⟨rfl, hb15⟩
            have q15 := Lib.hid (below_step qr3.out qr3.out.size hb15)
            rw [show eqV ⟨true, un, us⟩ ⟨true, 0, us⟩ = true by simp [eqV]]
            clear hb15 y0 y1 y2
            go_wp2_with fail
            exact ⟨⟨k + 1, by omega, by go_num, q15⟩, by simp [intOf]; omega⟩

end Go.Proofs.Ytgokgcnalgpiiaa
