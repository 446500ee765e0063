/-
  The reference's Enter, from the contract of its Eval.
  The reference's call: the loop over the operands, plainly.
  The reference's call: the walk.
  The reference's Eval: a call's node.
  The reference's Eval: whole.
-/
import Derived.Test.YtoankdaddgjnlaaRevEv1
import Derived.Test.YtoankdaddgjnlaaFevCall
import Derived.Test.YtoankdaddgjnlaaRevEv6
import Derived.Test.YtoankdaddgjnlaaRevEv4
namespace Go.Proofs.Ytoankdaddgjnlaa
open Go.ChangeShapes Go.WideShapes Go.ChangeAt Go.RowKit Go.Sort

theorem info_rvarE : (Try.prog.info? 80).map (fun i => (i.zero, i.size, i.bytes)) = some (some (.agg #[.string ⟨#[]⟩, .bool false, .int .i64 0, .slice none 0 0]), 4, 56) := by kernel_rfl
theorem cells_lit (w : World) (cs : List Value) (T : TypeId) : CellsAt (w.alloc (Obj.cells cs.toArray T)).drew (some ⟨w.heap.size, 0, none⟩) cs := fun j u hu => ⟨w.heap.size, 0, rfl, by
  rw [Nat.zero_add]
  exact (show Bx (w.alloc (Obj.cells cs.toArray T)) w.heap.size cs.toArray from bx_new w _ T).cell (by simpa using hu)⟩
/-- Where Enter's loop stands. -/
def EnR (X : Nat → Prop) (w wr : World) (ps : List Pm) (args : List Vl) (k : Nat) (u : Value) : Prop :=
  Below w.heap.size w wr ∧ Bx wr w.heap.size #[.int .i64 0, .slice none 0 0, .bool false, .int .i64 0, .slice none 0 0, .slice none 0 0] ∧ ∃ cs, wr.ownsRow (w.heap.size + 1) 80 4 u k cs ∧ RowG (VarC w X) cs (zipV (ps.take k) (args.take k))
theorem EnR.push {X : Nat → Prop} {w wr w' : World} {ps : List Pm} {args : List Vl} {k : Nat} {u v' : Value} {cs c : List Value} {o : Obj} (hb : Below w.heap.size w wr) (hx : Bx wr w.heap.size #[.int .i64 0, .slice none 0 0, .bool false, .int .i64 0, .slice none 0 0, .slice none 0 0]) (ho : wr.ownsRow (w.heap.size + 1) 80 4 u k cs) (hr : RowG (VarC w X) cs (zipV (ps.take k) (args.take k))) (hp : k < ps.length) (ha : k < args.length) (hc : VarC w X c (ps[k].name, args[k])) (hg : (wr.alloc o).drew.grownBy w' u.ownBlock) (hown : w'.ownsRow (w.heap.size + 1) 80 4 v' (k + 1) (cs ++ c)) : EnR X w w' ps args (k + 1) v' := by
  have hbd : Below w.heap.size w (wr.alloc o).drew := belowDrawnP (below_step hb hb.size (below_box wr o))
  have hge := fun g hg => own_block_geB ho g hg
  refine ⟨hbd.grown hg hbd.size (fun k hk => by have := hge k hk; omega), ?_, cs ++ c, hown, by rw [zipV_take hp ha]; exact hr.snoc hc⟩
  exact (show Bx (wr.alloc o).drew w.heap.size _ from hx.below (belowDrawnP (below_box wr o))).fr (Fr.of_grown hg) (fun e => by have := hge _ e.symm; omega)
/-- What the reference's Enter answers. -/
def RetT (o : OutT) (F : Nat) (X : Nat → Prop) (w : World) (e : Ending) (w' : World) : Prop :=
  Below w.heap.size w w' ∧ match o with
  | .err k => k ≠ 0 ∧ e = .returned (.tuple #[.agg #[.int .i64 0, .slice none 0 0, .bool false, .int .i64 0, .slice none 0 0, .slice none 0 0], .int .i64 0, .int .i64 k])
  | .ok t f => ∃ (fi : Int) (Aa : Option Addr) (na ca : Nat) (A : Option Addr) (c : Nat) (Ac : Option Addr) (mc cc : Nat), e = .returned (.tuple #[.agg #[.int .i64 fi, .slice Aa na ca, .bool t.res.list, .int .i64 t.res.n, .slice A t.res.l.length c, .slice Ac mc cc], .int .i64 f, .int .i64 0]) ∧ CxX w' X Ac mc ∧ mc + f ≤ F ∧ IntsX w' X A t.res.l ∧ t.res.l.length ≤ c ∧ t.res.l.length ≤ 1000000
theorem rett_err {k : Int} (h : k ≠ 0) {F : Nat} {X : Nat → Prop} {w w' : World} (hb : Below w.heap.size w w') : RetT (.err k) F X w (.returned (.tuple #[.agg #[.int .i64 0, .slice none 0 0, .bool false, .int .i64 0, .slice none 0 0, .slice none 0 0], .int .i64 0, .int .i64 k])) w' := ⟨hb, h, rfl⟩
set_option maxRecDepth 100000 in
set_option maxHeartbeats 4000000 in
theorem renter_any {X : Nat → Prop} {A : Option Addr} {cap : Nat} {lib : List Fn1} {d : Nat} (W0 : World) (hX : LibX W0 A lib) (ih : REvalC A cap lib d) {fn : Fn1} {i : Nat} (hi : lib[i]? = some fn) (args : List Vl) (Aa : Option Addr) (ca : Nat) (F : Int) (act : Nat) (w : World) (hL : LibAt w A lib) (hV : ValsC w X Aa args) (hC : ∀ a ∈ args, Cl a) (hn : args.length = fn.params.length) (hFd : F.toNat ≤ d) (hF : F ≤ 900000) (ha : act ≤ 1000) (hold : ∀ k, X k → k < w.heap.size) :
    Calls Try.prog 18 #[.slice A lib.length cap, .int .i64 i, .slice Aa args.length ca, .int .i64 F, .int .i64 act] w (RetT (enter lib (ev apR lib d) act i args F.toNat) F.toNat X w) := by
  have HX0 := Lib.hid (bx_new w #[.int .i64 0, .slice none 0 0, .bool false, .int .i64 0, .slice none 0 0, .slice none 0 0] 34)
  have HB0 := Lib.hid (below_box w (Obj.cells #[.int .i64 0, .slice none 0 0, .bool false, .int .i64 0, .slice none 0 0, .slice none 0 0] 34))
  by_cases h30 : 30 ≤ act
  · have HE := Lib.hid (show enter lib (ev apR lib d) act i args F.toNat = .err 19 from by unfold enter; rw [if_pos h30])
    have h30' : (30 : Int) ≤ act := by omega
    rw [HE.out]
    clear hV hL hC hX ih
    go_enter Try.func18, Try.ntmps18
    go_upto_region 1 with fail
    generalize w.alloc _ = W at HX0 HB0 ⊢
    obtain ⟨⟨y0, y1, y2, y3, y4, y5⟩, f0, f1, f2, f3, f4, f5⟩ := HX0.out.six
    go_wp2_with fail
    have HF := Lib.hid (And.intro (HX0.out.set6 (.int .i64 0) (.slice none 0 0) (.bool false) (.int .i64 0) (.slice none 0 0) (.slice none 0 0)) (belowR6 HB0.out (Nat.le_refl _) (.int .i64 0) (.slice none 0 0) (.bool false) (.int .i64 0) (.slice none 0 0) (.slice none 0 0)))
    generalize World.setCell _ _ _ = WF at HF ⊢
    obtain ⟨⟨g0, g1, g2, g3, g4, g5⟩, _⟩ := HF.out.1.six
    exact bodyPost_ret (v := .tuple #[.agg #[.int .i64 0, .slice none 0 0, .bool false, .int .i64 0, .slice none 0 0, .slice none 0 0], .int .i64 0, .int .i64 19]) (by simp [results, Try.results18, go_sem, g0, g1, g2, g3, g4, g5]) rfl (rett_err (by decide) HF.out.2)
  · have h30' : ¬ (30 : Int) ≤ act := by omega
    have HV := Lib.hid hV
    have HL := Lib.hid hL
    have hil := (List.getElem?_eq_some_iff.1 hi).1
    have hll := hX.fit.1
    have hpl := hX.par i fn hi
    obtain ⟨k0, hi0, hz0, hz1, hz2⟩ := info_parts info_rvarE
    have HI := Lib.hid (And.intro hi0 (And.intro hz0 (And.intro hz1 hz2)))
    clear hi0 hz0 hz1 hz2 hV hL
    have HFN : Hid (∀ W, Below w.heap.size w W → ∃ b o Ap cp pb po Ab cb, A = some ⟨b, o, none⟩ ∧ W.cell? ⟨b, o + i * 7 + 1, none⟩ = some (.slice Ap fn.params.length cp) ∧ PmsAt W Ap fn.params ∧ NdO W b (o + i * 7 + 3) fn.body ∧ (pb, po, Ab, cb) = ((0 : Nat), (0 : Nat), (none : Option Addr), (0 : Nat))) := Lib.hid (fun W hb => by
      obtain ⟨b, o, e, hf⟩ := (HL.out.mono hb).at_ hil
      rw [(List.getElem?_eq_some_iff.1 hi).2] at hf
      obtain ⟨Ap, cp, c1, hp⟩ := hf.ps
      exact ⟨b, o, Ap, cp, 0, 0, none, 0, e, c1, hp, hf.body, rfl⟩)
    go_enter Try.func18, Try.ntmps18
    go_upto_region 1 with fail
    generalize hWg : w.alloc _ = W at HX0 HB0 ⊢
    have hWs : W.heap.size = w.heap.size + 1 := by rw [← hWg]; simp
    clear hWg
    have HE0 := Lib.hid (show EnR X w (W.alloc (Obj.cells #[] 80)) fn.params args 0 (.slice (some ⟨w.heap.size + 1, 0, none⟩) 0 0) from ⟨below_step HB0.out HB0.out.size (below_box W _), HX0.out.below (below_box W _), [], by have := own_emptyP W (e := 80) (size := 4); rw [hWs] at this; exact this, by rw [List.take_zero, List.take_zero]; exact RowG.nil⟩)
    go_upto_region 5 with fail
    go_loopw [13, 14] (fun u j wr => ∃ k : Nat, k ≤ args.length ∧ j = .int .i64 k ∧ Hid (EnR X w wr fn.params args k u)) (fun _ j _ => args.length - (intOf j).toNat)
    case atStart => exact ⟨0, by omega, rfl, HE0⟩
    case round =>
      obtain ⟨k, hk, rfl, hr⟩ := hrel
      obtain ⟨hb, hx, cs, ho, hrow⟩ := hr.out
      obtain ⟨Au, cu, rfl, hcu, _⟩ := own_formB ho
      have HR := Lib.hid (And.intro hb (And.intro hx (And.intro ho hrow)))
      by_cases hin : k < args.length
      · have hkp : k < fn.params.length := by omega
        obtain ⟨b, o, Ap, cp, _, _, _, _, rfl, c1, hp, _, _⟩ := HFN.out wr hb
        obtain ⟨pb, po, rfl, n0, _⟩ := hp.at_ hkp
        obtain ⟨ab, ao, Ay, cy, rfl, a0, a1, a2, hia, hca, hma⟩ := HV.out.at_ hin
        replace a0 := below_cell hb a0
        replace a1 := below_cell hb a1
        replace a2 := below_cell hb a2
        have HVC : Hid (VarC w X [.string fn.params[k].name, .bool args[k].list, .int .i64 args[k].n, .slice Ay args[k].l.length cy] (fn.params[k].name, args[k])) := Lib.hid ⟨Ay, cy, rfl, hia, hca, hma⟩
        have hlt1 := block_lt_of_cell c1
        have hlt2 := block_lt_of_cell n0
        have hlt3 := block_lt_of_cell a0
        have r1 : (0 : Int) ≤ k := by omega
        have r2 : (k : Int) < args.length := by omega
        have r3 : (k : Int) < fn.params.length := by omega
        have r4 : (0 : Int) ≤ i := by omega
        have r5 : (i : Int) < lib.length := by omega
        have HPU := Lib.hid (fun (w' : World) (v' : Value) (o : Obj) (hg : (wr.alloc o).drew.grownBy w' (Value.slice Au k cu).ownBlock) (hown : w'.ownsRow (w.heap.size + 1) 80 4 v' (k + 1) (cs ++ [.string fn.params[k].name, .bool args[k].list, .int .i64 args[k].n, .slice Ay args[k].l.length cy])) => EnR.push HR.out.1 HR.out.2.1 HR.out.2.2.1 HR.out.2.2.2 hkp hin HVC.out hg hown)
        have HONE := Lib.hid (VarC.one _ _ HVC.out)
        have hbs := hb.size
        generalize fn.params[k].name = nm at *
        generalize args[k] = av at *
        clear hr hp hx ho hrow hb hia
        go_upto_region 7 with fail
        have HOW := Lib.hid (show (wr.alloc (Obj.cells #[.string nm, .bool av.list, .int .i64 av.n, .slice Ay av.l.length cy] 80)).drew.ownsRow (w.heap.size + 1) 80 4 (.slice Au k cu) k cs from HR.out.2.2.1.alloc _)
        go_region_law (first
          | (refine step_app _ (by rfl) (.tmp 26) (.tmp 41) 78 (by rfl) (w.heap.size + 1) 80 k0 (.agg #[.string ⟨#[]⟩, .bool false, .int .i64 0, .slice none 0 0]) 4 56 Try.underlying78 HI.out.1 HI.out.2.1 HI.out.2.2.1 HI.out.2.2.2 rfl (by decide) (.slice Au k cu) k cs (by simp [Act.eval]) HOW.out (some ⟨wr.heap.size, 0, none⟩) 1 1 [.string nm, .bool av.list, .int .i64 av.n, .slice Ay av.l.length cy] (by simp [Act.eval]) rfl (cells_lit wr _ _) HONE.out (by unfold maxLen; omega) (by omega) (by simp; have := HR.out.2.1.lt; omega) ?_; intro v' w9 hown' hgrow _; have NX := Lib.hid (HPU.out _ _ _ hgrow hown'); clear hown' hgrow)
          | fail)
        all_goals
          go_wp2_with fail
          exact ⟨⟨k + 1, by omega, by go_num, NX⟩, by simp [intOf]; omega⟩
      · obtain rfl : k = args.length := by omega
        have hzl : zipV (fn.params.take args.length) (args.take args.length) = zipV fn.params args := by rw [List.take_of_length_le (by omega), List.take_of_length_le (Nat.le_refl _)]
        rw [hzl] at hrow
        have hlz : (zipV fn.params args).length = args.length := zipV_len _ _ hn
        obtain ⟨A2, c2, e2, _, hcells⟩ := cells_of_own ho (by rw [hrow.len VarC.len, hlz])
        cases e2
        have hwr := hx.lt
        have HVN : Hid (VarsC wr (fun k => X k ∨ k = w.heap.size) Au (zipV fn.params args)) := Lib.hid ⟨cs, hrow.map (VarC.le (Le.below hb (fun k hk e => e.resolve_right (by omega)))), fun j u hu => by obtain ⟨b, o, e, _, h⟩ := hcells j u hu; exact ⟨b, o, e, h⟩⟩
        obtain ⟨b, o, Ap, cp, _, _, _, _, rfl, c1, hp, hbo, _⟩ := HFN.out wr hb
        obtain ⟨Ab, cb, h0, h1, h2, h3, h4⟩ := hbo.open_
        have HBN := Lib.hid h4
        have hlt1 := block_lt_of_cell c1
        have HBw := Lib.hid hb
        have HXw := Lib.hid hx
        have hcl : ∀ q ∈ zipV fn.params args, Cl q.2 := fun q hq => by
          unfold zipV at hq
          obtain ⟨⟨p, a⟩, hz, rfl⟩ := List.mem_map.1 hq
          exact hC a (List.of_mem_zip hz).2
        have hEC := ev_cl apR lib d (act + 1) (envL (zipV fn.params args)) fn.body F.toNat (cl_env hcl)
        have HRB := Lib.hid (ih (fun k => X k ∨ k = w.heap.size) fn.body Ab cb (zipV fn.params args) Au cu F (act + 1) wr ⟨HL.out.mono hb, HVN.out, h4, (hX.fit.2 i fn hi).2.2, hX.form i fn hi, hX.ar i fn hi, by rw [hlz]; have := hX.size i fn hi; omega, hF, by omega, fun k e => by rcases e with e | e; (have := hold k e; have := hb.size; omega); omega, hcl⟩ hFd)
        rw [hlz] at HRB
        have HEN := Lib.hid (show enter lib (ev apR lib d) act i args F.toNat = match ev apR lib d (act + 1) (envL (zipV fn.params args)) fn.body F.toNat with | .err e => .err e | .ok y f1 c => .ok (.mk i (args.map cln) (cln y) c) f1 by
          unfold enter
          rw [if_neg h30, show ((i : Int)).toNat = i by omega, hi]
          dsimp only
          rw [show (fun _ => none : ByteArray → Option Vl) = envL [] from rfl, envV_L, List.nil_append]
          cases ev apR lib d (act + 1) (envL (zipV fn.params args)) fn.body F.toNat <;> rfl)
        have r4 : (0 : Int) ≤ i := by omega
        have r5 : (i : Int) < lib.length := by omega
        have hca : (((act + 1 : Nat)) : Int) = (act : Int) + 1 := by omega
        rw [hca] at HRB
        generalize ev apR lib d (act + 1) (envL (zipV fn.params args)) fn.body F.toNat = ou at HRB HEN hEC
        clear hr hp hx ho hrow hb hcells h4 HR hbo hX hzl hlz hcl hca hC ih
        go_upto_region 8 with fail
        have hcap : IntKind.i64.wrap ((act : Int) + 1) = (act : Int) + 1 := by rw [IntKind.wrap_i64]; omega
        clear hi hn hold
        go_wp2_with fail
        refine HRB.out.mono ?_
        intro e w8 ho
        cases ou with
        | err k2 =>
          obtain ⟨hb8, hk8, bl, n, A8, m8, c8, G8, Ac8, mc8, cc8, rfl, hx8, hm8⟩ := ho
          have HB8 := Lib.hid (below_step HBw.out HBw.out.size hb8)
          have hb9 := below_box w8 (Obj.cells #[.bool bl, .int .i64 n, .slice A8 m8 c8, .int .i64 G8, .slice Ac8 mc8 cc8, .int .i64 k2] 82)
          have HO9 := Lib.hid (bx_new w8 #[.bool bl, .int .i64 n, .slice A8 m8 c8, .int .i64 G8, .slice Ac8 mc8 cc8, .int .i64 k2] 82)
          have HB9 := Lib.hid (below_step HB8.out HB8.out.size hb9)
          have HT9 := Lib.hid ((HXw.out.below hb8).below hb9)
          have HL9 := Lib.hid hb9
          have HXX := Lib.hid (hx8.le (Le.below hb9 (fun _ _ e => e)))
          have hlt8 : w.heap.size < w8.heap.size := by have := hb8.size; omega
          clear hb8 hb9 hx8
          go_upto_region 9 with fail
          generalize w8.alloc _ = W9 at HO9 HB9 HT9 HL9 HXX ⊢
          obtain ⟨⟨o0, o1, o2, o3, o4, o5⟩, _⟩ := HO9.out.six
          obtain ⟨⟨y0, y1, y2, y3, y4, y5⟩, f0, f1, f2, f3, f4, f5⟩ := HT9.out.six
          have hne : (k2 != 0) = true := bne_iff_ne.2 hk8
          have HK8 := Lib.hid hk8
          clear hk8
          go_upto_region 10 with fail
          go_region
          all_goals
            go_wp2_with fail
            have HF := Lib.hid (And.intro (HT9.out.set6 (.int .i64 0) (.slice none 0 0) (.bool false) (.int .i64 0) (.slice none 0 0) (.slice none 0 0)) (belowR6 HB9.out (Nat.le_refl _) (.int .i64 0) (.slice none 0 0) (.bool false) (.int .i64 0) (.slice none 0 0) (.slice none 0 0)))
            have HLE := Lib.hid (Le.of_fr (X := fun k => X k ∨ k = w.heap.size) (X' := X) (Fr.set6 W9 w.heap.size (.int .i64 0) (.slice none 0 0) (.bool false) (.int .i64 0) (.slice none 0 0) (.slice none 0 0)) (fun k _ e => .inr e) (fun k _ e => .inl e))
            generalize World.setCell _ _ _ = WF at HF HLE ⊢
            obtain ⟨⟨g0, g1, g2, g3, g4, g5⟩, _⟩ := HF.out.1.six
            exact bodyPost_ret (v := .tuple #[.agg #[.int .i64 0, .slice none 0 0, .bool false, .int .i64 0, .slice none 0 0, .slice none 0 0], .int .i64 0, .int .i64 k2]) (by simp [results, Try.results18, go_sem, g0, g1, g2, g3, g4, g5]) rfl (by rw [HEN.out]; exact rett_err HK8.out (belowDrawnP HF.out.2))
        | ok y g t =>
          obtain ⟨hb8, A8, c8, Ac8, mc8, cc8, rfl, hx8, hm8, hi8, hc8, hv8⟩ := ho
          have hcy : cln y = y := hEC
          have HI8 := Lib.hid hi8
          have HB8 := Lib.hid (below_step HBw.out HBw.out.size hb8)
          have hb9 := below_box w8 (Obj.cells #[.bool y.list, .int .i64 y.n, .slice A8 y.l.length c8, .int .i64 g, .slice Ac8 mc8 cc8, .int .i64 0] 82)
          have HO9 := Lib.hid (bx_new w8 #[.bool y.list, .int .i64 y.n, .slice A8 y.l.length c8, .int .i64 g, .slice Ac8 mc8 cc8, .int .i64 0] 82)
          have HB9 := Lib.hid (below_step HB8.out HB8.out.size hb9)
          have HT9 := Lib.hid ((HXw.out.below hb8).below hb9)
          have HL9 := Lib.hid hb9
          have HXX := Lib.hid (hx8.le (Le.below hb9 (fun _ _ e => e)))
          have hlt8 : w.heap.size < w8.heap.size := by have := hb8.size; omega
          clear hb8 hb9 hx8
          go_upto_region 9 with fail
          generalize w8.alloc _ = W9 at HO9 HB9 HT9 HL9 HXX ⊢
          obtain ⟨⟨o0, o1, o2, o3, o4, o5⟩, _⟩ := HO9.out.six
          obtain ⟨⟨y0, y1, y2, y3, y4, y5⟩, f0, f1, f2, f3, f4, f5⟩ := HT9.out.six
          have HII := Lib.hid (HI8.out.le (Le.below HL9.out (fun _ _ e => e)))
          go_upto_region 11 with fail
          go_region
          all_goals
            go_wp2_with fail
            have HF := Lib.hid (And.intro (HT9.out.set6 (.int .i64 i) (.slice Aa fn.params.length ca) (.bool y.list) (.int .i64 y.n) (.slice A8 y.l.length c8) (.slice Ac8 mc8 cc8)) (belowR6 HB9.out (Nat.le_refl _) (.int .i64 i) (.slice Aa fn.params.length ca) (.bool y.list) (.int .i64 y.n) (.slice A8 y.l.length c8) (.slice Ac8 mc8 cc8)))
            have HLE := Lib.hid (Le.of_fr (X := fun k => X k ∨ k = w.heap.size) (X' := X) (Fr.set6 W9 w.heap.size (.int .i64 i) (.slice Aa fn.params.length ca) (.bool y.list) (.int .i64 y.n) (.slice A8 y.l.length c8) (.slice Ac8 mc8 cc8)) (fun k _ e => .inr e) (fun k _ e => .inl e))
            generalize World.setCell _ _ _ = WF at HF HLE ⊢
            obtain ⟨⟨g0, g1, g2, g3, g4, g5⟩, _⟩ := HF.out.1.six
            exact bodyPost_ret (v := .tuple #[.agg #[.int .i64 i, .slice Aa fn.params.length ca, .bool y.list, .int .i64 y.n, .slice A8 y.l.length c8, .slice Ac8 mc8 cc8], .int .i64 g, .int .i64 0]) (by simp [results, Try.results18, go_sem, g0, g1, g2, g3, g4, g5]) rfl (by rw [HEN.out, hcy]; exact ⟨belowDrawnP HF.out.2, i, Aa, fn.params.length, ca, A8, c8, Ac8, mc8, cc8, rfl, HXX.out.le HLE.out, hm8, HII.out.le HLE.out, hc8, hv8⟩)

end Go.Proofs.Ytoankdaddgjnlaa

namespace Go.Proofs.Ytoankdaddgjnlaa
open Go.ChangeShapes Go.WideShapes Go.ChangeAt Go.RowKit Go.Sort

/-- What is left of the operands is read behind those that were. -/
def OutL.app (vs : List Vl) (c : List Tr) : OutL → OutL
  | .err e => .err e
  | .ok us f c' => .ok (vs ++ us) f (c ++ c')
theorem OutL.app_nil (o : OutL) : o.app [] [] = o := by cases o <;> rfl
theorem evL_err {E : Nd → Nat → Out} {y : Nd} {r : List Nd} {f : Nat} {k : Int} (h : E y f = .err k) : evL E (y :: r) f = .err k := by
  rw [evL, h]
theorem evL_ok {E : Nd → Nat → Out} {y : Nd} {r : List Nd} {f g : Nat} {v : Vl} {c : List Tr} (h : E y f = .ok v g c) : evL E (y :: r) f = (evL E r g).app [v] c := by
  rw [evL, h]
  dsimp only
  cases evL E r g <;> rfl
theorem app_app (vs us : List Vl) (c c' : List Tr) (o : OutL) : (o.app us c').app vs c = o.app (vs ++ us) (c ++ c') := by
  cases o with
  | err e => rfl
  | ok ws f d => simp [OutL.app]
/-- Where the loop stands. -/
def CaP (E : Nd → Nat → Out) (kids : List Nd) (F0 : Nat) (k : Nat) (vs : List Vl) (f : Nat) : Prop := vs.length = k ∧ f ≤ F0 ∧ ∃ c, evL E kids F0 = (evL E (kids.drop k) f).app vs c
theorem CaP.start (E : Nd → Nat → Out) (kids : List Nd) (F0 : Nat) : CaP E kids F0 0 [] F0 := ⟨rfl, Nat.le_refl _, [], by rw [List.drop_zero, OutL.app_nil]⟩
theorem CaP.err {E : Nd → Nat → Out} {kids : List Nd} {F0 k : Nat} {vs : List Vl} {f : Nat} (h : CaP E kids F0 k vs f) (hk : k < kids.length) {e : Int} (he : E kids[k] f = .err e) : evL E kids F0 = .err e := by
  obtain ⟨_, _, c, hc⟩ := h
  rw [hc, List.drop_eq_getElem_cons hk, evL_err he]; rfl
theorem CaP.ok {E : Nd → Nat → Out} {kids : List Nd} {F0 k : Nat} {vs : List Vl} {f : Nat} (h : CaP E kids F0 k vs f) (hk : k < kids.length) {v : Vl} {g : Nat} {c : List Tr} (he : E kids[k] f = .ok v g c) (hg : g ≤ f) : CaP E kids F0 (k + 1) (vs ++ [v]) g := by
  obtain ⟨h1, h2, c0, hc⟩ := h
  refine ⟨by simp [h1], by omega, c0 ++ c, ?_⟩
  rw [hc, List.drop_eq_getElem_cons hk, evL_ok he, app_app]
theorem CaP.end_ {E : Nd → Nat → Out} {kids : List Nd} {F0 : Nat} {vs : List Vl} {f : Nat} (h : CaP E kids F0 kids.length vs f) : ∃ c, evL E kids F0 = .ok vs f c := by
  obtain ⟨_, _, c, hc⟩ := h
  refine ⟨c ++ [], ?_⟩
  rw [hc, List.drop_length]
  show OutL.app vs c (.ok [] f []) = _
  simp [OutL.app]
/-- A call, plainly: the operands, then Enter. -/
theorem ev_85 {ap : Int → Int → Int → Int × Int} {lib : List Fn1} {d act : Nat} {env : ByteArray → Option Vl} {x : Nd} {f : Nat} (h0 : f ≠ 0) (hk : x.kind = 85) :
    (∀ e, evL (ev ap lib d act env) x.kids (f - 1) = .err e → ev ap lib (d + 1) act env x f = .err e) ∧
    (∀ vs g c, evL (ev ap lib d act env) x.kids (f - 1) = .ok vs g c → ev ap lib (d + 1) act env x f = ((enter lib (ev ap lib d) act (findF lib x.name 0) vs g).out).pre c) := by
  rw [ev, if_neg h0, if_neg (by omega), if_neg (by omega), if_neg (by omega), if_neg (by omega)]
  constructor
  · intro e he
    rw [he]; rfl
  · intro vs g c hv
    rw [hv]
    unfold OutL.bind
    dsimp only
    rw [if_pos hk]

end Go.Proofs.Ytoankdaddgjnlaa

namespace Go.Proofs.Ytoankdaddgjnlaa
open Go.ChangeShapes Go.WideShapes Go.ChangeAt Go.RowKit Go.Sort

theorem info_rvalE : (Try.prog.info? 28).map (fun i => (i.zero, i.size, i.bytes)) = some (some (.agg #[.bool false, .int .i64 0, .slice none 0 0]), 3, 40) := by kernel_rfl
theorem info_rtreeE : (Try.prog.info? 34).map (fun i => (i.zero, i.size, i.bytes)) = some (some (.agg #[.int .i64 0, .slice none 0 0, .bool false, .int .i64 0, .slice none 0 0, .slice none 0 0]), 6, 96) := by kernel_rfl
/-- The blocks that the call writes: its boxes, its rows. -/
def CaX (X : Nat → Prop) (w : World) (uc ua : Value) (k : Nat) : Prop := X k ∨ k = w.heap.size ∨ k = w.heap.size + 1 ∨ uc.ownBlock = some k ∨ ua.ownBlock = some k
/-- Where the loop stands. -/
structure CaR (X : Nat → Prop) (w wr : World) (c0 c1 c2 c3 : Value) (m k : Nat) (uc ua : Value) (vs : List Vl) : Prop where
  hb : Below w.heap.size w wr
  nd : Bx wr w.heap.size #[c0, c1, c2, c3]
  re : Bx wr (w.heap.size + 1) #[.bool false, .int .i64 0, .slice none 0 0, .int .i64 0, .slice none 0 0, .int .i64 0]
  calls : ∃ cs, wr.ownsRow (w.heap.size + 2) 34 6 uc m cs ∧ ∀ u ∈ cs, u.oneCell' = true
  args : ∃ cs, wr.ownsRow (w.heap.size + 2) 28 3 ua k cs ∧ RowG (ValC wr (CaX X w uc ua)) cs vs
  ne : ∀ g, uc.ownBlock = some g → ua.ownBlock ≠ some g
  cl : ∀ v ∈ vs, Cl v
theorem CaR.below {X : Nat → Prop} {w wr w' : World} {c0 c1 c2 c3 : Value} {m k : Nat} {uc ua : Value} {vs : List Vl} (h : CaR X w wr c0 c1 c2 c3 m k uc ua vs) (hb : Below wr.heap.size wr w') : CaR X w w' c0 c1 c2 c3 m k uc ua vs := by
  obtain ⟨csT, hT, oT⟩ := h.calls
  obtain ⟨csV, hV, rV⟩ := h.args
  exact ⟨below_step h.hb h.hb.size hb, h.nd.below hb, h.re.below hb, ⟨csT, own_below hT hb, oT⟩, ⟨csV, own_below hV hb, rV.map (ValC.le (Le.below hb (fun _ _ e => e)))⟩, h.ne, h.cl⟩
theorem CaR.leA {X : Nat → Prop} {w W w' : World} {uc ua ua' : Value} (hg : W.grownBy w' ua.ownBlock) (hat : ua'.ownBlock = ua.ownBlock ∨ ua'.ownBlock = some W.heap.size) : Le W (CaX X w uc ua) w' (CaX X w uc ua') :=
  Le.of_fr (Fr.of_grown hg) (fun k _ e => .inr (.inr (.inr (.inr e.symm)))) (fun k hk e => by
    rcases e with e | e | e | e | e
    · exact .inl e
    · exact .inr (.inl e)
    · exact .inr (.inr (.inl e))
    · exact .inr (.inr (.inr (.inl e)))
    · rcases hat with q | q
      · exact .inr (.inr (.inr (.inr (q ▸ e))))
      · rw [q] at e; cases e; omega)
theorem CaR.leC {X : Nat → Prop} {w W w' : World} {uc uc' ua : Value} (hg : W.grownBy w' uc.ownBlock) (hat : uc'.ownBlock = uc.ownBlock ∨ uc'.ownBlock = some W.heap.size) : Le W (CaX X w uc ua) w' (CaX X w uc' ua) :=
  Le.of_fr (Fr.of_grown hg) (fun k _ e => .inr (.inr (.inr (.inl e.symm)))) (fun k hk e => by
    rcases e with e | e | e | e | e
    · exact .inl e
    · exact .inr (.inl e)
    · exact .inr (.inr (.inl e))
    · rcases hat with q | q
      · exact .inr (.inr (.inr (.inl (q ▸ e))))
      · rw [q] at e; cases e; omega
    · exact .inr (.inr (.inr (.inr e))))
theorem CaR.pushA {X : Nat → Prop} {w W w' : World} {c0 c1 c2 c3 : Value} {m k : Nat} {uc ua ua' : Value} {vs : List Vl} (h : CaR X w W c0 c1 c2 c3 m k uc ua vs) {cs c : List Value} (hA : W.ownsRow (w.heap.size + 2) 28 3 ua k cs) (hr : RowG (ValC W (CaX X w uc ua)) cs vs) {v : Vl} (hc : ValC W (CaX X w uc ua) c v) (hcl : Cl v) (hg : W.grownBy w' ua.ownBlock) (hown : w'.ownsRow (w.heap.size + 2) 28 3 ua' (k + 1) (cs ++ c)) (hat : ua'.ownBlock = ua.ownBlock ∨ ua'.ownBlock = some W.heap.size) : CaR X w w' c0 c1 c2 c3 m (k + 1) uc ua' (vs ++ [v]) := by
  have hge := fun g e => own_block_geB hA g e
  have hle := CaR.leA (X := X) (w := w) (uc := uc) hg hat
  obtain ⟨csT, hT, oT⟩ := h.calls
  refine ⟨h.hb.grown hg h.hb.size (fun k hk => by have := hge k hk; omega), h.nd.fr (Fr.of_grown hg) (fun e => by have := hge _ e.symm; omega), h.re.fr (Fr.of_grown hg) (fun e => by have := hge _ e.symm; omega), ⟨csT, (Fr.of_grown hg).own hT (fun g e q => h.ne g e q.symm), oT⟩, ⟨cs ++ c, hown, (hr.map (ValC.le hle)).snoc (ValC.le hle _ _ hc)⟩, fun g e q => ?_, fun u hu => ?_⟩
  · rcases hat with r | r
    · exact h.ne g e (r ▸ q)
    · rw [r] at q; cases q
      have := (hT.lt _ e).2
      omega
  · rcases List.mem_append.1 hu with hu | hu
    · exact h.cl u hu
    · simp at hu; subst hu; exact hcl
theorem CaR.pushC {X : Nat → Prop} {w W w' : World} {c0 c1 c2 c3 : Value} {m k mc : Nat} {uc uc' ua : Value} {vs : List Vl} (h : CaR X w W c0 c1 c2 c3 m k uc ua vs) {cs c : List Value} (hC : W.ownsRow (w.heap.size + 2) 34 6 uc m cs) (hone : ∀ u ∈ cs ++ c, u.oneCell' = true) (hg : W.grownBy w' uc.ownBlock) (hown : w'.ownsRow (w.heap.size + 2) 34 6 uc' (m + mc) (cs ++ c)) (hat : uc'.ownBlock = uc.ownBlock ∨ uc'.ownBlock = some W.heap.size) : CaR X w w' c0 c1 c2 c3 (m + mc) k uc' ua vs := by
  have hge := fun g e => own_block_geB hC g e
  have hle := CaR.leC (X := X) (w := w) (ua := ua) hg hat
  obtain ⟨csV, hV, rV⟩ := h.args
  refine ⟨h.hb.grown hg h.hb.size (fun k hk => by have := hge k hk; omega), h.nd.fr (Fr.of_grown hg) (fun e => by have := hge _ e.symm; omega), h.re.fr (Fr.of_grown hg) (fun e => by have := hge _ e.symm; omega), ⟨cs ++ c, hown, hone⟩, ⟨csV, (Fr.of_grown hg).own hV (fun g e q => h.ne g q.symm e), rV.map (ValC.le hle)⟩, fun g e q => ?_, h.cl⟩
  rcases hat with r | r
  · exact h.ne g (r ▸ e) q
  · rw [r] at e; cases e
    have := (hV.lt _ q).2
    omega
theorem CaR.outT {X : Nat → Prop} {w W : World} {c0 c1 c2 c3 : Value} {m k : Nat} {uc ua : Value} {vs : List Vl} (h : CaR X w W c0 c1 c2 c3 m k uc ua vs) (hold : ∀ k, X k → k < w.heap.size) : ∃ A c, uc = .slice A m c ∧ CxX W (fun k => X k ∨ k = w.heap.size + 1) A m := by
  obtain ⟨cs, ho, hone⟩ := h.calls
  obtain ⟨A, c, e, _, hc⟩ := cells_of_own ho ho.1
  exact ⟨A, c, e, cs, ho.1, fun j u hu => by
    obtain ⟨b, o, e2, hb, h2⟩ := hc j u hu
    exact ⟨b, o, e2, fun e3 => by
      rcases e3 with e3 | e3
      · have := hold b e3; omega
      · omega, h2⟩, hone⟩
theorem cells_litC (w : World) (cs : List Value) (T : TypeId) : CellsAt (w.alloc (Obj.cells cs.toArray T)) (some ⟨w.heap.size, 0, none⟩) cs := fun j u hu => ⟨w.heap.size, 0, rfl, by
  rw [Nat.zero_add]
  exact (show Bx (w.alloc (Obj.cells cs.toArray T)) w.heap.size cs.toArray from bx_new w _ T).cell (by simpa using hu)⟩
theorem ar85R {lib : List Fn1} {x : Nd} (h : arT lib x = true) (h85 : x.kind = 85) : ∃ (i : Nat) (fn : Fn1), findF lib x.name 0 = i ∧ lib[i]? = some fn ∧ x.kids.length = fn.params.length := by
  rw [arT_eq, if_pos h85] at h
  have h1 := (Bool.and_eq_true_iff.1 h).1
  have h2 := Bool.and_eq_true_iff.1 h1
  have h3 : 0 ≤ findF lib x.name 0 := by simpa using h2.1
  have h4 : x.kids.length = ((lib[(findF lib x.name 0).toNat]?).map fun f => f.params.length).getD 0 := by simpa using h2.2
  rcases findF_range x.name lib 0 with e | ⟨i, i1, i2, _⟩
  · rw [e] at h3; omega
  have hn : (findF lib x.name 0).toNat = i := by rw [i2]; omega
  rw [hn, List.getElem?_eq_getElem i1] at h4
  exact ⟨i, lib[i], by rw [i2]; omega, List.getElem?_eq_getElem i1, h4⟩
set_option maxRecDepth 100000 in
set_option maxHeartbeats 4000000 in
theorem rcall_any {X : Nat → Prop} {A : Option Addr} {cap : Nat} {lib : List Fn1} {d : Nat} {x : Nd} {Ak : Option Addr} (ck : Nat) {vs : List (ByteArray × Vl)} {Av : Option Addr} (cv : Nat) {F : Int} {act : Nat} {w : World} (W0 : World) (hX : LibX W0 A lib) (h : RPre X A lib x Ak vs Av F act w) (ih : REvalC A cap lib d) (hd : F.toNat ≤ d) (hk : x.kind = 85) (o : Out) (ho1 : ∀ e, evL (ev apR lib d act (envL vs)) x.kids F.toNat = .err e → o = .err e) (ho2 : ∀ us g c, evL (ev apR lib d act (envL vs)) x.kids F.toNat = .ok us g c → o = ((enter lib (ev apR lib d) act (findF lib x.name 0) us g).out).pre c) :
    Calls Try.prog 37 #[.slice A lib.length cap, .slice Av vs.length cv, .agg #[.int .u8 x.kind, .int .i64 x.num, .string x.name, .slice Ak x.kids.length ck], .int .i64 F, .int .i64 act] w (RetOu o (F.toNat + 1) X w) := by
  have H2 := Lib.hid (two_bx w #[.int .u8 x.kind, .int .i64 x.num, .string x.name, .slice Ak x.kids.length ck] #[.bool false, .int .i64 0, .slice none 0 0, .int .i64 0, .slice none 0 0, .int .i64 0] 41 82)
  rw [hk] at H2 ⊢
  have HP := Lib.hid h
  have HO1 := Lib.hid ho1
  have HO2 := Lib.hid ho2
  have hkl := h.size
  have hkk := len_le_sizeTL x.kids
  have hse := sizeT_eq x
  have hFu := h.fuel
  have hF9 : F.toNat ≤ 900000 := by omega
  clear h ho1 ho2
  go_enter Try.func37, Try.ntmps37
  go_upto_region 1 with fail
  generalize hWg : (w.alloc _).alloc _ = W at H2 ⊢
  have hWs : W.heap.size = w.heap.size + 2 := by rw [← hWg]; simp
  clear hWg
  have H0 := Lib.hid (show CaR X w ((W.alloc (Obj.cells #[] 34)).alloc (Obj.cells #[] 28)) (.int .u8 85) (.int .i64 x.num) (.string x.name) (.slice Ak x.kids.length ck) 0 0 (.slice (some ⟨w.heap.size + 2, 0, none⟩) 0 0) (.slice (some ⟨w.heap.size + 2 + 1, 0, none⟩) 0 0) [] from by
    have q1 := below_box W (Obj.cells #[] 34)
    have q2 := below_box (W.alloc (Obj.cells #[] 34)) (Obj.cells #[] 28)
    have z1 : (W.alloc (Obj.cells #[] 34)).heap.size = w.heap.size + 2 + 1 := by simp [hWs]
    have o1 := own_emptyP W (e := 34) (size := 6)
    have o2 := own_emptyP (W.alloc (Obj.cells #[] 34)) (e := 28) (size := 3)
    rw [hWs] at o1
    rw [z1] at o2
    exact ⟨below_step (below_step H2.out.2.2 H2.out.2.2.size q1) (below_step H2.out.2.2 H2.out.2.2.size q1).size q2, (H2.out.1.below q1).below q2, (H2.out.2.1.below q1).below q2, ⟨[], o1.alloc _, fun u hu => by simp at hu⟩, ⟨[], ⟨o2.1, o2.2.imp id fun ⟨g, cap, cur, e, hg, r⟩ => ⟨g, cap, cur, e, by omega, r⟩⟩, RowG.nil⟩, fun g hg e => by simp [Value.ownBlock] at hg e; omega, fun v hv => by simp at hv⟩)
  go_upto_region 4 with fail
  go_loopw [3, 11, 12, 13] (fun fu uc ua j wr => ∃ (k m f : Nat) (us : List Vl) (G : Int), k ≤ x.kids.length ∧ j = .int .i64 k ∧ m + f ≤ F.toNat ∧ fu = .int .i64 G ∧ G.toNat = f ∧ G ≤ 900000 ∧ Hid (CaP (ev apR lib d act (envL vs)) x.kids F.toNat k us f) ∧ Hid (CaR X w wr (.int .u8 85) (.int .i64 x.num) (.string x.name) (.slice Ak x.kids.length ck) m k uc ua us)) (fun _ _ _ j _ => x.kids.length - (intOf j).toNat)
  case atStart => exact ⟨0, 0, F.toNat, [], F, by omega, rfl, by omega, rfl, rfl, hFu, CaP.start _ _ _, H0⟩
  case round =>
    obtain ⟨k, m, f, us, G, hkn, rfl, hmf, rfl, hGf, hG9, hcp, hcr⟩ := hrel
    have hb := hcr.out.hb
    have hbs := hb.size
    obtain ⟨a0, a1, a2, a3, _⟩ := hcr.out.nd.four
    have hndl := hcr.out.nd.lt
    obtain ⟨csT, howT, honT⟩ := hcr.out.calls
    obtain ⟨csV, howV, hroV⟩ := hcr.out.args
    obtain ⟨AT, cT, rfl, hcT, _⟩ := own_formB howT
    obtain ⟨AV, cV, rfl, hcV, _⟩ := own_formB howV
    have hrw : ∀ kk, CaX X w (.slice AT m cT) (.slice AV k cV) kk → kk < wr.heap.size := fun kk e => by
      rcases e with e | e | e | e | e
      · have := HP.out.old kk e; omega
      · omega
      · have := hcr.out.re.lt; omega
      · exact (howT.lt kk e).2
      · exact (howV.lt kk e).2
    by_cases hin : k < x.kids.length
    · obtain ⟨kb, ko, Ay, cy, rfl, kl, c0, c1, c2, c3, hks⟩ := HP.out.kids.kid hin
      replace c0 := below_cell hb c0
      replace c1 := below_cell hb c1
      replace c2 := below_cell hb c2
      replace c3 := below_cell hb c3
      have hyk := fit_kid (k := k) (y := x.kids[k]) (List.getElem?_eq_getElem hin) HP.out.fit HP.out.form HP.out.ar
      have HCE := Lib.hid (fun e (he : ev apR lib d act (envL vs) x.kids[k] f = .err e) => hcp.out.err hin he)
      have HCO := Lib.hid (fun v g c (he : ev apR lib d act (envL vs) x.kids[k] f = .ok v g c) (hg : g ≤ f) => hcp.out.ok hin he hg)
      have HRB := Lib.hid (ih (CaX X w (.slice AT m cT) (.slice AV k cV)) x.kids[k] Ay cy vs Av cv G act wr ⟨HP.out.lb.mono hb, HP.out.vars.below hb (fun kk hk e => by
        rcases e with e | e | e | e | e
        · exact e
        · omega
        · omega
        · have := (howT.lt kk e).1; omega
        · have := (howV.lt kk e).1; omega), hks.mono hb, hyk.1, hyk.2.1, hyk.2.2.1, by have := hyk.2.2.2; omega, hG9, HP.out.act, hrw, HP.out.cl⟩ (by omega))
      rw [hGf] at HRB
      have HCR := Lib.hid hcr.out
      have hlt1 := block_lt_of_cell c0
      have r1 : (0 : Int) ≤ k := by omega
      have r2 : (k : Int) < x.kids.length := by omega
      obtain ⟨ou, hou⟩ : ∃ ou, ev apR lib d act (envL vs) x.kids[k] f = ou := ⟨_, rfl⟩
      have hEC := ev_cl apR lib d act (envL vs) x.kids[k] f (cl_env HP.out.cl)
      rw [hou] at HRB HCE HCO hEC
      obtain ⟨i0, hi0, hz0, hz1, hz2⟩ := info_parts info_rvalE
      have HI := Lib.hid (And.intro hi0 (And.intro hz0 (And.intro hz1 hz2)))
      obtain ⟨j0, hj0, hy0, hy1, hy2⟩ := info_parts info_rtreeE
      have HJ := Lib.hid (And.intro hj0 (And.intro hy0 (And.intro hy1 hy2)))
      have HOT := Lib.hid (And.intro howT honT)
      have HOV := Lib.hid (And.intro howV hroV)
      clear hi0 hz0 hz1 hz2 hj0 hy0 hy1 hy2 howT honT howV hroV hcr hcp hou hks hyk
      generalize x.kids[k] = yk at *
      go_wp2_with fail
      refine HRB.out.mono ?_
      intro e w8 hb
      have hb8 := hb.1
      obtain ⟨bl, n, A8, m8, c8, G8, Ac8, mc8, cc8, q8, rfl, hx8, hm8, hq8⟩ := retou_six hb
      have HR8 := Lib.hid (HCR.out.below hb8)
      have HQ8 := Lib.hid hq8
      have hb9 := below_box w8 (Obj.cells #[.bool bl, .int .i64 n, .slice A8 m8 c8, .int .i64 G8, .slice Ac8 mc8 cc8, .int .i64 q8] 82)
      have HO9 := Lib.hid (bx_new w8 #[.bool bl, .int .i64 n, .slice A8 m8 c8, .int .i64 G8, .slice Ac8 mc8 cc8, .int .i64 q8] 82)
      have HR9 := Lib.hid (HR8.out.below hb9)
      have HX9 := Lib.hid (hx8.le (Le.below hb9 (fun _ _ e => e)))
      have HL9 := Lib.hid hb9
      have HG8 := Lib.hid (below_step hb8 hb8.size hb9)
      have hlt8 := hb8.size
      clear hb8 hb9 hx8 hq8 a0 a1 a2 a3 c0 c1 c2 c3
      go_upto_region 7 with fail
      generalize w8.alloc _ = W9 at HO9 HR9 HX9 HL9 HG8 ⊢
      obtain ⟨⟨o0, o1, o2, o3, o4, o5⟩, p0, p1, p2, p3, p4, p5⟩ := HO9.out.six
      cases ou with
      | err k2 =>
        obtain ⟨hq0, hq1⟩ := HQ8.out
        subst hq0
        have hne2 : (q8 != 0) = true := bne_iff_ne.2 hq1
        have HER := Lib.hid (HO1.out q8 (HCE.out q8 rfl))
        have HK8 := Lib.hid hq1
        have HC := Lib.hid HR9.out.re
        have HB := Lib.hid HR9.out.hb
        obtain ⟨⟨y0, y1, y2, y3, y4, y5⟩, f0, f1, f2, f3, f4, f5⟩ := HC.out.six
        clear hq1
        go_wp2_with fail
        have HF := Lib.hid (And.intro (HC.out.set6 (.bool bl) (.int .i64 n) (.slice A8 m8 c8) (.int .i64 G8) (.slice Ac8 mc8 cc8) (.int .i64 q8)) (belowR6 HB.out (Nat.le_add_right w.heap.size 1) (.bool bl) (.int .i64 n) (.slice A8 m8 c8) (.int .i64 G8) (.slice Ac8 mc8 cc8) (.int .i64 q8)))
        have HLE := Lib.hid (fun (Xa Xb : Nat → Prop) (h1 : ∀ k, k = w.heap.size + 1 → Xa k) (h2 : ∀ k, Xb k → Xa k) => Le.of_fr (X := Xa) (X' := Xb) (Fr.set6 W9 (w.heap.size + 1) (.bool bl) (.int .i64 n) (.slice A8 m8 c8) (.int .i64 G8) (.slice Ac8 mc8 cc8) (.int .i64 q8)) (fun k _ e => h1 k e) (fun k _ e => h2 k e))
        generalize World.setCell _ _ _ = WF at HF HLE ⊢
        obtain ⟨⟨g0, g1, g2, g3, g4, g5⟩, _⟩ := HF.out.1.six
        exact bodyPost_ret (v := .agg #[.bool bl, .int .i64 n, .slice A8 m8 c8, .int .i64 G8, .slice Ac8 mc8 cc8, .int .i64 q8]) (by simp [results, Try.results37, go_sem, g0, g1, g2, g3, g4, g5]) rfl (by rw [HER.out]; exact ⟨HF.out.2, HK8.out, bl, n, A8, m8, c8, G8, Ac8, mc8, cc8, rfl, HX9.out.le (HLE.out _ _ (fun k e => .inr (.inr (.inl e))) (fun k e => .inl e)), by omega⟩)
      | ok v gf t =>
        obtain ⟨hq0, rfl, rfl, rfl, rfl, hmg, hiv, hcv8, hmv⟩ := HQ8.out
        subst hq0
        have HCV := Lib.hid (HCO.out v gf t rfl (by omega))
        have hmF : m + mc8 ≤ 900000 := Nat.le_trans (Nat.add_le_add_left (Nat.le_trans (Nat.le_add_right _ _) hmg) m) (Nat.le_trans hmf hF9)
        have hmF2 : m + mc8 + gf ≤ F.toNat := by rw [Nat.add_assoc]; exact Nat.le_trans (Nat.add_le_add_left hmg m) hmf
        have hclv : Cl v := hEC
        have HVC := Lib.hid (show ValC W9 (CaX X w (.slice AT m cT) (.slice AV k cV)) [.bool v.list, .int .i64 v.n, .slice A8 v.l.length c8] v from ⟨A8, c8, rfl, hiv.le (Le.below HL9.out (fun _ _ e => e)), hcv8, hmv⟩)
        have HR10 := Lib.hid (HR9.out.below (below_box W9 (Obj.cells #[.bool v.list, .int .i64 v.n, .slice A8 v.l.length c8] 28)))
        have HG10 := Lib.hid (below_step HG8.out HG8.out.size (below_box W9 (Obj.cells #[.bool v.list, .int .i64 v.n, .slice A8 v.l.length c8] 28)))
        have HX10 := Lib.hid (HX9.out.le (Le.below (below_box W9 (Obj.cells #[.bool v.list, .int .i64 v.n, .slice A8 v.l.length c8] 28)) (fun _ _ e => e)))
        have HVC10 := Lib.hid (ValC.le (Le.below (below_box W9 (Obj.cells #[.bool v.list, .int .i64 v.n, .slice A8 v.l.length c8] 28)) (fun _ _ e => e)) _ _ HVC.out)
        have HBX10 := Lib.hid (HO9.out.below (below_box W9 (Obj.cells #[.bool v.list, .int .i64 v.n, .slice A8 v.l.length c8] 28)))
        have HV10 := Lib.hid (own_below HOV.out.1 HG10.out)
        have HRV10 := Lib.hid (HOV.out.2.map (ValC.le (Le.below HG10.out (fun _ _ e => e))))
        have HS10 := Lib.hid (show w.heap.size + 2 ≤ (W9.alloc (Obj.cells #[.bool v.list, .int .i64 v.n, .slice A8 v.l.length c8] 28)).heap.size by have := HR10.out.re.lt; omega)
        have HNA := Lib.hid (fun g (e : (Value.slice AV k cV).ownBlock = some g) => (HOV.out.1.lt g e).2)
        go_upto_region 11 with (at_builtin; go_loud (refine wpList_app _ rfl _ _ 23 rfl (w.heap.size + 2) 28 i0 (.agg #[.bool false, .int .i64 0, .slice none 0 0]) 3 40 Try.underlying23 HI.out.1 HI.out.2.1 HI.out.2.2.1 HI.out.2.2.2 rfl (by decide) _ _ _ rfl HV10.out (some ⟨W9.heap.size, 0, none⟩) 1 1 [.bool v.list, .int .i64 v.n, .slice A8 v.l.length c8] rfl rfl (cells_litC W9 _ _) (ValC.one _ _ HVC.out) (by unfold maxLen; omega) (by omega) HS10.out ?_; intro v' w11 hown' hgrow hat; have NX := Lib.hid (HR10.out.pushA HV10.out HRV10.out HVC10.out hclv hgrow hown' hat); have HX11 := Lib.hid (HX10.out.le (CaR.leA hgrow hat)); have HB11 := Lib.hid (HBX10.out.fr (Fr.of_grown hgrow) (fun e => (by have := HNA.out _ e.symm; omega))); clear hown' hgrow hat))
        obtain ⟨csT2, howT2, honT2⟩ := NX.out.calls
        have HOT2 := Lib.hid (And.intro howT2 honT2)
        obtain ⟨csC, hlC, hcC, hoC⟩ := HX11.out.cells
        have HCC := Lib.hid hcC
        have HOC := Lib.hid (fun u (hu : u ∈ csT2 ++ csC) => (List.mem_append.1 hu).elim (honT2 u) (hoC u))
        have HOC1 := Lib.hid hoC
        have hs11 : w.heap.size + 2 ≤ w11.heap.size := by have := NX.out.re.lt; omega
        clear o0 o1 o2 o3 o4 o5 p0 p1 p2 p3 p4 p5 howT2 honT2 hcC hoC
        obtain ⟨⟨o0, o1, o2, o3, o4, o5⟩, p0, p1, p2, p3, p4, p5⟩ := HB11.out.six
        go_wp2_with (at_builtin; go_loud (refine wpList_app _ rfl _ _ 32 rfl (w.heap.size + 2) 34 j0 (.agg #[.int .i64 0, .slice none 0 0, .bool false, .int .i64 0, .slice none 0 0, .slice none 0 0]) 6 96 Try.underlying32 HJ.out.1 HJ.out.2.1 HJ.out.2.2.1 HJ.out.2.2.2 rfl (by decide) _ _ _ rfl HOT2.out.1 Ac8 mc8 cc8 csC rfl hlC HCC.out HOC1.out (by unfold maxLen; omega) (by omega) hs11 ?_; intro v'' w12 hown' hgrow hat; have NX2 := Lib.hid (NX.out.pushC HOT2.out.1 HOC.out hgrow hown' hat); clear hown' hgrow hat))
        exact ⟨⟨_, _, _, .int .i64 ((k + 1 : Nat) : Int), ⟨k + 1, by omega, rfl, m + mc8, gf, hmF2, us ++ [v], (gf : Int), rfl, by omega, by omega, HCV, NX2⟩, rfl, rfl, rfl, by go_num⟩, by simp [intOf]; omega⟩
    · obtain rfl : k = x.kids.length := by omega
      obtain ⟨fi, fn, hfi, hfn, hfl⟩ := ar85R HP.out.ar hk
      obtain ⟨cc0, hc⟩ := hcp.out.end_
      have HO := Lib.hid (HO2.out us f cc0 hc)
      have hul : us.length = x.kids.length := hcp.out.1
      rw [hfi] at HO
      obtain ⟨A2, c2, e2, _, hcells⟩ := cells_of_own howV (by rw [hroV.len ValC.len, hul])
      cases e2
      have HVN : Hid (ValsC wr (CaX X w (.slice AT m cT) (.slice AV x.kids.length cV)) AV us) := Lib.hid ⟨csV, hroV, fun j u hu => by obtain ⟨b, o, e, _, h⟩ := hcells j u hu; exact ⟨b, o, e, h⟩⟩
      have HRE := Lib.hid (renter_any W0 hX ih (i := fi) hfn us AV cV G act wr (HP.out.lb.mono hb) HVN.out hcr.out.cl (by rw [hul]; exact hfl) (by omega) hG9 HP.out.act hrw)
      rw [hul, hGf] at HRE
      obtain ⟨ot, hot⟩ : ∃ ot, enter lib (ev apR lib d) act fi us f = ot := ⟨_, rfl⟩
      rw [hot] at HRE HO
      have HFI := Lib.hid (rfind_any lib A cap x.name wr (HP.out.lb.mono hb) hX.fit.1)
      rw [hfi] at HFI
      have HCR := Lib.hid hcr.out
      have HOT := Lib.hid (And.intro howT honT)
      clear hc hot hcells howT honT howV hroV hcr hcp hfi hfn hfl hX ih
      go_upto_region 12 with fail
      go_wp2_with fail
      refine HFI.out.mono ?_
      rintro e w' ⟨rfl, rfl⟩
      go_wp2_with fail
      refine HRE.out.mono ?_
      intro e w8 ho
      cases ot with
      | err k2 =>
        obtain ⟨hb8, hk2, rfl⟩ := ho
        have hb9 := below_box w8 (Obj.cells #[.int .i64 0, .slice none 0 0, .bool false, .int .i64 0, .slice none 0 0, .slice none 0 0] 34)
        have HR9 := Lib.hid ((HCR.out.below hb8).below hb9)
        have hne2 : (k2 != 0) = true := bne_iff_ne.2 hk2
        have HK8 := Lib.hid hk2
        have hlt8 := hb8.size
        clear hb8 hb9 hk2 a0 a1 a2 a3
        go_upto_region 13 with fail
        generalize w8.alloc _ = W9 at HR9 ⊢
        have HC := Lib.hid HR9.out.re
        have HB := Lib.hid HR9.out.hb
        obtain ⟨⟨y0, y1, y2, y3, y4, y5⟩, f0, f1, f2, f3, f4, f5⟩ := HC.out.six
        go_wp2_with fail
        have HF := Lib.hid (And.intro (HC.out.set6 (.bool false) (.int .i64 0) (.slice none 0 0) (.int .i64 0) (.slice none 0 0) (.int .i64 k2)) (belowR6 HB.out (Nat.le_add_right w.heap.size 1) (.bool false) (.int .i64 0) (.slice none 0 0) (.int .i64 0) (.slice none 0 0) (.int .i64 k2)))
        have HLE := Lib.hid (fun (Xa Xb : Nat → Prop) (h1 : ∀ k, k = w.heap.size + 1 → Xa k) (h2 : ∀ k, Xb k → Xa k) => Le.of_fr (X := Xa) (X' := Xb) (Fr.set6 W9 (w.heap.size + 1) (.bool false) (.int .i64 0) (.slice none 0 0) (.int .i64 0) (.slice none 0 0) (.int .i64 k2)) (fun k _ e => h1 k e) (fun k _ e => h2 k e))
        generalize World.setCell _ _ _ = WF at HF HLE ⊢
        obtain ⟨⟨g0, g1, g2, g3, g4, g5⟩, _⟩ := HF.out.1.six
        exact bodyPost_ret (v := .agg #[.bool false, .int .i64 0, .slice none 0 0, .int .i64 0, .slice none 0 0, .int .i64 k2]) (by simp [results, Try.results37, go_sem, g0, g1, g2, g3, g4, g5]) rfl (by rw [HO.out]; exact retou_pre (retou_err HK8.out HF.out.2))
      | ok t g =>
        obtain ⟨hb8, fi2, Aa, na, ca, A8, c8, Ac8, mc8, cc8, rfl, hx8, hm8, hi8, hc8, hv8⟩ := ho
        have hb9 := below_box w8 (Obj.cells #[.int .i64 fi2, .slice Aa na ca, .bool t.res.list, .int .i64 t.res.n, .slice A8 t.res.l.length c8, .slice Ac8 mc8 cc8] 34)
        have HO9 := Lib.hid (bx_new w8 #[.int .i64 fi2, .slice Aa na ca, .bool t.res.list, .int .i64 t.res.n, .slice A8 t.res.l.length c8, .slice Ac8 mc8 cc8] 34)
        have HR9 := Lib.hid ((HCR.out.below hb8).below hb9)
        have HT9 := Lib.hid (And.intro (own_below (own_below HOT.out.1 hb8) hb9) HOT.out.2)
        have HI9 := Lib.hid (hi8.le (Le.below hb9 (fun _ _ e => e)))
        have hlt8 := hb8.size
        have hm9 : m + 1 + g ≤ F.toNat + 1 := by
          have := Nat.add_le_add_left (Nat.le_trans (Nat.le_add_left g mc8) hm8) m
          omega
        have hm6 : m ≤ 900000 := Nat.le_trans (Nat.le_trans (Nat.le_add_right m f) hmf) hF9
        have HNE := Lib.hid (fun g (e : (Value.slice AT m cT).ownBlock = some g) => (HOT.out.1.lt g e).2)
        have HOLD := Lib.hid HP.out.old
        have HPU := Lib.hid (fun (W : World) (hW : W = w8.alloc (Obj.cells #[.int .i64 fi2, .slice Aa na ca, .bool t.res.list, .int .i64 t.res.n, .slice A8 t.res.l.length c8, .slice Ac8 mc8 cc8] 34)) (w' : World) (v' : Value) (o : Obj) (hg : (W.alloc o).drew.grownBy w' (Value.slice AT m cT).ownBlock) (hown : w'.ownsRow (w.heap.size + 2) 34 6 v' (m + 1) (csT ++ [.int .i64 fi2, .slice Aa na ca, .bool t.res.list, .int .i64 t.res.n, .slice A8 t.res.l.length c8, .slice Ac8 mc8 cc8])) (hat : v'.ownBlock = (Value.slice AT m cT).ownBlock ∨ v'.ownBlock = some (W.alloc o).drew.heap.size) => show CaR X w w' (.int .u8 85) (.int .i64 x.num) (.string x.name) (.slice Ak x.kids.length ck) (m + 1) x.kids.length v' (.slice AV x.kids.length cV) us ∧ Bx w' w8.heap.size #[.int .i64 fi2, .slice Aa na ca, .bool t.res.list, .int .i64 t.res.n, .slice A8 t.res.l.length c8, .slice Ac8 mc8 cc8] ∧ IntsX w' (CaX X w v' (.slice AV x.kids.length cV)) A8 t.res.l from by
          subst hW
          have hbd := belowDrawnP (below_box (w8.alloc (Obj.cells #[.int .i64 fi2, .slice Aa na ca, .bool t.res.list, .int .i64 t.res.n, .slice A8 t.res.l.length c8, .slice Ac8 mc8 cc8] 34)) o)
          exact ⟨(HR9.out.below hbd).pushC (own_below HT9.out.1 hbd) (fun u hu => (List.mem_append.1 hu).elim (HT9.out.2 u) (fun h => by simp at h; rcases h with rfl | rfl | rfl | rfl | rfl | rfl <;> rfl)) hg hown hat, (HO9.out.below hbd).fr (Fr.of_grown hg) (fun e => by have := HNE.out _ e.symm; omega), (HI9.out.le (Le.below hbd (fun _ _ e => e))).le (CaR.leC hg hat)⟩)
        clear hb8 hb9 hx8 hi8 a0 a1 a2 a3
        obtain ⟨j0, hj0, hy0, hy1, hy2⟩ := info_parts info_rtreeE
        go_upto_region 13 with fail
        generalize hW9 : w8.alloc _ = W9 at HR9 HO9 HT9 ⊢
        have HPW := Lib.hid (HPU.out W9 hW9.symm)
        have HS9 := Lib.hid (show w8.heap.size < W9.heap.size by rw [← hW9]; simp)
        clear hW9 HPU
        obtain ⟨⟨o0, o1, o2, o3, o4, o5⟩, p0, p1, p2, p3, p4, p5⟩ := HO9.out.six
        obtain ⟨⟨y0, y1, y2, y3, y4, y5⟩, f0, f1, f2, f3, f4, f5⟩ := HR9.out.re.six
        have HOW := Lib.hid (show (W9.alloc (Obj.cells #[.int .i64 fi2, .slice Aa na ca, .bool t.res.list, .int .i64 t.res.n, .slice A8 t.res.l.length c8, .slice Ac8 mc8 cc8] 34)).drew.ownsRow (w.heap.size + 2) 34 6 (.slice AT m cT) m csT from HT9.out.1.alloc _)
        go_upto_region 15 with fail
        have hlt15 := HS9.out
        have hlt10 := HR9.out.re.lt
        go_region_law (first
          | (refine step_app _ (by rfl) (.tmp 72) (.tmp 74) 32 (by rfl) (w.heap.size + 2) 34 j0 (.agg #[.int .i64 0, .slice none 0 0, .bool false, .int .i64 0, .slice none 0 0, .slice none 0 0]) 6 96 Try.underlying32 hj0 hy0 hy1 hy2 rfl (by decide) (.slice AT m cT) m csT (by simp [Act.eval]) HOW.out (some ⟨W9.heap.size, 0, none⟩) 1 1 [.int .i64 fi2, .slice Aa na ca, .bool t.res.list, .int .i64 t.res.n, .slice A8 t.res.l.length c8, .slice Ac8 mc8 cc8] (by simp [Act.eval]) rfl (cells_lit W9 _ _) (fun u hu => by simp at hu; rcases hu with rfl | rfl | rfl | rfl | rfl | rfl <;> rfl) (by unfold maxLen; omega) (by omega) (by simp; have := HR9.out.re.lt; omega) ?_; intro v' w9 hown' hgrow hat; have NX := Lib.hid (HPW.out _ _ _ hgrow hown' hat); clear hown' hgrow hat; obtain ⟨AF, cF, rfl, hcx⟩ := CaR.outT NX.out.1 HOLD.out; have HCX := Lib.hid hcx; clear hcx; obtain ⟨⟨o0, o1, o2, o3, o4, o5⟩, p0, p1, p2, p3, p4, p5⟩ := NX.out.2.1.six; obtain ⟨⟨y0, y1, y2, y3, y4, y5⟩, f0, f1, f2, f3, f4, f5⟩ := NX.out.1.re.six)
          | fail)
        all_goals
          have HC := Lib.hid NX.out.1.re
          have HB := Lib.hid NX.out.1.hb
          go_wp2_with fail
          have HF := Lib.hid (And.intro (HC.out.set6 (.bool t.res.list) (.int .i64 t.res.n) (.slice A8 t.res.l.length c8) (.int .i64 g) (.slice AF (m + 1) cF) (.int .i64 0)) (belowR6 HB.out (Nat.le_add_right w.heap.size 1) (.bool t.res.list) (.int .i64 t.res.n) (.slice A8 t.res.l.length c8) (.int .i64 g) (.slice AF (m + 1) cF) (.int .i64 0)))
          have HLE := Lib.hid (fun (Xa Xb : Nat → Prop) (h1 : ∀ k, k = w.heap.size + 1 → Xa k) (h2 : ∀ k, Xb k → Xa k) => Le.of_fr (X := Xa) (X' := Xb) (Fr.set6 w9 (w.heap.size + 1) (.bool t.res.list) (.int .i64 t.res.n) (.slice A8 t.res.l.length c8) (.int .i64 g) (.slice AF (m + 1) cF) (.int .i64 0)) (fun k _ e => h1 k e) (fun k _ e => h2 k e))
          generalize World.setCell _ _ _ = WF at HF HLE ⊢
          obtain ⟨⟨g0, g1, g2, g3, g4, g5⟩, _⟩ := HF.out.1.six
          exact bodyPost_ret (v := .agg #[.bool t.res.list, .int .i64 t.res.n, .slice A8 t.res.l.length c8, .int .i64 g, .slice AF (m + 1) cF, .int .i64 0]) (by simp [results, Try.results37, go_sem, g0, g1, g2, g3, g4, g5]) rfl (by rw [HO.out]; exact retou_pre ⟨HF.out.2, A8, c8, AF, m + 1, cF, rfl, HCX.out.le (HLE.out _ _ (fun k e => .inr e) (fun k e => .inl e)), hm9, NX.out.2.2.le (HLE.out _ _ (fun k e => .inr (.inr (.inl e))) (fun k e => .inl e)), hc8, hv8⟩)

end Go.Proofs.Ytoankdaddgjnlaa

namespace Go.Proofs.Ytoankdaddgjnlaa
open Go.ChangeShapes Go.WideShapes Go.ChangeAt Go.RowKit Go.Sort

theorem nd0_form : formT nd0 = true := by
  rw [formT_eq]; rw [show formTL nd0.kids = true by rw [show nd0.kids = [] from rfl, formTL], Bool.and_true]; decide +kernel
theorem nd0_size : sizeT nd0 = 1 := by rw [sizeT_eq, show nd0.kids = [] from rfl, sizeTL]
theorem nd0_ar (lib : List Fn1) : arT lib nd0 = true := by
  rw [arT_eq, if_neg (by decide), show nd0.kids = [] from rfl, arTL]; rfl
theorem nd0_fit : NdFit nd0 := .mk (by decide) (by decide) (by decide) (by decide) (fun k y h => by rw [show nd0.kids = [] from rfl] at h; simp at h)
set_option maxRecDepth 100000 in
set_option maxHeartbeats 1000000 in
theorem reval_85 {X : Nat → Prop} {A : Option Addr} {cap : Nat} {lib : List Fn1} {d : Nat} {x : Nd} {Ak : Option Addr} (ck : Nat) {vs : List (ByteArray × Vl)} {Av : Option Addr} (cv : Nat) {F : Int} {act : Nat} {w : World} (W0 : World) (hX : LibX W0 A lib) (h : RPre X A lib x Ak vs Av F act w) (hF : 0 < F) (ih : REvalC A cap lib d) (hd : F.toNat ≤ d + 1) (hk : x.kind = 85) :
    Calls Try.prog 25 #[.slice A lib.length cap, .slice Av vs.length cv, .agg #[.int .u8 x.kind, .int .i64 x.num, .string x.name, .slice Ak x.kids.length ck], .int .i64 F, .int .i64 act] w (RetOu (ev apR lib (d + 1) act (envL vs) x F.toNat) F.toNat X w) := by
  have H2 := Lib.hid (two_bx w #[.int .u8 x.kind, .int .i64 x.num, .string x.name, .slice Ak x.kids.length ck] #[.bool false, .int .i64 0, .slice none 0 0, .int .i64 0, .slice none 0 0, .int .i64 0] 41 82)
  have hev := ev_85 (ap := apR) (lib := lib) (d := d) (act := act) (env := envL vs) (x := x) (show F.toNat ≠ 0 by omega) hk
  have hfn : firstN x = nd0 := if_pos (.inr hk)
  have HFS := Lib.hid (fun (W : World) (hb : Below w.heap.size w W) => rfirst_any x Ak ck W (h.kids.mono hb))
  rw [hfn] at HFS
  have hF1 : (F - 1).toNat = F.toNat - 1 := by omega
  have hsz := h.size
  have hFu := h.fuel
  have hF0 : ¬ F ≤ 0 := by omega
  have HR : Hid (∀ (W : World) (Ay : Option Addr) (cy : Nat), Below w.heap.size w W → w.heap.size + 1 < W.heap.size → NdsAt W Ay nd0.kids → Calls Try.prog 25 #[.slice A lib.length cap, .slice Av vs.length cv, .agg #[.int .u8 nd0.kind, .int .i64 nd0.num, .string nd0.name, .slice Ay nd0.kids.length cy], .int .i64 (F - 1), .int .i64 act] W (RetOu (ev apR lib d act (envL vs) nd0 (F.toNat - 1)) (F.toNat - 1) (fun k => X k ∨ k = w.heap.size ∨ k = w.heap.size + 1) W)) := Lib.hid (fun W Ay cy hb hlt hn => by
    have := ih (fun k => X k ∨ k = w.heap.size ∨ k = w.heap.size + 1) nd0 Ay cy vs Av cv (F - 1) act W ⟨h.lb.mono hb, h.vars.below hb (fun k hk e => by rcases e with e | e | e; exact e; omega; omega), hn, nd0_fit, nd0_form, nd0_ar lib, by have := nd0_size; have := sizeT_eq x; omega, by omega, h.act, fun k e => by rcases e with e | e | e; have := h.old k e; have := hb.size; omega; omega; omega, h.cl⟩ (by omega)
    rw [hF1] at this
    exact this)
  obtain ⟨oo, hoo⟩ : ∃ oo, ev apR lib (d + 1) act (envL vs) x F.toNat = oo := ⟨_, rfl⟩
  rw [hoo] at hev ⊢
  have HCA : Hid (∀ (W : World), Below w.heap.size w W → w.heap.size + 1 < W.heap.size → Calls Try.prog 37 #[.slice A lib.length cap, .slice Av vs.length cv, .agg #[.int .u8 ((85 : Nat) : Int), .int .i64 x.num, .string x.name, .slice Ak x.kids.length ck], .int .i64 (F - 1), .int .i64 act] W (RetOu oo F.toNat (fun k => X k ∨ k = w.heap.size ∨ k = w.heap.size + 1) W)) := Lib.hid (fun W hb hlt => by
    have := rcall_any ck cv (F := F - 1) (X := fun k => X k ∨ k = w.heap.size ∨ k = w.heap.size + 1) W0 hX (w := W) ⟨h.lb.mono hb, h.vars.below hb (fun k hk e => by rcases e with e | e | e; exact e; omega; omega), h.kids.mono hb, h.fit, h.form, h.ar, h.size, by omega, h.act, fun k e => by rcases e with e | e | e; have := h.old k e; have := hb.size; omega; omega; omega, h.cl⟩ ih (by omega) hk oo (by rw [hF1]; exact hev.1) (by rw [hF1]; exact hev.2)
    rw [hF1, show F.toNat - 1 + 1 = F.toNat by omega, hk] at this
    exact this)
  rw [hk] at H2 HFS ⊢
  obtain ⟨on, hon⟩ : ∃ on, ev apR lib d act (envL vs) nd0 (F.toNat - 1) = on := ⟨_, rfl⟩
  rw [hon] at HR
  clear h hev hfn hk hon hoo hsz hF1 hX ih
  generalize nd0 = nd at HFS HR
  go_enter Try.func25, Try.ntmps25
  go_upto_region 1 with fail
  generalize (w.alloc _).alloc _ = W at H2 ⊢
  obtain ⟨x0, x1, x2, x3, _⟩ := H2.out.1.four
  go_wp2_with fail
  refine (HFS.out W H2.out.2.2).mono ?_
  rintro e w7 ⟨hb7, Ay, cy, rfl, hn7⟩
  have HB7 := Lib.hid (below_step H2.out.2.2 H2.out.2.2.size hb7)
  have hlt7 : w.heap.size + 1 < w7.heap.size := by have := H2.out.2.1.lt; have := hb7.size; omega
  have HN7 := Lib.hid hn7
  have HA7 := Lib.hid (H2.out.1.below hb7)
  have HC7 := Lib.hid (H2.out.2.1.below hb7)
  clear hb7 hn7 x0 x1 x2 x3
  go_wp2_with fail
  refine (HR.out w7 Ay cy HB7.out hlt7 HN7.out).mono ?_
  intro e w8 ho
  obtain ⟨hb8, bl, n, A8, m8, c8, G8, Ac8, mc8, cc8, q8, rfl, hx8⟩ : Below w7.heap.size w7 w8 ∧ ∃ (bl : Bool) (n : Int) (A : Option Addr) (m c : Nat) (G : Int) (Ac : Option Addr) (mc cc : Nat) (q : Int), e = .returned (.agg #[.bool bl, .int .i64 n, .slice A m c, .int .i64 G, .slice Ac mc cc, .int .i64 q]) ∧ CxX w8 (fun k => X k ∨ k = w.heap.size ∨ k = w.heap.size + 1) Ac mc := by
    obtain ⟨bl, n, A8, m8, c8, G8, Ac8, mc8, cc8, q8, h1, h2, _, _⟩ := retou_six ho
    exact ⟨ho.1, bl, n, A8, m8, c8, G8, Ac8, mc8, cc8, q8, h1, h2⟩
  clear ho
  have HB8 := Lib.hid (below_step HB7.out HB7.out.size hb8)
  have hb9 := below_box w8 (Obj.cells #[.bool bl, .int .i64 n, .slice A8 m8 c8, .int .i64 G8, .slice Ac8 mc8 cc8, .int .i64 q8] 82)
  have HO9 := Lib.hid (bx_new w8 #[.bool bl, .int .i64 n, .slice A8 m8 c8, .int .i64 G8, .slice Ac8 mc8 cc8, .int .i64 q8] 82)
  have HB9 := Lib.hid (below_step HB8.out HB8.out.size hb9)
  have HA9 := Lib.hid ((HA7.out.below hb8).below hb9)
  have HC9 := Lib.hid ((HC7.out.below hb8).below hb9)
  have HX8 := Lib.hid hx8
  have HL9 := Lib.hid hb9
  have hlt8 : w.heap.size + 1 < w8.heap.size := by have := hb8.size; omega
  have HXX := Lib.hid (hx8.le (Le.below hb9 (fun _ _ e => e)))
  clear hb8 hb9 hx8 HA7 HC7 HB7 HN7
  go_upto_region 12 with fail
  generalize w8.alloc _ = W9 at HO9 HB9 HA9 HC9 HL9 HXX ⊢
  obtain ⟨a0, a1, a2, a3, _⟩ := HA9.out.four
  obtain ⟨⟨o0, o1, o2, o3, o4, o5⟩, p0, p1, p2, p3, p4, p5⟩ := HO9.out.six
  obtain ⟨⟨y0, y1, y2, y3, y4, y5⟩, f0, f1, f2, f3, f4, f5⟩ := HC9.out.six
  have hlt9 := HC9.out.lt
  go_wp2_with fail
  refine (HCA.out W9 HB9.out hlt9).mono ?_
  intro e w10 hl
  have HB10 := Lib.hid (below_step HB9.out HB9.out.size hl.1)
  have HC10 := Lib.hid (HC9.out.below hl.1)
  have HHL := Lib.hid hl
  obtain ⟨bl2, n2, A10, m10, c10, G10, Ac10, mc10, cc10, q10, rfl, _, _, _⟩ := retou_six hl
  clear y0 y1 y2 y3 y4 y5 f0 f1 f2 f3 f4 f5
  obtain ⟨⟨y0, y1, y2, y3, y4, y5⟩, f0, f1, f2, f3, f4, f5⟩ := HC10.out.six
  go_wp2_with fail
  have HF := Lib.hid (And.intro (HC10.out.set6 (.bool bl2) (.int .i64 n2) (.slice A10 m10 c10) (.int .i64 G10) (.slice Ac10 mc10 cc10) (.int .i64 q10)) (belowR6 HB10.out (Nat.le_add_right w.heap.size 1) (.bool bl2) (.int .i64 n2) (.slice A10 m10 c10) (.int .i64 G10) (.slice Ac10 mc10 cc10) (.int .i64 q10)))
  have HLE := Lib.hid (fun (Xa Xb : Nat → Prop) (h1 : ∀ k, k = w.heap.size + 1 → Xa k) (h2 : ∀ k, Xb k → Xa k) => Le.of_fr (X := Xa) (X' := Xb) (Fr.set6 w10 (w.heap.size + 1) (.bool bl2) (.int .i64 n2) (.slice A10 m10 c10) (.int .i64 G10) (.slice Ac10 mc10 cc10) (.int .i64 q10)) (fun k _ e => h1 k e) (fun k _ e => h2 k e))
  generalize World.setCell _ _ _ = WF at HF HLE ⊢
  obtain ⟨⟨g0, g1, g2, g3, g4, g5⟩, _⟩ := HF.out.1.six
  exact bodyPost_ret (v := .agg #[.bool bl2, .int .i64 n2, .slice A10 m10 c10, .int .i64 G10, .slice Ac10 mc10 cc10, .int .i64 q10]) (by simp [results, Try.results25, go_sem, g0, g1, g2, g3, g4, g5]) rfl (retou_move HHL.out (Nat.le_refl _) HF.out.2 (HLE.out _ X (fun k e => .inr (.inr e)) (fun k e => .inl e)))

end Go.Proofs.Ytoankdaddgjnlaa

namespace Go.Proofs.Ytoankdaddgjnlaa
open Go.ChangeShapes Go.WideShapes Go.ChangeAt Go.RowKit Go.Sort

theorem reval_all (W0 : World) (A : Option Addr) (cap : Nat) (lib : List Fn1) (hX : LibX W0 A lib) : ∀ d, REvalC A cap lib d
  | 0 => by
    intro X x Ak ck vs Av cv F act w h hd
    have e : ev apR lib 0 act (envL vs) x F.toNat = .err 18 := by rw [ev]
    rw [e]
    exact reval_0 ck cv (by omega)
  | d + 1 => by
    intro X x Ak ck vs Av cv F act w h hd
    have ih := reval_all W0 A cap lib hX d
    by_cases hF : F ≤ 0
    · have e : ev apR lib (d + 1) act (envL vs) x F.toNat = .err 18 := by rw [ev, if_pos (by omega)]
      rw [e]
      exact reval_0 ck cv hF
    have hF : 0 < F := by omega
    have hk := form_kind (by have := h.form; rw [formT_eq] at this; exact (Bool.and_eq_true_iff.1 this).1)
    rcases (by omega : x.kind = 80 ∨ x.kind = 81 ∨ x.kind = 82 ∨ x.kind = 83 ∨ x.kind = 84 ∨ x.kind = 85 ∨ x.kind = 86 ∨ x.kind = 87 ∨ (x.kind = 88 ∨ x.kind = 89 ∨ x.kind = 90)) with k | k | k | k | k | k | k | k | k
    · have e : ev apR lib (d + 1) act (envL vs) x F.toNat = .ok ⟨false, x.num, []⟩ (F.toNat - 1) [] := by rw [ev, if_neg (by omega), if_pos k]
      rw [e]; exact reval_80 ck cv h hF k
    · have e : ev apR lib (d + 1) act (envL vs) x F.toNat = .ok ((envL vs x.name).getD zeroV) (F.toNat - 1) [] := by rw [ev, if_neg (by omega), if_neg (by omega), if_pos k]
      rw [e]; exact reval_81 ck cv h hF k
    · exact reval_82 ck cv h hF ih hd k
    · exact reval_83 ck cv h hF ih hd k
    · exact reval_84 ck cv h hF ih hd k
    · exact reval_85 ck cv W0 hX h hF ih hd k
    · have hlen : x.kids.length = 0 := one_kid h.form (by rw [k]; rfl)
      rw [ev_86 (by omega) k (List.length_eq_zero_iff.1 hlen)]
      exact reval_86 ck cv h hF k
    · exact reval_87 ck cv h hF ih hd k
    · exact reval_1 ck cv h hF ih hd k

end Go.Proofs.Ytoankdaddgjnlaa
