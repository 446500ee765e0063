/-
  Appending a slice that may be nil onto a row of the call's own; the reference's Calls.
-/
import Derived.Test.YtafjkmhphakhhaaFunCalls
import Derived.RegionTactic
import Derived.OwnWalk
namespace Go.Proofs.Ytafjkmhphakhhaa
open Go.ChangeShapes Go.WideShapes Go.ChangeAt Go.RowKit Go.Sort

/-- The cells of a slice, nil let in. -/
def CellsAt (w : World) (A : Option Addr) (xs : List Value) : Prop := ∀ (j : Nat) (u : Value), xs[j]? = some u → ∃ b o, A = some ⟨b, o, none⟩ ∧ w.cell? ⟨b, o + j, none⟩ = some u
theorem CellsAt.mono {w w' : World} {A : Option Addr} {xs : List Value} (h : CellsAt w A xs) (hb : Below w.heap.size w w') : CellsAt w' A xs := fun j u hu => by
  obtain ⟨b, o, e, h1⟩ := h j u hu
  exact ⟨b, o, e, below_cell hb h1⟩
theorem IntsAt.cells {w : World} {A : Option Addr} {l : List Int} (h : IntsAt w A l) : CellsAt w A (l.map (Value.int .i64)) := fun j u hu => by
  rw [List.getElem?_map] at hu
  obtain ⟨x, hx, rfl⟩ := Option.map_eq_some_iff.1 hu
  exact h j x hx

section
variable {P : Program} (w : World)

/-- append(v, s...) where v is a row of the call's own. -/
theorem run_app (base : Nat) (t ty e : TypeId) (i : TypeInfo) (z : Value) (size bytes : Nat) (ht : P.underlying t = some (.slice e)) (hi : P.info? e = some i) (hz : i.zero = some z)
    (hsize : i.size = size) (hby : i.bytes = bytes) (hzs : z.cells.size = size) (hsz : 0 < size) (v : Value) (n : Nat) (xs : List Value) (hown : w.ownsRow base e size v n xs)
    (A : Option Addr) (m c : Nat) (news : List Value) (hl : news.length = m * size) (hr : CellsAt w A news) (h1 : ∀ u ∈ news, u.oneCell' = true)
    (h63 : n + m ≤ maxLen) (hbytes : (n + m) * bytes ≤ 140737488355328) (hbase : base ≤ w.heap.size) :
    ∃ v' w', (Builtin.append_ #[t, t] ty #[v, .slice A m c]).run P w = .ok v' w' ∧ w'.ownsRow base e size v' (n + m) (xs ++ news) ∧ w.grownBy w' v.ownBlock ∧ (v'.ownBlock = v.ownBlock ∨ v'.ownBlock = some w.heap.size) := by
  cases A with
  | none =>
    have hn : news = [] := by
      cases news with
      | nil => rfl
      | cons u r => obtain ⟨b, o, e, _⟩ := hr 0 u rfl; cases e
    subst hn
    have hm : m = 0 := by
      rcases Nat.eq_zero_or_pos m with h0 | h0
      · exact h0
      · have := Nat.mul_pos h0 hsz; simp at hl; omega
    subst hm
    refine ⟨v, w, ?_, by simpa using hown, ⟨rfl, rfl, rfl, Nat.le_refl _, fun _ _ _ => rfl⟩, .inl rfl⟩
    rcases hown.2 with ⟨rfl, rfl⟩ | ⟨g, cap, cur, rfl, _, _, hnc, _⟩
    · simp [Builtin.append_, run_underlying ht, sizeOf, typeInfo, hi, Builtin.lenOf, Builtin.firstCells]
    · simp [Builtin.append_, run_underlying ht, sizeOf, typeInfo, hi, Builtin.lenOf, Builtin.firstCells, hnc, storeCells]
  | some ad =>
    obtain ⟨v', w', r1, r2, r3, _, r5⟩ := run_append_own_at (P := P) w base t ty e i z size bytes ht hi hz hsize hby hzs hsz v n xs hown ad m c news hl (fun j u hu => by
      obtain ⟨b, o, e, hc⟩ := hr j u hu
      have := Option.some.inj e
      subst this
      have e2 : (⟨b, o, none⟩ : Addr).add j = ⟨b, o + j, none⟩ := by unfold Addr.add; by_cases h : j = 0 <;> simp [h]
      rw [e2]; exact hc) h1 h63 hbytes hbase
    exact ⟨v', w', r1, r2, r3, r5⟩

theorem wp_app {o : Oper} {a : Act} {K : Act → World → Prop} {Q : Exit → Act → World → Prop} (s x : Operand) (t : TypeId)
    (ho : o.op = .call { callee := .builtin .append, args := #[s, x], argTypes := #[t, t] })
    (base : Nat) (e : TypeId) (i : TypeInfo) (z : Value) (size bytes : Nat) (ht : P.underlying t = some (.slice e)) (hi : P.info? e = some i) (hz : i.zero = some z)
    (hsize : i.size = size) (hby : i.bytes = bytes) (hzs : z.cells.size = size) (hsz : 0 < size) (v : Value) (n : Nat) (xs : List Value) (hs : a.eval s = v) (hown : w.ownsRow base e size v n xs)
    (A : Option Addr) (m c : Nat) (news : List Value) (hx : a.eval x = .slice A m c) (hl : news.length = m * size) (hr : CellsAt w A news) (h1 : ∀ u ∈ news, u.oneCell' = true)
    (h63 : n + m ≤ maxLen) (hbytes : (n + m) * bytes ≤ 140737488355328) (hbase : base ≤ w.heap.size)
    (h : ∀ v' w', w'.ownsRow base e size v' (n + m) (xs ++ news) → w.grownBy w' v.ownBlock → (v'.ownBlock = v.ownBlock ∨ v'.ownBlock = some w.heap.size) → K (a.put o.dst v') w') : o.wp P a w K Q := by
  obtain ⟨v', w', hrun, h2, h3, h4⟩ := run_app (P := P) w base t o.type e i z size bytes ht hi hz hsize hby hzs hsz v n xs hown A m c news hl hr h1 h63 hbytes hbase
  unfold Oper.wp execOp
  simp only [ho, resolve, invoke, builtin, Sem.run_bind, Sem.run_pure, Result.andThen_ok, List.map_toArray, List.map_cons, List.map_nil, hs, hx, hrun]
  exact h v' w' h2 h3 h4

theorem wpList_app {ops : Array Oper} {rest : List Oper} {o : Oper} {a : Act} {Q : Exit → Act → World → Prop} (hgd : o.guard = none) (s x : Operand) (t : TypeId)
    (ho : o.op = .call { callee := .builtin .append, args := #[s, x], argTypes := #[t, t] })
    (base : Nat) (e : TypeId) (i : TypeInfo) (z : Value) (size bytes : Nat) (ht : P.underlying t = some (.slice e)) (hi : P.info? e = some i) (hz : i.zero = some z)
    (hsize : i.size = size) (hby : i.bytes = bytes) (hzs : z.cells.size = size) (hsz : 0 < size) (v : Value) (n : Nat) (xs : List Value) (hs : a.eval s = v) (hown : w.ownsRow base e size v n xs)
    (A : Option Addr) (m c : Nat) (news : List Value) (hx : a.eval x = .slice A m c) (hl : news.length = m * size) (hr : CellsAt w A news) (h1 : ∀ u ∈ news, u.oneCell' = true)
    (h63 : n + m ≤ maxLen) (hbytes : (n + m) * bytes ≤ 140737488355328) (hbase : base ≤ w.heap.size)
    (h : ∀ v' w', w'.ownsRow base e size v' (n + m) (xs ++ news) → w.grownBy w' v.ownBlock → (v'.ownBlock = v.ownBlock ∨ v'.ownBlock = some w.heap.size) → wpList P ops Q rest (a.put o.dst v') w') : wpList P ops Q (o :: rest) a w :=
  wpList_plain hgd fun _ hK => wp_app w s x t ho base e i z size bytes ht hi hz hsize hby hzs hsz v n xs hs hown A m c news hx hl hr h1 h63 hbytes hbase fun v' w' h2 h3 h4 => hK _ _ (h v' w' h2 h3 h4)

theorem step_app {ops : Array Oper} {o : Oper} {a : Act} {K : Act → World → Prop} {Q : Exit → Act → World → Prop} {E : Prop} (hgd : o.guard = none) (s x : Operand) (t : TypeId)
    (ho : o.op = .call { callee := .builtin .append, args := #[s, x], argTypes := #[t, t] })
    (base : Nat) (e : TypeId) (i : TypeInfo) (z : Value) (size bytes : Nat) (ht : P.underlying t = some (.slice e)) (hi : P.info? e = some i) (hz : i.zero = some z)
    (hsize : i.size = size) (hby : i.bytes = bytes) (hzs : z.cells.size = size) (hsz : 0 < size) (v : Value) (n : Nat) (xs : List Value) (hs : a.eval s = v) (hown : w.ownsRow base e size v n xs)
    (A : Option Addr) (m c : Nat) (news : List Value) (hx : a.eval x = .slice A m c) (hl : news.length = m * size) (hr : CellsAt w A news) (h1 : ∀ u ∈ news, u.oneCell' = true)
    (h63 : n + m ≤ maxLen) (hbytes : (n + m) * bytes ≤ 140737488355328) (hbase : base ≤ w.heap.size)
    (h : ∀ v' w', w'.ownsRow base e size v' (n + m) (xs ++ news) → w.grownBy w' v.ownBlock → (v'.ownBlock = v.ownBlock ∨ v'.ownBlock = some w.heap.size) → K (a.put o.dst v') w') :
    if Region.wanted o (yielded ops a.tmps) = true then Oper.wp P o a w K Q else E := by
  have hw : Region.wanted o (yielded ops a.tmps) = true := by simp [Region.wanted, hgd]
  rw [if_pos hw]
  exact wp_app w s x t ho base e i z size bytes ht hi hz hsize hby hzs hsz v n xs hs hown A m c news hx hl hr h1 h63 hbytes hbase h
end

theorem NdB.grown {w w' : World} {b : Nat} {x : Nd} {A : Option Addr} {cap : Nat} {row : Option Nat} (h : NdB w b x A cap) (hg : w.grownBy w' row) (hne : some b ≠ row) (hk : NdsAt w' A x.kids) : NdB w' b x A cap :=
  ⟨grown_cell hg h.b0 hne, grown_cell hg h.b1 hne, grown_cell hg h.b2 hne, grown_cell hg h.b3 hne, hk⟩
theorem ints_one (l : List Int) : ∀ u : Value, u ∈ l.map (Value.int .i64) → u.oneCell' = true := by
  intro u hu
  obtain ⟨x, _, rfl⟩ := List.mem_map.1 hu
  rfl
theorem own_below {w w' : World} {base : Nat} {e : TypeId} {size n : Nat} {v : Value} {xs : List Value} (h : w.ownsRow base e size v n xs) (hb : Below w.heap.size w w') : w'.ownsRow base e size v n xs :=
  h.kept (row := none) (grown_of_below hb none) (by cases v.ownBlock <;> simp)

/-- What the reference's loop knows. -/
structure RcI (w wr : World) (x : Nd) (Ak : Option Addr) (ck : Nat) (v : Value) (acc : List Int) : Prop where
  hb : Below w.heap.size w wr
  bx : NdB wr w.heap.size x Ak ck
  own : wr.ownsRow (w.heap.size + 1) 3 1 v acc.length (acc.map (Value.int .i64))
theorem RcI.below {w wr w' : World} {x : Nd} {Ak : Option Addr} {ck : Nat} {v : Value} {acc : List Int} (h : RcI w wr x Ak ck v acc) (hb : Below wr.heap.size wr w') : RcI w w' x Ak ck v acc :=
  ⟨below_step h.hb h.hb.size hb, h.bx.mono hb, own_below h.own hb⟩
theorem RcI.push {w wr w' : World} {x : Nd} {Ak : Option Addr} {ck : Nat} {v v' : Value} {acc more : List Int} (h : RcI w wr x Ak ck v acc) (hK : NdsAt w Ak x.kids) (hg : wr.grownBy w' v.ownBlock)
    (hown : w'.ownsRow (w.heap.size + 1) 3 1 v' (acc.length + more.length) (acc.map (Value.int .i64) ++ more.map (Value.int .i64))) : RcI w w' x Ak ck v' (acc ++ more) := by
  have hb2 : Below w.heap.size w w' := h.hb.grown hg h.hb.size (fun k hk => by have := (h.own.lt k hk).1; omega)
  refine ⟨hb2, h.bx.grown hg (fun e => by have := (h.own.lt _ e.symm).1; omega) (hK.mono hb2), ?_⟩
  rw [List.map_append, List.length_append]; exact hown

set_option maxRecDepth 100000 in
set_option maxHeartbeats 2000000 in
theorem rcalls_any (lib : List Fn1) (A : Option Addr) (cap : Nat) (hF : LibFit lib) (N : Nat) : ∀ (x : Nd), SizeOf.sizeOf x ≤ N → NdFit x → ∀ (Ak : Option Addr) (ck : Nat) (w : World), LibAt w A lib → NdsAt w Ak x.kids → sizeT x ≤ 1000000 →
    Calls Try.prog 22 #[.slice A lib.length cap, .agg #[.int .u8 x.kind, .int .i64 x.num, .string x.name, .slice Ak x.kids.length ck]] w (RetInts (callsT lib x) w) := by
  induction N with
  | zero => intro x hx; exfalso; cases x; simp at hx
  | succ N ih =>
    intro x hx hfit Ak ck w hL hK hn
    obtain ⟨hf1, hf2, hf3, hf4⟩ := hfit.facts
    have hse := sizeT_eq x
    have hl := hF.1
    have hbW := below_box w (Obj.cells #[.int .u8 x.kind, .int .i64 x.num, .string x.name, .slice Ak x.kids.length ck] 32)
    have bx := ndB_box w 32 x Ak ck hK
    have HE := Lib.hid (callsT_eq lib x)
    obtain ⟨i0, hi0, hz0, hz1, hz2⟩ := info_parts info_int
    have HI := Lib.hid (And.intro hi0 (And.intro hz0 (And.intro hz1 hz2)))
    have HL := Lib.hid hL
    have HK := Lib.hid hK
    clear hi0 hz0 hz1 hz2 hL hK
    go_enter Try.func22, Try.ntmps22
    go_wp2_with fail
    generalize w.alloc _ = W at hbW bx ⊢
    refine (rfind_any lib A cap x.name W (HL.out.mono hbW) hl).mono ?_
    rintro e W ⟨rfl, rfl⟩
    have hR0 := Lib.hid (show RcI w W x Ak ck (.slice none 0 0) [] from ⟨hbW, bx, ⟨rfl, .inl ⟨rfl, rfl⟩⟩⟩)
    obtain ⟨b0, b1, b2, b3, _⟩ := id bx
    have hsz1 : w.heap.size < W.heap.size := bx.lt
    clear hbW bx
    by_cases h85 : x.kind = 85
    · have k85 : ((x.kind : Int) == 85) = true := by rw [h85]; rfl
      by_cases hfd : 0 ≤ findF lib x.name 0
      · have hEE := Lib.hid (show callsT lib x = [findF lib x.name 0] ++ callsTL lib x.kids by rw [HE.out, if_pos ⟨h85, hfd⟩])
        generalize findF lib x.name 0 = fi at *
        clear HE h85
        go_wp2_with (at_builtin; go_loud (refine wpList_append_own _ rfl _ _ 43 rfl (w.heap.size + 1) 3 i0 (.int .i64 0) 1 8 Try.underlying43 HI.out.1 HI.out.2.1 HI.out.2.2.1 HI.out.2.2.2 rfl (by decide) (.slice none 0 0) 0 [] rfl (hR0.out.own.alloc _) ⟨W.heap.size, 0, none⟩ 1 1 [.int .i64 fi] rfl rfl (one_newB rfl _ _) (one_i64 _) (by unfold maxLen; omega) (by omega) (by simp; omega) ?_; intro v' w6 hown' hgrow _; obtain ⟨A6, c6, rfl, _, _⟩ := own_formB hown'; have hR := Lib.hid ((hR0.out.below (below_box W _)).push (more := [fi]) HK.out hgrow hown')))
        generalize hacc : [] ++ [fi] = acc0 at hR
        obtain rfl : [fi] = acc0 := hacc
        go_loopw [5, 7] (fun v i wr => ∃ (k : Nat), k ≤ x.kids.length ∧ i = .int .i64 k ∧ Hid (RcI w wr x Ak ck v ([fi] ++ callsTL lib (x.kids.take k)))) (fun _ i _ => x.kids.length - (intOf i).toNat)
        case atStart => exact ⟨0, by omega, rfl, by simpa [callsTL] using hR⟩
        case round =>
          obtain ⟨k, hk, rfl, hRk⟩ := hrel
          clear b0 b1 b2 b3
          obtain ⟨b0, b1, b2, b3, _⟩ := hRk.out.bx
          by_cases hin : k < x.kids.length
          · have hst := sizeTL_step hin
            have hct := callsTL_step (lib := lib) hin
            have hsl := sizeTL_le (l := x.kids) (k + 1)
            have hcl := callsTL_le lib (x.kids.take k)
            obtain ⟨b, o, A', cap', rfl, hlt, c0, c1, c2, c3, hK0⟩ := (HK.out.mono hRk.out.hb).kid hin
            have hget : x.kids[k]? = some x.kids[k] := List.getElem?_eq_getElem hin
            have hfy := hfit.kid hget
            have hszy := Nd.kid_lt hget
            generalize x.kids[k] = y at *
            have HCT := Lib.hid (show [fi] ++ callsTL lib (x.kids.take (k + 1)) = ([fi] ++ callsTL lib (x.kids.take k)) ++ callsT lib y by rw [hct, List.append_assoc])
            have hcy := callsT_le lib y
            have hlen : ([fi] ++ callsTL lib (x.kids.take k)).length ≤ 1 + sizeTL (x.kids.take k) := by rw [List.length_append]; simp at *; omega
            have HIH := Lib.hid (ih y (by omega) hfy A' cap' wr (HL.out.mono hRk.out.hb) hK0 (by omega))
            have hgeW := hRk.out.hb.size
            clear hget hct hcl
            generalize [fi] ++ callsTL lib (x.kids.take k) = acc at *
            go_wp2_with fail
            refine HIH.out.mono ?_
            rintro e w5 ⟨A5, c5, rfl, hI5, hb5⟩
            have hR5 := Lib.hid (hRk.out.below hb5)
            have hgt5 := hR5.out.bx.lt
            clear HIH hb5 b0 b1 b2 b3 c0 c1 c2 c3
            go_wp2_with (at_builtin; go_loud (refine wpList_app _ rfl _ _ 43 rfl (w.heap.size + 1) 3 i0 (.int .i64 0) 1 8 Try.underlying43 HI.out.1 HI.out.2.1 HI.out.2.2.1 HI.out.2.2.2 rfl (by decide) u5 acc.length _ rfl hR5.out.own A5 (callsT lib y).length c5 ((callsT lib y).map (Value.int .i64)) rfl (by simp) hI5.cells (ints_one _) (by unfold maxLen; omega) (by omega) (by omega) ?_; intro v' w6 hown' hgrow _; have hR6 := Lib.hid (hR5.out.push (more := callsT lib y) HK.out hgrow hown')))
            exact ⟨⟨k + 1, by omega, by go_num, Lib.hid (by rw [HCT.out]; exact hR6.out)⟩, by simp [intOf]; omega⟩
          · obtain rfl : k = x.kids.length := by omega
            rw [List.take_length, ← hEE.out] at hRk
            obtain ⟨A9, c9, rfl, hI9⟩ := ints_of_own hRk.out.own
            go_wp2_with fail
            go_ret
            exact ⟨A9, c9, rfl, hI9, hRk.out.hb⟩
      · have hEE := Lib.hid (show callsT lib x = [] ++ callsTL lib x.kids by rw [HE.out, if_neg (fun h => hfd h.2)])
        generalize findF lib x.name 0 = fi at *
        have hR := hR0
        clear HE h85
        go_wp2_with fail
        go_loopw [5, 7] (fun v i wr => ∃ (k : Nat), k ≤ x.kids.length ∧ i = .int .i64 k ∧ Hid (RcI w wr x Ak ck v (([] : List Int) ++ callsTL lib (x.kids.take k)))) (fun _ i _ => x.kids.length - (intOf i).toNat)
        case atStart => exact ⟨0, by omega, rfl, by simpa [callsTL] using hR⟩
        case round =>
          obtain ⟨k, hk, rfl, hRk⟩ := hrel
          clear b0 b1 b2 b3
          obtain ⟨b0, b1, b2, b3, _⟩ := hRk.out.bx
          by_cases hin : k < x.kids.length
          · have hst := sizeTL_step hin
            have hct := callsTL_step (lib := lib) hin
            have hsl := sizeTL_le (l := x.kids) (k + 1)
            have hcl := callsTL_le lib (x.kids.take k)
            obtain ⟨b, o, A', cap', rfl, hlt, c0, c1, c2, c3, hK0⟩ := (HK.out.mono hRk.out.hb).kid hin
            have hget : x.kids[k]? = some x.kids[k] := List.getElem?_eq_getElem hin
            have hfy := hfit.kid hget
            have hszy := Nd.kid_lt hget
            generalize x.kids[k] = y at *
            have HCT := Lib.hid (show ([] : List Int) ++ callsTL lib (x.kids.take (k + 1)) = (([] : List Int) ++ callsTL lib (x.kids.take k)) ++ callsT lib y by rw [hct, List.append_assoc])
            have hcy := callsT_le lib y
            have hlen : (([] : List Int) ++ callsTL lib (x.kids.take k)).length ≤ 1 + sizeTL (x.kids.take k) := by rw [List.length_append]; simp at *; omega
            have HIH := Lib.hid (ih y (by omega) hfy A' cap' wr (HL.out.mono hRk.out.hb) hK0 (by omega))
            have hgeW := hRk.out.hb.size
            clear hget hct hcl
            generalize ([] : List Int) ++ callsTL lib (x.kids.take k) = acc at *
            go_wp2_with fail
            refine HIH.out.mono ?_
            rintro e w5 ⟨A5, c5, rfl, hI5, hb5⟩
            have hR5 := Lib.hid (hRk.out.below hb5)
            have hgt5 := hR5.out.bx.lt
            clear HIH hb5 b0 b1 b2 b3 c0 c1 c2 c3
            go_wp2_with (at_builtin; go_loud (refine wpList_app _ rfl _ _ 43 rfl (w.heap.size + 1) 3 i0 (.int .i64 0) 1 8 Try.underlying43 HI.out.1 HI.out.2.1 HI.out.2.2.1 HI.out.2.2.2 rfl (by decide) u5 acc.length _ rfl hR5.out.own A5 (callsT lib y).length c5 ((callsT lib y).map (Value.int .i64)) rfl (by simp) hI5.cells (ints_one _) (by unfold maxLen; omega) (by omega) (by omega) ?_; intro v' w6 hown' hgrow _; have hR6 := Lib.hid (hR5.out.push (more := callsT lib y) HK.out hgrow hown')))
            exact ⟨⟨k + 1, by omega, by go_num, Lib.hid (by rw [HCT.out]; exact hR6.out)⟩, by simp [intOf]; omega⟩
          · obtain rfl : k = x.kids.length := by omega
            rw [List.take_length, ← hEE.out] at hRk
            obtain ⟨A9, c9, rfl, hI9⟩ := ints_of_own hRk.out.own
            go_wp2_with fail
            go_ret
            exact ⟨A9, c9, rfl, hI9, hRk.out.hb⟩
    · have hEE := Lib.hid (show callsT lib x = [] ++ callsTL lib x.kids by rw [HE.out, if_neg (fun h => h85 h.1)])
      have k85 : ((x.kind : Int) == 85) = false := beqK (n := 85) h85
      generalize findF lib x.name 0 = fi at *
      have hR := hR0
      clear HE h85
      go_wp2_with fail
      go_loopw [5, 7] (fun v i wr => ∃ (k : Nat), k ≤ x.kids.length ∧ i = .int .i64 k ∧ Hid (RcI w wr x Ak ck v (([] : List Int) ++ callsTL lib (x.kids.take k)))) (fun _ i _ => x.kids.length - (intOf i).toNat)
      case atStart => exact ⟨0, by omega, rfl, by simpa [callsTL] using hR⟩
      case round =>
        obtain ⟨k, hk, rfl, hRk⟩ := hrel
        clear b0 b1 b2 b3
        obtain ⟨b0, b1, b2, b3, _⟩ := hRk.out.bx
        by_cases hin : k < x.kids.length
        · have hst := sizeTL_step hin
          have hct := callsTL_step (lib := lib) hin
          have hsl := sizeTL_le (l := x.kids) (k + 1)
          have hcl := callsTL_le lib (x.kids.take k)
          obtain ⟨b, o, A', cap', rfl, hlt, c0, c1, c2, c3, hK0⟩ := (HK.out.mono hRk.out.hb).kid hin
          have hget : x.kids[k]? = some x.kids[k] := List.getElem?_eq_getElem hin
          have hfy := hfit.kid hget
          have hszy := Nd.kid_lt hget
          generalize x.kids[k] = y at *
          have HCT := Lib.hid (show ([] : List Int) ++ callsTL lib (x.kids.take (k + 1)) = (([] : List Int) ++ callsTL lib (x.kids.take k)) ++ callsT lib y by rw [hct, List.append_assoc])
          have hcy := callsT_le lib y
          have hlen : (([] : List Int) ++ callsTL lib (x.kids.take k)).length ≤ 1 + sizeTL (x.kids.take k) := by rw [List.length_append]; simp at *; omega
          have HIH := Lib.hid (ih y (by omega) hfy A' cap' wr (HL.out.mono hRk.out.hb) hK0 (by omega))
          have hgeW := hRk.out.hb.size
          clear hget hct hcl
          generalize ([] : List Int) ++ callsTL lib (x.kids.take k) = acc at *
          go_wp2_with fail
          refine HIH.out.mono ?_
          rintro e w5 ⟨A5, c5, rfl, hI5, hb5⟩
          have hR5 := Lib.hid (hRk.out.below hb5)
          have hgt5 := hR5.out.bx.lt
          clear HIH hb5 b0 b1 b2 b3 c0 c1 c2 c3
          go_wp2_with (at_builtin; go_loud (refine wpList_app _ rfl _ _ 43 rfl (w.heap.size + 1) 3 i0 (.int .i64 0) 1 8 Try.underlying43 HI.out.1 HI.out.2.1 HI.out.2.2.1 HI.out.2.2.2 rfl (by decide) u5 acc.length _ rfl hR5.out.own A5 (callsT lib y).length c5 ((callsT lib y).map (Value.int .i64)) rfl (by simp) hI5.cells (ints_one _) (by unfold maxLen; omega) (by omega) (by omega) ?_; intro v' w6 hown' hgrow _; have hR6 := Lib.hid (hR5.out.push (more := callsT lib y) HK.out hgrow hown')))
          exact ⟨⟨k + 1, by omega, by go_num, Lib.hid (by rw [HCT.out]; exact hR6.out)⟩, by simp [intOf]; omega⟩
        · obtain rfl : k = x.kids.length := by omega
          rw [List.take_length, ← hEE.out] at hRk
          obtain ⟨A9, c9, rfl, hI9⟩ := ints_of_own hRk.out.own
          go_wp2_with fail
          go_ret
          exact ⟨A9, c9, rfl, hI9, hRk.out.hb⟩

end Go.Proofs.Ytafjkmhphakhhaa
