/-
  The walk of the law FunWraps. (Printed by gen_fun_wraps.py.)
-/
import Derived.Test.YtafjkmhphakhhaaFunAwake
import Derived.Test.YtafjkmhphakhhaaFunRow
import Derived.Test.YtafjkmhphakhhaaFunSmall
import Derived.Test.YtafjkmhphakhhaaFunLet
namespace Go.Proofs.Ytafjkmhphakhhaa
open Go.ChangeShapes Go.WideShapes Go.ChangeAt Go.RowKit Go.Sort

def grp (q : Nd × Option Addr × Nat) : List Value := [.int .u8 q.1.kind, .int .i64 q.1.num, .string q.1.name, .slice q.2.1 q.1.kids.length q.2.2]
theorem grp_get : ∀ (l : List (Nd × Option Addr × Nat)) (k : Nat) (q : Nd × Option Addr × Nat), l[k]? = some q → ∀ j, j < 4 → (l.flatMap grp)[k * 4 + j]? = (grp q)[j]?
  | [], k, q, h => by simp at h
  | p :: r, 0, q, h => fun j hj => by
    simp at h; subst h
    rw [List.flatMap_cons, List.getElem?_append_left (by simp [grp]; omega)]; simp
  | p :: r, k + 1, q, h => fun j hj => by
    rw [List.flatMap_cons, List.getElem?_append_right (by simp [grp]; omega)]
    have := grp_get r k q (by simpa using h) j hj
    rw [← this]; congr 1; simp [grp]; omega
/-- A literal of expressions in a block of its own. -/
theorem nds_lit {w : World} {b : Nat} {T : TypeId} {cs : Array Value} (l : List (Nd × Option Addr × Nat)) (hb : w.heap[b]? = some (.cells cs T (0, 0))) (hcs : cs.toList = l.flatMap grp) (hk : ∀ q ∈ l, NdsAt w q.2.1 q.1.kids) : NdsAt w (some ⟨b, 0, none⟩) (l.map (·.1)) := fun k y hy => by
  rw [List.getElem?_map] at hy
  obtain ⟨q, hq, rfl⟩ := Option.map_eq_some_iff.1 hy
  refine ⟨b, 0, rfl, ?_⟩
  have hc : ∀ j, j < 4 → w.cell? ⟨b, 0 + k * 4 + j, none⟩ = (grp q)[j]? := fun j hj => by
    have := grp_get l k q hq j hj
    rw [← hcs, Array.getElem?_toList] at this
    simp [World.cell?, hb, this]
  have e0 := hc 0 (by omega)
  have e1 := hc 1 (by omega)
  have e2 := hc 2 (by omega)
  have e3 := hc 3 (by omega)
  simp [grp] at e0 e1 e2 e3
  exact nd_of_cells (by simpa using e0) (by simpa using e1) (by simpa using e2) (by simpa using e3) (hk q (List.mem_of_getElem? hq))
def allocs (w : World) (os : List Obj) : World := os.foldl World.alloc w
theorem allocs_size : ∀ (os : List Obj) (w : World), (allocs w os).heap.size = w.heap.size + os.length
  | [], _ => rfl
  | o :: r, w => by
    show (allocs (w.alloc o) r).heap.size = _
    rw [allocs_size r (w.alloc o)]; simp; omega
theorem allocs_below : ∀ (os : List Obj) (w : World), Below w.heap.size w (allocs w os)
  | [], _ => Below.refl _ _
  | o :: r, w => below_step (below_box w o) (below_box w o).size (allocs_below r (w.alloc o))
theorem allocs_get : ∀ (os : List Obj) (w : World) (i : Nat) (o : Obj), os[i]? = some o → (allocs w os).heap[w.heap.size + i]? = some o
  | [], w, i, o, h => by simp at h
  | p :: r, w, 0, o, h => by
    simp at h; subst h
    show (allocs (w.alloc p) r).heap[w.heap.size + 0]? = _
    rw [(allocs_below r (w.alloc p)).block _ (by simp)]
    exact heap_alloc_new w p
  | p :: r, w, i + 1, o, h => by
    show (allocs (w.alloc p) r).heap[w.heap.size + (i + 1)]? = _
    have := allocs_get r (w.alloc p) i o (by simpa using h)
    rw [← this]; congr 1; simp; omega

/-- The six cells of a wrapped expression. -/
def WrC (w : World) (b o : Nat) (it : Wr) : Prop := ∃ A c, w.cell? ⟨b, o, none⟩ = some (.int .u8 it.x.kind) ∧ w.cell? ⟨b, o + 1, none⟩ = some (.int .i64 it.x.num) ∧ w.cell? ⟨b, o + 2, none⟩ = some (.string it.x.name) ∧ w.cell? ⟨b, o + 3, none⟩ = some (.slice A it.x.kids.length c) ∧ w.cell? ⟨b, o + 4, none⟩ = some (.bool it.list) ∧ w.cell? ⟨b, o + 5, none⟩ = some (.bool it.ok) ∧ NdsAt w A it.x.kids
theorem WrC.mono {w w' : World} {b o : Nat} {it : Wr} (h : WrC w b o it) (hb : Below w.heap.size w w') : WrC w' b o it := by
  obtain ⟨A, c, h0, h1, h2, h3, h4, h5, h6⟩ := h
  exact ⟨A, c, below_cell hb h0, below_cell hb h1, below_cell hb h2, below_cell hb h3, below_cell hb h4, below_cell hb h5, h6.mono hb⟩
theorem nds_nil (w : World) : NdsAt w none [] := fun k x hk => by simp at hk

def wrObjs (w : World) (x : Nd) (Ak : Option Addr) (ck : Nat) (t : Bool) : List Obj := [Obj.cells #[.int .u8 80, .int .i64 3, .string ⟨#[]⟩, .slice none 0 0] 32, Obj.cells #[.int .u8 86, .int .i64 0, .string ⟨#[]⟩, .slice none 0 0] 32, Obj.cells #[.int .u8 x.kind, .int .i64 x.num, .string x.name, .slice Ak x.kids.length ck] 32, Obj.cells #[.int .u8 x.kind, .int .i64 x.num, .string x.name, .slice Ak x.kids.length ck] 32, Obj.cells #[.int .u8 x.kind, .int .i64 x.num, .string x.name, .slice Ak x.kids.length ck] 32, Obj.cells #[.int .u8 x.kind, .int .i64 x.num, .string x.name, .slice Ak x.kids.length ck, .int .u8 86, .int .i64 0, .string ⟨#[]⟩, .slice none 0 0] 32, Obj.cells #[.int .u8 80, .int .i64 3, .string ⟨#[]⟩, .slice none 0 0, .int .u8 x.kind, .int .i64 x.num, .string x.name, .slice Ak x.kids.length ck] 32, Obj.cells #[.int .u8 80, .int .i64 3, .string ⟨#[]⟩, .slice none 0 0, .int .u8 x.kind, .int .i64 x.num, .string x.name, .slice Ak x.kids.length ck] 32, Obj.cells #[.int .u8 80, .int .i64 3, .string ⟨#[]⟩, .slice none 0 0, .int .u8 x.kind, .int .i64 x.num, .string x.name, .slice Ak x.kids.length ck, .int .u8 x.kind, .int .i64 x.num, .string x.name, .slice Ak x.kids.length ck] 32, Obj.cells #[.int .u8 x.kind, .int .i64 x.num, .string x.name, .slice Ak x.kids.length ck, .int .u8 80, .int .i64 3, .string ⟨#[]⟩, .slice none 0 0, .int .u8 80, .int .i64 3, .string ⟨#[]⟩, .slice none 0 0] 32, Obj.cells #[.int .u8 80, .int .i64 3, .string ⟨#[]⟩, .slice none 0 0, .int .u8 x.kind, .int .i64 x.num, .string x.name, .slice Ak x.kids.length ck, .int .u8 80, .int .i64 3, .string ⟨#[]⟩, .slice none 0 0] 32, Obj.cells #[.int .u8 80, .int .i64 3, .string ⟨#[]⟩, .slice none 0 0, .int .u8 x.kind, .int .i64 x.num, .string x.name, .slice Ak x.kids.length ck] 32, Obj.cells #[.int .u8 x.kind, .int .i64 x.num, .string x.name, .slice Ak x.kids.length ck, .int .u8 81, .int .i64 0, .string ⟨#[122, 122, 122, 122]⟩, .slice none 0 0] 32, Obj.cells #[.int .u8 88, .int .i64 0, .string ⟨#[]⟩, .slice (some ⟨w.heap.size + 1 + 1, 0, none⟩) 1 1, .bool false, .bool t, .int .u8 89, .int .i64 0, .string ⟨#[]⟩, .slice (some ⟨w.heap.size + 1 + 1 + 1, 0, none⟩) 1 1, .bool true, .bool t, .int .u8 90, .int .i64 0, .string ⟨#[]⟩, .slice (some ⟨w.heap.size + 1 + 1 + 1 + 1, 0, none⟩) 1 1, .bool false, .bool t, .int .u8 87, .int .i64 0, .string ⟨#[]⟩, .slice (some ⟨w.heap.size + 1 + 1 + 1 + 1 + 1, 0, none⟩) 2 2, .bool true, .bool (!t), .int .u8 87, .int .i64 0, .string ⟨#[]⟩, .slice (some ⟨w.heap.size + 1 + 1 + 1 + 1 + 1 + 1, 0, none⟩) 2 2, .bool true, .bool t, .int .u8 82, .int .i64 10, .string ⟨#[]⟩, .slice (some ⟨w.heap.size + 1 + 1 + 1 + 1 + 1 + 1 + 1, 0, none⟩) 2 2, .bool false, .bool (!t), .int .u8 83, .int .i64 0, .string ⟨#[]⟩, .slice (some ⟨w.heap.size + 1 + 1 + 1 + 1 + 1 + 1 + 1 + 1, 0, none⟩) 3 3, .bool t, .bool true, .int .u8 83, .int .i64 0, .string ⟨#[]⟩, .slice (some ⟨w.heap.size + 1 + 1 + 1 + 1 + 1 + 1 + 1 + 1 + 1, 0, none⟩) 3 3, .bool false, .bool (!t), .int .u8 83, .int .i64 0, .string ⟨#[]⟩, .slice (some ⟨w.heap.size + 1 + 1 + 1 + 1 + 1 + 1 + 1 + 1 + 1 + 1, 0, none⟩) 3 3, .bool false, .bool (!t), .int .u8 84, .int .i64 0, .string ⟨#[122, 122, 122, 122]⟩, .slice (some ⟨w.heap.size + 1 + 1 + 1 + 1 + 1 + 1 + 1 + 1 + 1 + 1 + 1, 0, none⟩) 2 2, .bool t, .bool true, .int .u8 84, .int .i64 0, .string ⟨#[122, 122, 122, 122]⟩, .slice (some ⟨w.heap.size + 1 + 1 + 1 + 1 + 1 + 1 + 1 + 1 + 1 + 1 + 1 + 1, 0, none⟩) 2 2, .bool t, .bool true] 49]

set_option maxRecDepth 100000 in
theorem wraps_at (w : World) (x : Nd) (Ak : Option Addr) (ck : Nat) (t : Bool) (hK : NdsAt w Ak x.kids) : ∀ (k : Nat) (it : Wr), (wraps x t)[k]? = some it → WrC (allocs w (wrObjs w x Ak ck t)) (w.heap.size + 13) (k * 6) it := by
  have hK2 := hK.mono (allocs_below (wrObjs w x Ak ck t) w)
  have hn : NdsAt (allocs w (wrObjs w x Ak ck t)) none [] := nds_nil _
  have k0 : NdsAt (allocs w (wrObjs w x Ak ck t)) (some ⟨w.heap.size + 2, 0, none⟩) [x] := nds_lit [(x, Ak, ck)] (allocs_get (wrObjs w x Ak ck t) w 2 _ rfl) rfl (fun q hq => by
    simp only [List.mem_cons, List.not_mem_nil, or_false] at hq
    rcases hq with rfl
    · exact hK2)
  have k1 : NdsAt (allocs w (wrObjs w x Ak ck t)) (some ⟨w.heap.size + 3, 0, none⟩) [x] := nds_lit [(x, Ak, ck)] (allocs_get (wrObjs w x Ak ck t) w 3 _ rfl) rfl (fun q hq => by
    simp only [List.mem_cons, List.not_mem_nil, or_false] at hq
    rcases hq with rfl
    · exact hK2)
  have k2 : NdsAt (allocs w (wrObjs w x Ak ck t)) (some ⟨w.heap.size + 4, 0, none⟩) [x] := nds_lit [(x, Ak, ck)] (allocs_get (wrObjs w x Ak ck t) w 4 _ rfl) rfl (fun q hq => by
    simp only [List.mem_cons, List.not_mem_nil, or_false] at hq
    rcases hq with rfl
    · exact hK2)
  have k3 : NdsAt (allocs w (wrObjs w x Ak ck t)) (some ⟨w.heap.size + 5, 0, none⟩) [x, nilN] := nds_lit [(x, Ak, ck), (nilN, none, 0)] (allocs_get (wrObjs w x Ak ck t) w 5 _ rfl) rfl (fun q hq => by
    simp only [List.mem_cons, List.not_mem_nil, or_false] at hq
    rcases hq with rfl | rfl
    · exact hK2
    · exact hn)
  have k4 : NdsAt (allocs w (wrObjs w x Ak ck t)) (some ⟨w.heap.size + 6, 0, none⟩) [numN, x] := nds_lit [(numN, none, 0), (x, Ak, ck)] (allocs_get (wrObjs w x Ak ck t) w 6 _ rfl) rfl (fun q hq => by
    simp only [List.mem_cons, List.not_mem_nil, or_false] at hq
    rcases hq with rfl | rfl
    · exact hn
    · exact hK2)
  have k5 : NdsAt (allocs w (wrObjs w x Ak ck t)) (some ⟨w.heap.size + 7, 0, none⟩) [numN, x] := nds_lit [(numN, none, 0), (x, Ak, ck)] (allocs_get (wrObjs w x Ak ck t) w 7 _ rfl) rfl (fun q hq => by
    simp only [List.mem_cons, List.not_mem_nil, or_false] at hq
    rcases hq with rfl | rfl
    · exact hn
    · exact hK2)
  have k6 : NdsAt (allocs w (wrObjs w x Ak ck t)) (some ⟨w.heap.size + 8, 0, none⟩) [numN, x, x] := nds_lit [(numN, none, 0), (x, Ak, ck), (x, Ak, ck)] (allocs_get (wrObjs w x Ak ck t) w 8 _ rfl) rfl (fun q hq => by
    simp only [List.mem_cons, List.not_mem_nil, or_false] at hq
    rcases hq with rfl | rfl | rfl
    · exact hn
    · exact hK2
    · exact hK2)
  have k7 : NdsAt (allocs w (wrObjs w x Ak ck t)) (some ⟨w.heap.size + 9, 0, none⟩) [x, numN, numN] := nds_lit [(x, Ak, ck), (numN, none, 0), (numN, none, 0)] (allocs_get (wrObjs w x Ak ck t) w 9 _ rfl) rfl (fun q hq => by
    simp only [List.mem_cons, List.not_mem_nil, or_false] at hq
    rcases hq with rfl | rfl | rfl
    · exact hK2
    · exact hn
    · exact hn)
  have k8 : NdsAt (allocs w (wrObjs w x Ak ck t)) (some ⟨w.heap.size + 10, 0, none⟩) [numN, x, numN] := nds_lit [(numN, none, 0), (x, Ak, ck), (numN, none, 0)] (allocs_get (wrObjs w x Ak ck t) w 10 _ rfl) rfl (fun q hq => by
    simp only [List.mem_cons, List.not_mem_nil, or_false] at hq
    rcases hq with rfl | rfl | rfl
    · exact hn
    · exact hK2
    · exact hn)
  have k9 : NdsAt (allocs w (wrObjs w x Ak ck t)) (some ⟨w.heap.size + 11, 0, none⟩) [numN, x] := nds_lit [(numN, none, 0), (x, Ak, ck)] (allocs_get (wrObjs w x Ak ck t) w 11 _ rfl) rfl (fun q hq => by
    simp only [List.mem_cons, List.not_mem_nil, or_false] at hq
    rcases hq with rfl | rfl
    · exact hn
    · exact hK2)
  have k10 : NdsAt (allocs w (wrObjs w x Ak ck t)) (some ⟨w.heap.size + 12, 0, none⟩) [x, zvN] := nds_lit [(x, Ak, ck), (zvN, none, 0)] (allocs_get (wrObjs w x Ak ck t) w 12 _ rfl) rfl (fun q hq => by
    simp only [List.mem_cons, List.not_mem_nil, or_false] at hq
    rcases hq with rfl | rfl
    · exact hK2
    · exact hn)
  have hbig := allocs_get (wrObjs w x Ak ck t) w 13 _ rfl
  have hc : ∀ (j : Nat), (allocs w (wrObjs w x Ak ck t)).cell? ⟨w.heap.size + 13, j, none⟩ = _ := fun j => by simp only [World.cell?, hbig]; rfl
  intro k it hit
  match k, hit with
  | 0, hit =>
    obtain rfl := Option.some.inj hit
    exact ⟨_, 1, (hc 0).trans rfl, (hc 1).trans rfl, (hc 2).trans rfl, (hc 3).trans rfl, (hc 4).trans rfl, (hc 5).trans rfl, k0⟩
  | 1, hit =>
    obtain rfl := Option.some.inj hit
    exact ⟨_, 1, (hc 6).trans rfl, (hc 7).trans rfl, (hc 8).trans rfl, (hc 9).trans rfl, (hc 10).trans rfl, (hc 11).trans rfl, k1⟩
  | 2, hit =>
    obtain rfl := Option.some.inj hit
    exact ⟨_, 1, (hc 12).trans rfl, (hc 13).trans rfl, (hc 14).trans rfl, (hc 15).trans rfl, (hc 16).trans rfl, (hc 17).trans rfl, k2⟩
  | 3, hit =>
    obtain rfl := Option.some.inj hit
    exact ⟨_, 2, (hc 18).trans rfl, (hc 19).trans rfl, (hc 20).trans rfl, (hc 21).trans rfl, (hc 22).trans rfl, (hc 23).trans rfl, k3⟩
  | 4, hit =>
    obtain rfl := Option.some.inj hit
    exact ⟨_, 2, (hc 24).trans rfl, (hc 25).trans rfl, (hc 26).trans rfl, (hc 27).trans rfl, (hc 28).trans rfl, (hc 29).trans rfl, k4⟩
  | 5, hit =>
    obtain rfl := Option.some.inj hit
    exact ⟨_, 2, (hc 30).trans rfl, (hc 31).trans rfl, (hc 32).trans rfl, (hc 33).trans rfl, (hc 34).trans rfl, (hc 35).trans rfl, k5⟩
  | 6, hit =>
    obtain rfl := Option.some.inj hit
    exact ⟨_, 3, (hc 36).trans rfl, (hc 37).trans rfl, (hc 38).trans rfl, (hc 39).trans rfl, (hc 40).trans rfl, (hc 41).trans rfl, k6⟩
  | 7, hit =>
    obtain rfl := Option.some.inj hit
    exact ⟨_, 3, (hc 42).trans rfl, (hc 43).trans rfl, (hc 44).trans rfl, (hc 45).trans rfl, (hc 46).trans rfl, (hc 47).trans rfl, k7⟩
  | 8, hit =>
    obtain rfl := Option.some.inj hit
    exact ⟨_, 3, (hc 48).trans rfl, (hc 49).trans rfl, (hc 50).trans rfl, (hc 51).trans rfl, (hc 52).trans rfl, (hc 53).trans rfl, k8⟩
  | 9, hit =>
    obtain rfl := Option.some.inj hit
    exact ⟨_, 2, (hc 54).trans rfl, (hc 55).trans rfl, (hc 56).trans rfl, (hc 57).trans rfl, (hc 58).trans rfl, (hc 59).trans rfl, k9⟩
  | 10, hit =>
    obtain rfl := Option.some.inj hit
    exact ⟨_, 2, (hc 60).trans rfl, (hc 61).trans rfl, (hc 62).trans rfl, (hc 63).trans rfl, (hc 64).trans rfl, (hc 65).trans rfl, k10⟩
  | k + 11, hit => simp [wraps] at hit

theorem chk_err {lib : List Fn1} (x : Nd) (env : ByteArray → Option Bool) (h : (chkT lib x env).2 ≠ 0) : (chkT lib x env).1 = false := by
  rw [chkT_eq] at *
  by_cases h1 : reachE lib env x = 0
  · rw [if_neg (fun e => e h1)] at h ⊢
    by_cases h2 : (chkTL lib x.kids env x.kind x.name 0 []).2 = 0
    · rw [if_neg (fun e => e h2)] at h ⊢
      by_cases h3 : x.kind = 81
      · rw [if_pos h3] at h; exact absurd rfl h
      · rw [if_neg h3] at h ⊢
        unfold resR resQ at *
        by_cases h4 : (chkTL lib x.kids env x.kind x.name 0 []).1 = (wantR lib x (chkTL lib x.kids env x.kind x.name 0 []).1).1
        · rw [if_pos h4] at h; exact absurd rfl h
        · rw [if_neg h4]
    · rw [if_pos h2]
  · rw [if_pos h1]
theorem type_err {lib : List Fn1} {f : Int} {x : Nd} (h : (typeR lib f x).2 ≠ 0) : (typeR lib f x).1 = false := by
  unfold typeR at *
  by_cases h1 : f < 0 ∨ (lib.length : Int) ≤ f
  · rw [if_pos h1]
  rw [if_neg h1] at h ⊢
  by_cases h2 : formT x = false
  · rw [if_pos h2]
  rw [if_neg h2] at h ⊢
  cases h3 : lib[f.toNat]? with
  | none => rfl
  | some g =>
    rw [h3] at h
    exact chk_err x _ h
theorem type_ok {lib : List Fn1} {f : Int} {x : Nd} (h : (typeR lib f x).2 = 0) : ∃ (i : Nat) (g : Fn1), f = i ∧ lib[i]? = some g ∧ formT x = true ∧ chkT lib x (envF g.params) = ((typeR lib f x).1, 0) := by
  unfold typeR at *
  by_cases h1 : f < 0 ∨ (lib.length : Int) ≤ f
  · rw [if_pos h1] at h; cases h
  rw [if_neg h1] at h ⊢
  by_cases h2 : formT x = false
  · rw [if_pos h2] at h; cases h
  rw [if_neg h2] at h ⊢
  obtain ⟨i, rfl⟩ : ∃ i : Nat, f = i := ⟨f.toNat, by omega⟩
  have hi : i < lib.length := by omega
  rw [Int.toNat_natCast, List.getElem?_eq_getElem hi] at h ⊢
  exact ⟨i, lib[i], rfl, List.getElem?_eq_getElem hi, by simpa using h2, Prod.ext rfl h⟩
theorem typeR_at {lib : List Fn1} {i : Nat} {g : Fn1} {y : Nd} (h : lib[i]? = some g) (hy : formT y = true) : typeR lib i y = chkT lib y (envF g.params) := by
  have hi := (List.getElem?_eq_some_iff.1 h).1
  unfold typeR
  rw [if_neg (by omega), if_neg (by rw [hy]; simp), Int.toNat_natCast, h]
theorem wraps_fit {n : Nd} {t : Bool} (h : NdFit n) : ∀ it ∈ wraps n t, NdFit it.x := by
  have h1 : NdFit numN := fit_none (by decide) rfl
  have h2 : NdFit nilN := fit_none (by decide) rfl
  have h3 : NdFit zvN := fit_none (by decide) rfl
  intro it hit
  simp only [wraps, List.mem_cons, List.not_mem_nil, or_false] at hit
  rcases hit with rfl | rfl | rfl | rfl | rfl | rfl | rfl | rfl | rfl | rfl | rfl
  · exact fit_one rfl rfl h
  · exact fit_one rfl rfl h
  · exact fit_one rfl rfl h
  · exact fit_two rfl rfl h h2
  · exact fit_two rfl rfl h1 h
  · exact fit_two rfl rfl h1 h
  · exact fit_three rfl rfl h1 h h
  · exact fit_three rfl rfl h h1 h1
  · exact fit_three rfl rfl h1 h h1
  · exact fit_two rfl rfl h1 h
  · exact fit_two rfl rfl h h3
theorem wraps_type {lib : List Fn1} {i : Nat} {g : Fn1} {n : Nd} {t : Bool} (hg : lib[i]? = some g) (hf : formT n = true) (hn : chkT lib n (envF g.params) = (t, 0)) (hb : (pmZ g.params || letT ⟨#[122, 122, 122, 122]⟩ n) = false) {it : Wr} (hit : it ∈ wraps n t) : typeR lib i it.x = if it.ok = true then (it.list, 0) else (false, 7) := by
  rw [Bool.or_eq_false_iff] at hb
  rw [typeR_at hg (wraps_form hf it hit)]
  exact wraps_chk hn (envF_none _ hb.1) hb.2 it hit

set_option maxRecDepth 100000 in
set_option maxHeartbeats 16000000 in
theorem funWraps_walk (lib : List Fn1) (A : Option Addr) (cap : Nat) (f : Int) (x : Nd) (Ak : Option Addr) (ck : Nat) (w : World) (hL : LibAt w A lib) (hF : LibFit lib) (hK : NdsAt w Ak x.kids) (hfit : NdFit x) :
    Calls Try.prog 7 #[.slice A lib.length cap, .int .i64 f, .agg #[.int .u8 x.kind, .int .i64 x.num, .string x.name, .slice Ak x.kids.length ck]] w fun e w' => e = .returned (.bool true) ∧ Below w.heap.size w w' := by
  have hl := hF.1
  have hbW := below_box w (Obj.cells #[.int .u8 x.kind, .int .i64 x.num, .string x.name, .slice Ak x.kids.length ck] 32)
  have bx := Lib.hid (ndB_box w 32 x Ak ck hK)
  have HL := Lib.hid hL
  clear hK hL
  go_enter Try.func7, Try.ntmps7
  go_wp2_with fail
  generalize w.alloc _ = W at hbW bx ⊢
  refine (awake_any W).mono ?_
  rintro e w1 ⟨rfl, hb1⟩
  have q1 := Lib.hid (below_step hbW hbW.size hb1)
  have bx1 := Lib.hid (bx.out.mono hb1)
  clear hbW hb1 bx
  go_wp2_with fail
  refine (great_any lib A cap w1 (HL.out.mono q1.out) hF).mono ?_
  rintro e w2 ⟨rfl, hb2⟩
  have q2 := Lib.hid (below_step q1.out q1.out.size hb2)
  have bx2 := Lib.hid (bx1.out.mono hb2)
  clear hb2 q1 bx1
  cases hg : greatB lib with
  | true =>
    go_wp2_with fail
    go_ret
    exact ⟨rfl, q2.out⟩
  | false =>
  obtain ⟨h40, hP, hN, hS⟩ := great_no hg
  clear hS hg
  obtain ⟨b0, b1, b2, b3, _⟩ := bx2.out
  go_wp2_with fail
  refine (big_any 20 x (by omega) hfit Ak ck w2 bx2.out.kids).mono ?_
  rintro e w3 ⟨rfl, hb3⟩
  have q3 := Lib.hid (below_step q2.out q2.out.size hb3)
  have bx3 := Lib.hid (bx2.out.mono hb3)
  clear hb3 q2 bx2 b0 b1 b2 b3
  obtain ⟨b0, b1, b2, b3, _⟩ := bx3.out
  by_cases hbg : bigD 20 x < 0
  · generalize bigD 20 x = bg at *
    go_wp2_with fail
    go_ret
    exact ⟨rfl, q3.out⟩
  go_wp2_with fail
  refine (big_any 20 x (by omega) hfit Ak ck w3 bx3.out.kids).mono ?_
  rintro e w4 ⟨rfl, hb4⟩
  have q4 := Lib.hid (below_step q3.out q3.out.size hb4)
  have bx4 := Lib.hid (bx3.out.mono hb4)
  clear hb4 q3 bx3 b0 b1 b2 b3
  obtain ⟨b0, b1, b2, b3, _⟩ := bx4.out
  have hsz : sizeT x = bigD 20 x := (bigD_size x 20 (by omega)).symm
  by_cases hb60 : 60 < bigD 20 x
  · generalize bigD 20 x = bg at *
    go_wp2_with fail
    go_ret
    exact ⟨rfl, q4.out⟩
  have hs60 : sizeT x ≤ 60 := by omega
  clear hsz
  generalize bigD 20 x = bg at *
  go_wp2_with fail
  refine (type_any lib A cap f x Ak ck w4 (HL.out.mono q4.out) hF hP hfit bx4.out.kids (by omega)).mono ?_
  rintro e w5 ⟨rfl, hb5⟩
  have q5 := Lib.hid (below_step q4.out q4.out.size hb5)
  have bx5 := Lib.hid (bx4.out.mono hb5)
  clear hb5 q4 bx4 b0 b1 b2 b3
  by_cases her : (typeR lib f x).2 = 0
  rotate_left
  · have ht1 : (typeR lib f x).1 = false := type_err her
    have her' : ((typeR lib f x).2 != 0) = true := by simpa using her
    rw [ht1]
    generalize (typeR lib f x).2 = te at *
    go_wp2_with fail
    go_ret
    exact ⟨rfl, q5.out⟩
  obtain ⟨i, g, rfl, hg, hform, hchk⟩ := type_ok her
  rw [her]
  obtain ⟨hi, _⟩ := List.getElem?_eq_some_iff.1 hg
  generalize (typeR lib i x).1 = t at *
  have HCK := Lib.hid hchk
  have HG := Lib.hid hg
  have HFM := Lib.hid hform
  clear hchk hg her hform
  obtain ⟨b0, b1, b2, b3, hk5⟩ := bx5.out
  have HWR := Lib.hid (wraps_at w5 x Ak ck t hk5)
  have hbA := Lib.hid (allocs_below (wrObjs w5 x Ak ck t) w5)
  have hsA := Lib.hid (allocs_size (wrObjs w5 x Ak ck t) w5)
  have hlt5 := bx5.out.lt
  clear hk5
  have l1 : w.heap.size < w5.heap.size + 1 := by omega
  have m1 : w5.heap.size < w5.heap.size + 1 := by omega
  have l2 : w.heap.size < w5.heap.size + 1 + 1 := by omega
  have m2 : w5.heap.size < w5.heap.size + 1 + 1 := by omega
  have n2 : w5.heap.size + 1 < w5.heap.size + 1 + 1 := by omega
  have l3 : w.heap.size < w5.heap.size + 1 + 1 + 1 := by omega
  have m3 : w5.heap.size < w5.heap.size + 1 + 1 + 1 := by omega
  have n3 : w5.heap.size + 1 < w5.heap.size + 1 + 1 + 1 := by omega
  have l4 : w.heap.size < w5.heap.size + 1 + 1 + 1 + 1 := by omega
  have m4 : w5.heap.size < w5.heap.size + 1 + 1 + 1 + 1 := by omega
  have n4 : w5.heap.size + 1 < w5.heap.size + 1 + 1 + 1 + 1 := by omega
  have l5 : w.heap.size < w5.heap.size + 1 + 1 + 1 + 1 + 1 := by omega
  have m5 : w5.heap.size < w5.heap.size + 1 + 1 + 1 + 1 + 1 := by omega
  have n5 : w5.heap.size + 1 < w5.heap.size + 1 + 1 + 1 + 1 + 1 := by omega
  have l6 : w.heap.size < w5.heap.size + 1 + 1 + 1 + 1 + 1 + 1 := by omega
  have m6 : w5.heap.size < w5.heap.size + 1 + 1 + 1 + 1 + 1 + 1 := by omega
  have n6 : w5.heap.size + 1 < w5.heap.size + 1 + 1 + 1 + 1 + 1 + 1 := by omega
  have l7 : w.heap.size < w5.heap.size + 1 + 1 + 1 + 1 + 1 + 1 + 1 := by omega
  have m7 : w5.heap.size < w5.heap.size + 1 + 1 + 1 + 1 + 1 + 1 + 1 := by omega
  have n7 : w5.heap.size + 1 < w5.heap.size + 1 + 1 + 1 + 1 + 1 + 1 + 1 := by omega
  have l8 : w.heap.size < w5.heap.size + 1 + 1 + 1 + 1 + 1 + 1 + 1 + 1 := by omega
  have m8 : w5.heap.size < w5.heap.size + 1 + 1 + 1 + 1 + 1 + 1 + 1 + 1 := by omega
  have n8 : w5.heap.size + 1 < w5.heap.size + 1 + 1 + 1 + 1 + 1 + 1 + 1 + 1 := by omega
  have l9 : w.heap.size < w5.heap.size + 1 + 1 + 1 + 1 + 1 + 1 + 1 + 1 + 1 := by omega
  have m9 : w5.heap.size < w5.heap.size + 1 + 1 + 1 + 1 + 1 + 1 + 1 + 1 + 1 := by omega
  have n9 : w5.heap.size + 1 < w5.heap.size + 1 + 1 + 1 + 1 + 1 + 1 + 1 + 1 + 1 := by omega
  have l10 : w.heap.size < w5.heap.size + 1 + 1 + 1 + 1 + 1 + 1 + 1 + 1 + 1 + 1 := by omega
  have m10 : w5.heap.size < w5.heap.size + 1 + 1 + 1 + 1 + 1 + 1 + 1 + 1 + 1 + 1 := by omega
  have n10 : w5.heap.size + 1 < w5.heap.size + 1 + 1 + 1 + 1 + 1 + 1 + 1 + 1 + 1 + 1 := by omega
  have l11 : w.heap.size < w5.heap.size + 1 + 1 + 1 + 1 + 1 + 1 + 1 + 1 + 1 + 1 + 1 := by omega
  have m11 : w5.heap.size < w5.heap.size + 1 + 1 + 1 + 1 + 1 + 1 + 1 + 1 + 1 + 1 + 1 := by omega
  have n11 : w5.heap.size + 1 < w5.heap.size + 1 + 1 + 1 + 1 + 1 + 1 + 1 + 1 + 1 + 1 + 1 := by omega
  have l12 : w.heap.size < w5.heap.size + 1 + 1 + 1 + 1 + 1 + 1 + 1 + 1 + 1 + 1 + 1 + 1 := by omega
  have m12 : w5.heap.size < w5.heap.size + 1 + 1 + 1 + 1 + 1 + 1 + 1 + 1 + 1 + 1 + 1 + 1 := by omega
  have n12 : w5.heap.size + 1 < w5.heap.size + 1 + 1 + 1 + 1 + 1 + 1 + 1 + 1 + 1 + 1 + 1 + 1 := by omega
  have l13 : w.heap.size < w5.heap.size + 1 + 1 + 1 + 1 + 1 + 1 + 1 + 1 + 1 + 1 + 1 + 1 + 1 := by omega
  have m13 : w5.heap.size < w5.heap.size + 1 + 1 + 1 + 1 + 1 + 1 + 1 + 1 + 1 + 1 + 1 + 1 + 1 := by omega
  have n13 : w5.heap.size + 1 < w5.heap.size + 1 + 1 + 1 + 1 + 1 + 1 + 1 + 1 + 1 + 1 + 1 + 1 + 1 := by omega
  cases t
  all_goals
    go_wp2_with fail
    generalize hW : World.alloc _ _ = W6
    first
      | (have hA : allocs w5 (wrObjs w5 x Ak ck false) = W6 := hW; rw [hA] at HWR hbA; clear hA)
      | (have hA : allocs w5 (wrObjs w5 x Ak ck true) = W6 := hW; rw [hA] at HWR hbA; clear hA)
    clear hW hsA
    rw [show w5.heap.size + 13 = w5.heap.size + 1 + 1 + 1 + 1 + 1 + 1 + 1 + 1 + 1 + 1 + 1 + 1 + 1 from rfl] at HWR
    have q6 := Lib.hid (below_step q5.out q5.out.size hbA.out)
    have bx6 := Lib.hid (bx5.out.mono hbA.out)
    clear b0 b1 b2 b3 l1 m1 l2 m2 l3 m3 l4 m4 l5 m5 l6 m6 l7 m7 l8 m8 l9 m9 l10 m10 l11 m11 l12 m12 l13 m13 n2 n3 n4 n5 n6 n7 n8 n9 n10 n11 n12 n13 bx5 hbA q5
    generalize w5.heap.size + 1 + 1 + 1 + 1 + 1 + 1 + 1 + 1 + 1 + 1 + 1 + 1 + 1 = big at *
    go_loopw [114] (fun i wr => ∃ k : Nat, k ≤ 11 ∧ i = .int .i64 k ∧ Below W6.heap.size W6 wr) (fun i _ => 11 - (intOf i).toNat)
    case atStart => exact ⟨0, by omega, rfl, Below.refl _ _⟩
    case round =>
      obtain ⟨k, hk, rfl, hb⟩ := hrel
      have hbw := Lib.hid (below_step q6.out q6.out.size hb)
      by_cases hin : k < 11
      · first
          | (obtain ⟨it, hit⟩ : ∃ it, (wraps x false)[k]? = some it := ⟨_, List.getElem?_eq_getElem (show k < (wraps x false).length from hin)⟩; have hwr := (HWR.out k it hit).mono hb)
          | (obtain ⟨it, hit⟩ : ∃ it, (wraps x true)[k]? = some it := ⟨_, List.getElem?_eq_getElem (show k < (wraps x true).length from hin)⟩; have hwr := (HWR.out k it hit).mono hb)
        obtain ⟨A', c', e0, e1, e2, e3, e4, e5, hK'⟩ := hwr
        have hmem := List.mem_of_getElem? hit
        have hfy := wraps_fit hfit it hmem
        have hsy := wraps_size it hmem
        have HTY := Lib.hid (fun hbd => wraps_type HG.out HFM.out HCK.out hbd hmem)
        have hblt := block_lt_of_cell e0
        obtain ⟨b0, b1, b2, b3, _⟩ := bx6.out.mono hb
        have bxr := Lib.hid (bx6.out.mono hb)
        have HK' := Lib.hid hK'
        obtain ⟨y, il, io⟩ := it
        simp only at *
        clear hmem hit hK'
        have s1 : (0 : Int) ≤ k := by omega
        have s2 : (k : Int) < 11 := by omega
        have hbx := below_box wr (Obj.cells #[.int .u8 y.kind, .int .i64 y.num, .string y.name, .slice A' y.kids.length c', .bool il, .bool io] 49)
        have f4 : (wr.alloc (Obj.cells #[.int .u8 y.kind, .int .i64 y.num, .string y.name, .slice A' y.kids.length c', .bool il, .bool io] 49)).cell? ⟨wr.heap.size, 4, none⟩ = some (.bool il) := by simp [go_sem]
        have f5 : (wr.alloc (Obj.cells #[.int .u8 y.kind, .int .i64 y.num, .string y.name, .slice A' y.kids.length c', .bool il, .bool io] 49)).cell? ⟨wr.heap.size, 5, none⟩ = some (.bool io) := by simp [go_sem]
        go_wp2_with fail
        generalize wr.alloc _ = W7 at hbx f4 f5 ⊢
        have q7 := Lib.hid (below_step hbw.out hbw.out.size hbx)
        refine (type_any lib A cap i y A' c' W7 (HL.out.mono q7.out) hF hP hfy (HK'.out.mono hbx) (by omega)).mono ?_
        rintro e w8 ⟨rfl, hb8⟩
        have q8 := Lib.hid (below_step q7.out q7.out.size hb8)
        have bx8 := Lib.hid ((bxr.out.mono hbx).mono hb8)
        have hb9 := Lib.hid (below_step (below_step hb hb.size hbx) (by have := hb.size; have := hbx.size; omega) hb8)
        have g4 := below_cell hb8 f4
        have g5 := below_cell hb8 f5
        clear e0 e1 e2 e3 e4 e5 f4 f5 b0 b1 b2 b3 hb8 hbx q7 bxr HK'
        obtain ⟨b0, b1, b2, b3, hk8⟩ := bx8.out
        have HK8 := Lib.hid hk8
        clear hk8
        go_wp2_with fail
        refine (bound_any lib A cap i g HG.out x Ak ck w8 (HL.out.mono q8.out) hF hfit HK8.out).mono ?_
        rintro e w9 ⟨rfl, hb10⟩
        have p9 := Lib.hid (below_step hb9.out hb9.out.size hb10)
        have k4 := below_cell hb10 g4
        have k5 := below_cell hb10 g5
        have hlt9 := block_lt_of_cell k4
        clear g4 g5 b0 b1 b2 b3 hb10 hb9 bx8 HK8 q8
        cases hbd : (pmZ g.params || letT ⟨#[122, 122, 122, 122]⟩ x) with
        | true =>
          go_wp2_with fail
          exact ⟨⟨k + 1, by omega, by go_num, p9.out⟩, by simp [intOf]; omega⟩
        | false =>
          rw [HTY.out hbd]
          clear HTY
          cases il <;> cases io
          all_goals
            go_wp2_with fail
            exact ⟨⟨k + 1, by omega, by go_num, p9.out⟩, by simp [intOf]; omega⟩
      · go_wp2_with fail
        go_ret
        exact ⟨rfl, hbw.out⟩

end Go.Proofs.Ytafjkmhphakhhaa
