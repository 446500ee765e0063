/-
  The law's example library: length returns it.
-/
import Derived.Test.YtafjkmhphakhhaaFunVT
import Derived.Test.YtafjkmhphakhhaaFunEq
namespace Go.Proofs.Ytafjkmhphakhhaa
open Go.ChangeShapes Go.WideShapes Go.ChangeAt Go.RowKit Go.Sort

def sXs : ByteArray := ⟨#[120, 115]⟩
def sLen : ByteArray := ⟨#[108, 101, 110]⟩
def s0 : ByteArray := ⟨#[]⟩
def xsN : Nd := .mk 81 0 ⟨#[120, 115]⟩ []
def tailN : Nd := .mk 89 0 ⟨#[]⟩ [xsN]
def recN : Nd := .mk 85 0 ⟨#[108, 101, 110]⟩ [tailN]
def oneN : Nd := .mk 80 1 ⟨#[]⟩ []
def addN : Nd := .mk 82 8 ⟨#[]⟩ [oneN, recN]
def nullN : Nd := .mk 90 0 ⟨#[]⟩ [xsN]
def zeroN : Nd := .mk 80 0 ⟨#[]⟩ []
def lenBody : Nd := .mk 83 0 ⟨#[]⟩ [nullN, zeroN, addN]
def lenFn : Fn1 := ⟨⟨#[108, 101, 110]⟩, [⟨⟨#[120, 115]⟩, true⟩], false, lenBody⟩
def lenLib : List Fn1 := [lenFn]

theorem kids_one {w : World} {b : Nat} {y0 : Nd} (h0 : NdO w b 0 y0) : ∀ (k : Nat) (y : Nd), [y0][k]? = some y → NdO w b (0 + k * 4) y
  | 0, y, h => by simp at h; subst h; simpa using h0
  | k + 1, y, h => by simp at h
theorem kids_two {w : World} {b : Nat} {y0 y1 : Nd} (h0 : NdO w b 0 y0) (h1 : NdO w b 4 y1) : ∀ (k : Nat) (y : Nd), [y0, y1][k]? = some y → NdO w b (0 + k * 4) y
  | 0, y, h => by simp at h; subst h; simpa using h0
  | 1, y, h => by simp at h; subst h; simpa using h1
  | k + 2, y, h => by simp at h
theorem kids_three {w : World} {b : Nat} {y0 y1 y2 : Nd} (h0 : NdO w b 0 y0) (h1 : NdO w b 4 y1) (h2 : NdO w b 8 y2) : ∀ (k : Nat) (y : Nd), [y0, y1, y2][k]? = some y → NdO w b (0 + k * 4) y
  | 0, y, h => by simp at h; subst h; simpa using h0
  | 1, y, h => by simp at h; subst h; simpa using h1
  | 2, y, h => by simp at h; subst h; simpa using h2
  | k + 3, y, h => by simp at h
theorem kids_none {w : World} {b : Nat} : ∀ (k : Nat) (y : Nd), ([] : List Nd)[k]? = some y → NdO w b (0 + k * 4) y
  | k, y, h => by simp at h

def RetLen (w : World) (e : Ending) (w' : World) : Prop := ∃ A c, e = .returned (.slice A 1 c) ∧ LibAt w' A lenLib ∧ Below w.heap.size w w'

set_option maxRecDepth 100000 in
set_option maxHeartbeats 1000000 in
theorem length_any (w : World) :
    Calls Try.prog 29 #[] w (RetLen w) := by
  go_enter Try.func29, Try.ntmps29
  go_wp2_with fail
  go_ret
  generalize hW : World.alloc _ _ = W
  refine ⟨_, _, rfl, ?_, ?_⟩
  · intro k x hk
    match k, hk with
    | k + 1, hk => simp [lenLib] at hk
    | 0, hk =>
    obtain rfl : lenFn = x := by simpa [lenLib] using hk
    refine ⟨w.heap.size + 1 + 1 + 1 + 1 + 1 + 1 + 1 + 1 + 1, 0, rfl, ?_⟩
    have x2 : NdO W (w.heap.size + 1 + 1) 0 xsN := .mk (A := none) (cap := 0) (b' := 0) (o' := 0) (by rw [← hW]; simp [go_sem, xsN, Nd.kind]) (by rw [← hW]; simp [go_sem, xsN, Nd.num]) (by rw [← hW]; simp [go_sem, xsN, Nd.name]) (by rw [← hW]; simp [go_sem, xsN, Nd.kids]) (fun h => by simp [xsN, Nd.kids] at h) kids_none
    have x6 : NdO W (w.heap.size + 1 + 1 + 1 + 1 + 1 + 1) 0 xsN := .mk (A := none) (cap := 0) (b' := 0) (o' := 0) (by rw [← hW]; simp [go_sem, xsN, Nd.kind]) (by rw [← hW]; simp [go_sem, xsN, Nd.num]) (by rw [← hW]; simp [go_sem, xsN, Nd.name]) (by rw [← hW]; simp [go_sem, xsN, Nd.kids]) (fun h => by simp [xsN, Nd.kids] at h) kids_none
    have t3 : NdO W (w.heap.size + 1 + 1 + 1) 0 tailN := .mk (A := some ⟨w.heap.size + 1 + 1, 0, none⟩) (cap := 1) (b' := w.heap.size + 1 + 1) (o' := 0) (by rw [← hW]; simp [go_sem, tailN, Nd.kind]) (by rw [← hW]; simp [go_sem, tailN, Nd.num]) (by rw [← hW]; simp [go_sem, tailN, Nd.name]) (by rw [← hW]; simp [go_sem, tailN, Nd.kids]) (fun _ => rfl) (kids_one x2)
    have o7 : NdO W (w.heap.size + 1 + 1 + 1 + 1 + 1 + 1 + 1) 0 oneN := .mk (A := none) (cap := 0) (b' := 0) (o' := 0) (by rw [← hW]; simp [go_sem, oneN, Nd.kind]) (by rw [← hW]; simp [go_sem, oneN, Nd.num]) (by rw [← hW]; simp [go_sem, oneN, Nd.name]) (by rw [← hW]; simp [go_sem, oneN, Nd.kids]) (fun h => by simp [oneN, Nd.kids] at h) kids_none
    have r7 : NdO W (w.heap.size + 1 + 1 + 1 + 1 + 1 + 1 + 1) 4 recN := .mk (A := some ⟨w.heap.size + 1 + 1 + 1, 0, none⟩) (cap := 1) (b' := w.heap.size + 1 + 1 + 1) (o' := 0) (by rw [← hW]; simp [go_sem, recN, Nd.kind]) (by rw [← hW]; simp [go_sem, recN, Nd.num]) (by rw [← hW]; simp [go_sem, recN, Nd.name]) (by rw [← hW]; simp [go_sem, recN, Nd.kids]) (fun _ => rfl) (kids_one t3)
    have n8 : NdO W (w.heap.size + 1 + 1 + 1 + 1 + 1 + 1 + 1 + 1) 0 nullN := .mk (A := some ⟨w.heap.size + 1 + 1 + 1 + 1 + 1 + 1, 0, none⟩) (cap := 1) (b' := w.heap.size + 1 + 1 + 1 + 1 + 1 + 1) (o' := 0) (by rw [← hW]; simp [go_sem, nullN, Nd.kind]) (by rw [← hW]; simp [go_sem, nullN, Nd.num]) (by rw [← hW]; simp [go_sem, nullN, Nd.name]) (by rw [← hW]; simp [go_sem, nullN, Nd.kids]) (fun _ => rfl) (kids_one x6)
    have z8 : NdO W (w.heap.size + 1 + 1 + 1 + 1 + 1 + 1 + 1 + 1) 4 zeroN := .mk (A := none) (cap := 0) (b' := 0) (o' := 0) (by rw [← hW]; simp [go_sem, zeroN, Nd.kind]) (by rw [← hW]; simp [go_sem, zeroN, Nd.num]) (by rw [← hW]; simp [go_sem, zeroN, Nd.name]) (by rw [← hW]; simp [go_sem, zeroN, Nd.kids]) (fun h => by simp [zeroN, Nd.kids] at h) kids_none
    have a8 : NdO W (w.heap.size + 1 + 1 + 1 + 1 + 1 + 1 + 1 + 1) 8 addN := .mk (A := some ⟨w.heap.size + 1 + 1 + 1 + 1 + 1 + 1 + 1, 0, none⟩) (cap := 2) (b' := w.heap.size + 1 + 1 + 1 + 1 + 1 + 1 + 1) (o' := 0) (by rw [← hW]; simp [go_sem, addN, Nd.kind]) (by rw [← hW]; simp [go_sem, addN, Nd.num]) (by rw [← hW]; simp [go_sem, addN, Nd.name]) (by rw [← hW]; simp [go_sem, addN, Nd.kids]) (fun _ => rfl) (kids_two o7 r7)
    have b9 : NdO W (w.heap.size + 1 + 1 + 1 + 1 + 1 + 1 + 1 + 1 + 1) 3 lenBody := .mk (A := some ⟨w.heap.size + 1 + 1 + 1 + 1 + 1 + 1 + 1 + 1, 0, none⟩) (cap := 3) (b' := w.heap.size + 1 + 1 + 1 + 1 + 1 + 1 + 1 + 1) (o' := 0) (by rw [← hW]; simp [go_sem, lenBody, Nd.kind]) (by rw [← hW]; simp [go_sem, lenBody, Nd.num]) (by rw [← hW]; simp [go_sem, lenBody, Nd.name]) (by rw [← hW]; simp [go_sem, lenBody, Nd.kids]) (fun _ => rfl) (kids_three n8 z8 a8)
    refine ⟨by rw [← hW]; simp [go_sem, lenFn], ⟨some ⟨w.heap.size + 1 + 1 + 1 + 1 + 1, 0, none⟩, 1, by rw [← hW]; simp [go_sem, lenFn], fun k p hk => ?_⟩, by rw [← hW]; simp [go_sem, lenFn], b9⟩
    match k, hk with
    | k + 1, hk => simp [lenFn] at hk
    | 0, hk =>
    obtain rfl : ⟨⟨#[120, 115]⟩, true⟩ = p := by simpa [lenFn] using hk
    exact ⟨_, 0, rfl, by rw [← hW]; simp [go_sem], by rw [← hW]; simp [go_sem]⟩
  · rw [← hW]
    exact (((((((((((Below.refl _ w).alloc (by simp) _).alloc (by simp <;> omega) _).alloc (by simp <;> omega) _).alloc (by simp <;> omega) _).alloc (by simp <;> omega) _).alloc (by simp <;> omega) _).alloc (by simp <;> omega) _).alloc (by simp <;> omega) _).alloc (by simp <;> omega) _).alloc (by simp <;> omega) _)

end Go.Proofs.Ytafjkmhphakhhaa
