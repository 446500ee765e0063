/-
  Names of layer 35: contracts of lexer.Keyword, slices.Index and Contains at strings, fun.isName, the reference's Keywords and Name.
  Names of layer 35: contracts of slices.Index and Contains at strings, fun.isName, the reference's Keywords and Name.
  The contract of the reference's Name (layer 35).
-/
import Derived.Test.YtcoeakdpcigogaaDoorFunBase
import Derived.Laws.IdiomStrings
namespace Go.Proofs.YtcoeakdpcigogaaDoor
open Go.ChangeShapes Go.WideShapes Go.ChangeAt Go.RowKit Go.Sort

def kwL : List ByteArray := [⟨#[105, 110, 116]⟩, ⟨#[97, 114, 114, 97, 121]⟩, ⟨#[115, 116, 97, 99, 107]⟩, ⟨#[112, 114, 111, 99]⟩, ⟨#[109, 97, 105, 110]⟩, ⟨#[112, 117, 115, 104]⟩, ⟨#[112, 111, 112]⟩, ⟨#[114, 101, 97, 100]⟩, ⟨#[117, 110, 114, 101, 97, 100]⟩, ⟨#[119, 114, 105, 116, 101]⟩, ⟨#[117, 110, 119, 114, 105, 116, 101]⟩, ⟨#[99, 97, 108, 108]⟩, ⟨#[117, 110, 99, 97, 108, 108]⟩, ⟨#[105, 102]⟩, ⟨#[101, 108, 115, 101]⟩, ⟨#[102, 105]⟩, ⟨#[102, 114, 111, 109]⟩, ⟨#[108, 111, 111, 112]⟩, ⟨#[117, 110, 116, 105, 108]⟩, ⟨#[108, 111, 99, 97, 108]⟩, ⟨#[100, 101, 108, 111, 99, 97, 108]⟩, ⟨#[116, 111, 112]⟩, ⟨#[115, 105, 122, 101]⟩]
def resL : List ByteArray := [⟨#[108, 99, 111, 112, 121]⟩, ⟨#[108, 115, 112, 105, 108, 108]⟩, ⟨#[111, 117, 116]⟩, ⟨#[103]⟩]
theorem eqS_iff {a b : ByteArray} : (a.toList == b.toList) = true ↔ a = b := by
  rw [ByteArray.toList_eq, ByteArray.toList_eq]
  constructor
  · intro h; exact WideShapes.bytes_inj (by simpa using h)
  · intro h; rw [h]; simp
theorem eqS_eq (a b : ByteArray) : (a.toList == b.toList) = decide (a = b) := by
  rw [Bool.eq_iff_iff]; simp only [eqS_iff, decide_eq_true_eq]
def inL (l : List ByteArray) (s : ByteArray) : Bool := l.any fun x => decide (x = s)
def kwEnv : ByteArray → Option Bool := kwL.foldl (fun e x => setE e x (some true)) (fun _ => none)
theorem foldE (s : ByteArray) : ∀ (l : List ByteArray) (e : ByteArray → Option Bool), ((l.foldl (fun e x => setE e x (some true)) e) s).getD false = (inL l s || (e s).getD false)
  | [], e => by simp [inL]
  | x :: r, e => by
    rw [List.foldl_cons, foldE s r]
    unfold setE
    by_cases h : s = x
    · rw [if_pos h]; simp [inL, h]
    · rw [if_neg h]
      have : decide (x = s) = false := by simp; exact fun e => h e.symm
      simp [inL, this]
theorem kwEnv_eq (s : ByteArray) : (kwEnv s).getD false = inL kwL s := by
  unfold kwEnv; rw [foldE]; simp
def kwB (s : ByteArray) : Bool := decide (2 ≤ s.size) && decide (s.size ≤ 7) && inL kwL s

set_option maxRecDepth 100000 in
set_option maxHeartbeats 1000000 in
theorem keyword_any (s : ByteArray) (w : World) (hs : s.size ≤ 9223372036854775807) :
    Calls Tryd.prog 62 #[.string s] w fun e w' => e = .returned (.bool (kwB s)) ∧ Below w.heap.size w w' := by
  have hmm := @run_makeMap Tryd.prog
  by_cases h2 : s.size < 2
  · have hn := Lib.hid (show kwB s = false by simp [kwB]; omega)
    go_enter Tryd.func62, Tryd.ntmps62
    go_wp2
    go_ret
    exact ⟨ret_bool hn.out.symm, Below.refl _ _⟩
  by_cases h7 : 7 < s.size
  · have hn := Lib.hid (show kwB s = false by simp [kwB]; omega)
    go_enter Tryd.func62, Tryd.ntmps62
    go_wp2
    go_ret
    exact ⟨ret_bool hn.out.symm, Below.refl _ _⟩
  have hn := Lib.hid (show (kwEnv s).getD false = kwB s by rw [kwEnv_eq]; unfold kwB; simp; omega)
  have HM := mapB_made w
  have hbM := below_box w (.map #[] 0)
  go_enter Tryd.func62, Tryd.ntmps62
  go_wp2_with (first
    | (refine wpList_put_B _ rfl _ _ _ 122 (.inr rfl) Tryd.underlying122 w.heap.size _ _ _ rfl HM (by decide) _ true rfl rfl (by decide) ?_; intro w1 HM1 hT; have hbM := hbM.grown hT.grown (by have := hbM.size; omega) (by intro k hk; cases hk; exact Nat.le_refl _); have HM := HM1; clear hT HM1)
    | (at_lookup; refine wpList_look_B _ rfl _ _ 122 rfl Tryd.underlying122 w.heap.size _ _ _ rfl HM s rfl (by unfold maxLen; omega) ?_))
  go_ret
  exact ⟨ret_bool hn.out, hbM⟩

end Go.Proofs.YtcoeakdpcigogaaDoor

namespace Go.Proofs.YtcoeakdpcigogaaDoor
open Go.ChangeShapes Go.WideShapes Go.ChangeAt Go.RowKit Go.Sort

def StrsAt (w : World) (A : Option Addr) (l : List ByteArray) : Prop :=
  ∀ k x, l[k]? = some x → ∃ b o, A = some ⟨b, o, none⟩ ∧ w.cell? ⟨b, o + k, none⟩ = some (.string x)
theorem StrsAt.mono {w w' : World} {A : Option Addr} {l : List ByteArray} (h : StrsAt w A l) (hb : Below w.heap.size w w') : StrsAt w' A l := fun k x hk => by
  obtain ⟨b, o, e, h1⟩ := h k x hk
  exact ⟨b, o, e, below_cell hb h1⟩
theorem StrsAt.at_ {w : World} {A : Option Addr} {l : List ByteArray} (h : StrsAt w A l) {k : Nat} (hk : k < l.length) : ∃ b o, A = some ⟨b, o, none⟩ ∧ w.cell? ⟨b, o + k, none⟩ = some (.string l[k]) :=
  h k l[k] (List.getElem?_eq_getElem hk)
theorem strs_new (w : World) (T : TypeId) (l : List ByteArray) (cs : Array Value) (hcs : cs = (l.map Value.string).toArray) : StrsAt (w.alloc (Obj.cells cs T)) (some ⟨w.heap.size, 0, none⟩) l := fun k x hk => by
  subst hcs
  refine ⟨w.heap.size, 0, rfl, ?_⟩
  simp [go_sem, hk]

def idxF : List ByteArray → ByteArray → Nat → Int
  | [], _, _ => -1
  | x :: r, s, k => if (s.toList == x.toList) = true then k else idxF r s (k + 1)
theorem idxF_step {l : List ByteArray} {s : ByteArray} {k : Nat} (h : k < l.length) : idxF (l.drop k) s k = if (s.toList == l[k].toList) = true then (k : Int) else idxF (l.drop (k + 1)) s (k + 1) := by
  rw [List.drop_eq_getElem_cons h]; rfl
theorem idxF_in (s : ByteArray) : ∀ (l : List ByteArray) (k : Nat), decide (0 ≤ idxF l s k) = inL l s
  | [], k => by simp [idxF, inL]
  | x :: r, k => by
    unfold idxF
    by_cases h : (s.toList == x.toList) = true
    · rw [if_pos h]; simp [inL, (eqS_iff.1 h).symm]
    · rw [if_neg h, idxF_in s r (k + 1)]
      have : ¬ x = s := fun e => h (eqS_iff.2 e.symm)
      simp [inL, this]

set_option maxRecDepth 100000 in
set_option maxHeartbeats 400000 in
theorem index_any (l : List ByteArray) (A : Option Addr) (cap : Nat) (s : ByteArray) (w : World) (hL : StrsAt w A l) (hl : l.length ≤ 9223372036854775807) :
    Calls Tryd.prog 81 #[.slice A l.length cap, .string s] w fun e w' => e = .returned (.int .i64 (idxF l s 0)) ∧ w' = w := by
  have HL := Lib.hid hL
  clear hL
  go_enter Tryd.func81, Tryd.ntmps81
  go_wp2
  go_loop [8] (fun i => ∃ k : Nat, k ≤ l.length ∧ i = .int .i64 k ∧ Hid (idxF l s 0 = idxF (l.drop k) s k)) (fun i => l.length - (intOf i).toNat)
  case atStart => exact ⟨0, by omega, rfl, rfl⟩
  case round =>
    obtain ⟨k, hk, rfl, hz⟩ := hrel
    by_cases hin : k < l.length
    · have hz' := Lib.hid (hz.out.trans (idxF_step hin))
      obtain ⟨b, o, rfl, hi⟩ := HL.out.at_ hin
      clear hz
      by_cases he : (s.toList == l[k].toList) = true
      · have hf := Lib.hid (hz'.out.trans (if_pos he))
        go_wp2
        go_ret
        exact ⟨ret_i64 hf.out.symm, rfl⟩
      · have hf := Lib.hid (hz'.out.trans (if_neg he))
        have he' : (s.toList == l[k].toList) = false := by simpa using he
        go_wp2
        exact ⟨⟨k + 1, by omega, by go_num, hf⟩, by simp [intOf]; omega⟩
    · have hz' := Lib.hid (show idxF l s 0 = -1 by rw [hz.out, List.drop_of_length_le (by omega)]; rfl)
      clear hz
      go_wp2
      go_ret
      exact ⟨ret_i64 hz'.out.symm, rfl⟩

set_option maxRecDepth 100000 in
theorem contains_any (l : List ByteArray) (A : Option Addr) (cap : Nat) (s : ByteArray) (w : World) (hL : StrsAt w A l) (hl : l.length ≤ 9223372036854775807) :
    Calls Tryd.prog 63 #[.slice A l.length cap, .string s] w fun e w' => e = .returned (.bool (inL l s)) ∧ w' = w := by
  have hE := Lib.hid (idxF_in s l 0)
  go_enter Tryd.func63, Tryd.ntmps63
  go_wp2_with (go_at_call 81; refine (index_any l A cap s w hL hl).mono ?_; rintro e w' ⟨rfl, rfl⟩)
  go_ret
  exact ⟨ret_bool hE.out, rfl⟩

theorem bytes_conv (s : ByteArray) (w : World) : ∃ w' cap, (convert 9 134 (.string s)).run Tryd.prog w = .ok (.slice (some ⟨w.heap.size, 0, none⟩) s.size cap) w' ∧ Below w.heap.size w w' ∧ ∀ (k : Nat) (c : UInt8), s.toList[k]? = some c → w'.cell? ⟨w.heap.size, k, none⟩ = some (.int .u8 c.toNat) := by
  have hrun := run_bytes_of_string (P := Tryd.prog) w 9 134 5 s Tryd.underlying9 Tryd.underlying134 Tryd.underlying5
  refine ⟨_, _, hrun, ((Below.refl _ _).trans ⟨rfl, rfl, rfl, Nat.le_refl _, fun _ _ => rfl⟩ : Below w.heap.size w w.drew).alloc (Nat.le_refl _) _, fun k c hk => ?_⟩
  rw [ByteArray.toList_eq] at hk
  have hk' : s.data[k]? = some c := by simpa using hk
  have hlt : k < s.data.size := (Array.getElem?_eq_some_iff.1 hk').1
  have hcell : (bytesRow s (grownCap w s.size 0 5))[k]? = some (.int .u8 c.toNat) := by
    unfold bytesRow
    rw [Array.getElem?_append_left (by simpa using hlt), Array.getElem?_map, hk']; rfl
  generalize bytesRow s (grownCap w s.size 0 5) = row at hcell
  generalize grownCap w s.size 0 5 = gc
  have hh : ∀ X : Obj, (w.drew.alloc X).heap[w.heap.size]? = some X := fun X => by show (w.heap.push _)[w.heap.size]? = _; simp
  show (match (w.drew.alloc _).heap[w.heap.size]? with | some (Obj.cells c _ _) => c[k]? | _ => none) = _
  rw [hh]; exact hcell

def lowB (s : ByteArray) : Bool := s.toList.all fun c => decide (97 ≤ c.toNat) && decide (c.toNat ≤ 122)
def nameB (s : ByteArray) : Bool := decide (1 ≤ s.size) && decide (s.size ≤ 12) && !kwB s && lowB s && !inL resL s

set_option maxRecDepth 100000 in
set_option maxHeartbeats 1000000 in
theorem isName_any (s : ByteArray) (w : World) (hs : s.size ≤ 9223372036854775807) :
    Calls Tryd.prog 46 #[.string s] w fun e w' => e = .returned (.bool (nameB s)) ∧ Below w.heap.size w w' := by
  by_cases h1 : s.size < 1
  · have hn := Lib.hid (show nameB s = false by simp [nameB]; omega)
    go_enter Tryd.func46, Tryd.ntmps46
    go_wp2_with fail
    go_ret
    exact ⟨ret_bool hn.out.symm, Below.refl _ _⟩
  by_cases h12 : 12 < s.size
  · have hn := Lib.hid (show nameB s = false by simp [nameB]; omega)
    go_enter Tryd.func46, Tryd.ntmps46
    go_wp2_with fail
    go_ret
    exact ⟨ret_bool hn.out.symm, Below.refl _ _⟩
  go_enter Tryd.func46, Tryd.ntmps46
  go_wp2_with fail
  refine (keyword_any s _ hs).mono ?_
  rintro e w1 ⟨rfl, hb1⟩
  by_cases hk : kwB s = true
  · have hn := Lib.hid (show nameB s = false by simp [nameB, hk])
    go_wp2_with fail
    go_ret
    exact ⟨ret_bool hn.out.symm, hb1⟩
  have hk' : kwB s = false := by simpa using hk
  have hn := Lib.hid (show nameB s = (lowB s && !inL resL s) by
    have e1 : decide (1 ≤ s.size) = true := by simp; omega
    have e2 : decide (s.size ≤ 12) = true := by simp; omega
    simp [nameB, hk', e1, e2])
  obtain ⟨w2, cap2, hcv, hb2, hby⟩ := bytes_conv s w1
  have HBY := Lib.hid hby
  have hsl : s.toList.length = s.size := by rw [ByteArray.toList_eq]; simp
  clear hby
  go_wp2_with fail
  clear hcv
  have q2 := below_step hb1 hb1.size hb2
  go_loop [20] (fun i => ∃ k : Nat, k ≤ s.size ∧ i = .int .i64 k ∧ Hid (∀ (j : Nat) (c : UInt8), j < k → s.toList[j]? = some c → (97 ≤ c.toNat ∧ c.toNat ≤ 122))) (fun i => s.size - (intOf i).toNat)
  case atStart => exact ⟨0, by omega, rfl, fun j c hj => by omega⟩
  case round =>
    obtain ⟨k, hk, rfl, hz⟩ := hrel
    by_cases hin : k < s.size
    · have hget : s.toList[k]? = some (s.toList[k]'(by omega)) := List.getElem?_eq_getElem _
      have hc := HBY.out k _ hget
      generalize s.toList[k]'(by omega) = c at hget hc
      have HG := Lib.hid hget
      clear hget
      have hcl : c.toNat < 256 := by have := c.toNat_lt; omega
      by_cases hok : 97 ≤ c.toNat ∧ c.toNat ≤ 122
      · have hz' := Lib.hid (fun (j : Nat) (d : UInt8) (hj : j < k + 1) (hd : s.toList[j]? = some d) => show 97 ≤ d.toNat ∧ d.toNat ≤ 122 from by
          by_cases e : j = k
          · subst e; rw [HG.out] at hd; have := Option.some.inj hd; rw [← this]; exact hok
          · exact hz.out j d (by omega) hd)
        clear hz
        go_wp2_with fail
        exact ⟨⟨k + 1, by omega, by go_num, hz'⟩, by simp [intOf]; omega⟩
      · have hlow := Lib.hid (show nameB s = false by
          rw [hn.out]
          have : lowB s = false := by
            unfold lowB
            rw [List.all_eq_false]
            exact ⟨c, List.mem_of_getElem? HG.out, by simp; omega⟩
          rw [this]; rfl)
        clear hz
        by_cases hlo : c.toNat < 97
        · go_wp2_with fail
          go_ret
          exact ⟨ret_bool hlow.out.symm, q2⟩
        · have hhi : 122 < c.toNat := by omega
          go_wp2_with fail
          go_ret
          exact ⟨ret_bool hlow.out.symm, q2⟩
    · have hlow := Lib.hid (show nameB s = !inL resL s by
        rw [hn.out]
        have : lowB s = true := by
          unfold lowB
          rw [List.all_eq_true]
          intro c hc
          obtain ⟨j, hj⟩ := List.getElem?_of_mem hc
          have := hz.out j c (by have := (List.getElem?_eq_some_iff.1 hj).1; omega) hj
          simp; omega
        rw [this]; rfl)
      clear hz
      have hst := strs_new w2 9 resL _ rfl
      have hbx := below_box w2 (Obj.cells (resL.map Value.string).toArray 9)
      go_wp2_with fail
      refine (contains_any resL _ 4 s _ hst (by decide)).mono ?_
      rintro e w3 ⟨rfl, rfl⟩
      go_wp2_with fail
      go_ret
      exact ⟨ret_bool hlow.out.symm, below_step q2 q2.size hbx⟩

/-- The reference's own test. -/
def rnameB (s : ByteArray) : Bool := decide (1 ≤ s.size) && decide (s.size ≤ 12) && !inL resL s && !inL kwL s && lowB s
theorem kw_len {s : ByteArray} (h : inL kwL s = true) : 2 ≤ s.size ∧ s.size ≤ 7 := by
  have : ∀ x ∈ kwL, 2 ≤ x.size ∧ x.size ≤ 7 := by decide
  unfold inL at h
  rw [List.any_eq_true] at h
  obtain ⟨x, hx, e⟩ := h
  have := this x hx
  rw [of_decide_eq_true e] at this
  exact this
theorem rname_eq (s : ByteArray) : rnameB s = nameB s := by
  have : kwB s = inL kwL s := by
    unfold kwB
    cases h : inL kwL s with
    | false => simp
    | true => have := kw_len h; simp; omega
  unfold rnameB nameB
  rw [this]
  cases inL resL s <;> cases inL kwL s <;> cases lowB s <;> simp
theorem resL_cases (s : ByteArray) : (inL resL s = true ∧ ((s.toList == (⟨#[108, 99, 111, 112, 121]⟩ : ByteArray).toList) = true ∨ ((s.toList == (⟨#[108, 99, 111, 112, 121]⟩ : ByteArray).toList) = false ∧ (s.toList == (⟨#[108, 115, 112, 105, 108, 108]⟩ : ByteArray).toList) = true) ∨ ((s.toList == (⟨#[108, 99, 111, 112, 121]⟩ : ByteArray).toList) = false ∧ (s.toList == (⟨#[108, 115, 112, 105, 108, 108]⟩ : ByteArray).toList) = false ∧ (s.toList == (⟨#[111, 117, 116]⟩ : ByteArray).toList) = true) ∨ ((s.toList == (⟨#[108, 99, 111, 112, 121]⟩ : ByteArray).toList) = false ∧ (s.toList == (⟨#[108, 115, 112, 105, 108, 108]⟩ : ByteArray).toList) = false ∧ (s.toList == (⟨#[111, 117, 116]⟩ : ByteArray).toList) = false ∧ (s.toList == (⟨#[103]⟩ : ByteArray).toList) = true))) ∨
    (inL resL s = false ∧ (s.toList == (⟨#[108, 99, 111, 112, 121]⟩ : ByteArray).toList) = false ∧ (s.toList == (⟨#[108, 115, 112, 105, 108, 108]⟩ : ByteArray).toList) = false ∧ (s.toList == (⟨#[111, 117, 116]⟩ : ByteArray).toList) = false ∧ (s.toList == (⟨#[103]⟩ : ByteArray).toList) = false) := by
  have hin : inL resL s = (decide (s = ⟨#[108, 99, 111, 112, 121]⟩) || decide (s = ⟨#[108, 115, 112, 105, 108, 108]⟩) || decide (s = ⟨#[111, 117, 116]⟩) || decide (s = ⟨#[103]⟩)) := by
    unfold inL resL
    simp only [List.any_cons, List.any_nil, Bool.or_false]
    have e : ∀ a b : ByteArray, decide (a = b) = decide (b = a) := fun a b => by rw [decide_eq_decide]; exact ⟨Eq.symm, Eq.symm⟩
    rw [e _ s, e _ s, e _ s, e _ s]
    simp only [Bool.or_assoc]
  rw [hin]
  simp only [eqS_eq]
  generalize decide (s = ⟨#[108, 99, 111, 112, 121]⟩) = a
  generalize decide (s = ⟨#[108, 115, 112, 105, 108, 108]⟩) = b
  generalize decide (s = ⟨#[111, 117, 116]⟩) = c
  generalize decide (s = ⟨#[103]⟩) = d
  cases a <;> cases b <;> cases c <;> cases d <;> simp

end Go.Proofs.YtcoeakdpcigogaaDoor

namespace Go.Proofs.YtcoeakdpcigogaaDoor
open Go.ChangeShapes Go.WideShapes Go.ChangeAt Go.RowKit Go.Sort

theorem bget {s : ByteArray} {k : Nat} (h : k < s.size) : s.toList[k]? = some s[k] := by
  rw [ByteArray.toList_eq]
  have h' : k < s.data.size := h
  rw [List.getElem?_eq_getElem (by simpa using h')]
  simp; rfl
theorem resL_cases' (s : ByteArray) : (inL resL s = true ∧ ((s.toList == ([108, 99, 111, 112, 121] : List UInt8)) = true ∨ ((s.toList == ([108, 99, 111, 112, 121] : List UInt8)) = false ∧ (s.toList == ([108, 115, 112, 105, 108, 108] : List UInt8)) = true) ∨ ((s.toList == ([108, 99, 111, 112, 121] : List UInt8)) = false ∧ (s.toList == ([108, 115, 112, 105, 108, 108] : List UInt8)) = false ∧ (s.toList == ([111, 117, 116] : List UInt8)) = true) ∨ ((s.toList == ([108, 99, 111, 112, 121] : List UInt8)) = false ∧ (s.toList == ([108, 115, 112, 105, 108, 108] : List UInt8)) = false ∧ (s.toList == ([111, 117, 116] : List UInt8)) = false ∧ (s.toList == ([103] : List UInt8)) = true))) ∨
    (inL resL s = false ∧ (s.toList == ([108, 99, 111, 112, 121] : List UInt8)) = false ∧ (s.toList == ([108, 115, 112, 105, 108, 108] : List UInt8)) = false ∧ (s.toList == ([111, 117, 116] : List UInt8)) = false ∧ (s.toList == ([103] : List UInt8)) = false) := by
  have hin : inL resL s = (decide (s = ⟨#[108, 99, 111, 112, 121]⟩) || decide (s = ⟨#[108, 115, 112, 105, 108, 108]⟩) || decide (s = ⟨#[111, 117, 116]⟩) || decide (s = ⟨#[103]⟩)) := by
    unfold inL resL
    simp only [List.any_cons, List.any_nil, Bool.or_false]
    have e : ∀ a b : ByteArray, decide (a = b) = decide (b = a) := fun a b => by rw [decide_eq_decide]; exact ⟨Eq.symm, Eq.symm⟩
    rw [e _ s, e _ s, e _ s, e _ s]
    simp only [Bool.or_assoc]
  rw [hin]
  have el : ∀ a : ByteArray, (s.toList == a.data.toList) = decide (s = a) := fun a => by rw [← eqS_eq, ByteArray.toList_eq a]
  have el1 := el ⟨#[108, 99, 111, 112, 121]⟩
  have el2 := el ⟨#[108, 115, 112, 105, 108, 108]⟩
  have el3 := el ⟨#[111, 117, 116]⟩
  have el4 := el ⟨#[103]⟩
  simp only at el1 el2 el3 el4
  rw [el1, el2, el3, el4]
  generalize decide (s = ⟨#[108, 99, 111, 112, 121]⟩) = a
  generalize decide (s = ⟨#[108, 115, 112, 105, 108, 108]⟩) = b
  generalize decide (s = ⟨#[111, 117, 116]⟩) = c
  generalize decide (s = ⟨#[103]⟩) = d
  cases a <;> cases b <;> cases c <;> cases d <;> simp

end Go.Proofs.YtcoeakdpcigogaaDoor
