/-
  The contract of asm.Decode.
-/
import Derived.Test.YtodiijoeeeeicaaDoorAsmDec
import Derived.Test.YtodiijoeeeeicaaDoorAsmRow
namespace Go.Proofs.YtodiijoeeeeicaaDoor
open Go.ChangeShapes Go.WideShapes Go.ChangeAt Go.RowKit Go.Sort

theorem Bytes.push {l : List Ins} {x : Ins} (h : Bytes l) (hx : x.op < 256) : Bytes (l ++ [x]) := fun k y hy => by
  rcases List.mem_append.1 (List.mem_of_getElem? hy) with hm | hm
  · obtain ⟨j, hj⟩ := List.getElem?_of_mem hm
    exact h j y hj
  · rw [List.mem_singleton.1 hm]; exact hx
theorem decI_err {b : List UInt8} {c : Int} (h : decI b = .err c) : c = 3 ∨ c = 4 := by
  unfold decI at h
  split at h
  · cases h; exact .inr rfl
  · split at h
    · cases h; exact .inl rfl
    · split at h
      · cases h; exact .inr rfl
      · split at h
        · cases h
        · cases h; exact .inl rfl
/-- Where the loop stands. -/
def DeR (w wr : World) (u : Value) (b : List UInt8) (n k : Nat) (r : List UInt8) (A : Option Addr) (c : Nat) (acc : List Ins) : Prop :=
  r.length ≤ c ∧ BysAt w A r ∧ WI w.heap.size w wr u acc ∧ acc.length = k ∧ Bytes acc ∧ decN n b [] = decN (n - k) r acc
/-- What Decode hands back. -/
def RetDA (b : List UInt8) (w : World) (e : Ending) (w' : World) : Prop :=
  match decA b with
  | .err c => Below w.heap.size w w' ∧ e = .returned (.tuple #[.slice none 0 0, .int .i64 c])
  | .ok l => ∃ v, e = .returned (.tuple #[v, .int .i64 0]) ∧ WI w.heap.size w w' v l ∧ Bytes l
set_option maxRecDepth 100000 in
set_option maxHeartbeats 4000000 in
theorem decode_any (l : List UInt8) (A : Option Addr) (cap : Nat) (w : World) (hL : BysAt w A l) (hcap : l.length ≤ cap) (hT : Tab w) :
    Calls Tryd.prog 25 #[.slice A l.length cap] w (RetDA l w) := by
  have HT := Lib.hid hT
  have HC := Lib.hid (take_any w l A cap 4 w hL (Below.refl _ _) hcap (by omega) (by omega))
  clear hL hT
  obtain ⟨i0, hi0, hz0, hz1, hz2⟩ := info_parts info_ins
  have HI := Lib.hid (And.intro hi0 (And.intro hz0 (And.intro hz1 hz2)))
  clear hi0 hz0 hz1 hz2
  go_enter Tryd.func25, Tryd.ntmps25
  go_wp2_with fail
  refine HC.out.mono ?_
  rintro e w1 ⟨hb1, he⟩
  by_cases h4 : l.length < 4
  · rw [if_pos h4] at he
    subst he
    go_wp2_with fail
    exact bodyPost_ret (v := .tuple #[.slice none 0 0, .int .i64 4]) (by simp [results, Tryd.results25]) rfl (by unfold RetDA decA; rw [if_pos h4]; exact ⟨hb1, rfl⟩)
  · rw [if_neg h4] at he
    obtain ⟨A1, rfl, hB1⟩ := he
    have hg := getV_small (l := l.take 4) (by rw [List.length_take]; omega)
    have HD := Lib.hid (show decA l = if 65536 < valB (l.take 4) then .err 5 else decN (valB (l.take 4)) (l.drop 4) [] by unfold decA; rw [if_neg h4])
    have hdl : (l.drop 4).length = l.length - 4 := List.length_drop
    rw [hg.1]
    obtain ⟨_, hg1, hg2⟩ := hg
    generalize valB (l.take 4) = n at *
    by_cases hn : 65536 < n
    · have hn' : (65536 : Int) < n := by omega
      go_wp2_with fail
      exact bodyPost_ret (v := .tuple #[.slice none 0 0, .int .i64 5]) (by simp [results, Tryd.results25]) rfl (by unfold RetDA; rw [HD.out, if_pos hn]; exact ⟨hb1, rfl⟩)
    · rw [if_neg hn] at HD
      have H0 := Lib.hid (show DeR w w1 (.slice none 0 0) (l.drop 4) n 0 (l.drop 4) A1 (cap - 4) [] from ⟨by rw [hdl]; omega, hB1, ⟨hb1, World.ownsRow_nil _ _ _ _⟩, rfl, fun k x h => by simp at h, rfl⟩)
      rw [← hdl]
      clear hB1 hb1 HC
      generalize l.drop 4 = b4 at *
      clear hdl h4 hg1 hg2
      have hn' : (n : Int) ≤ 65536 := by omega
      clear hn
      go_wp2_with fail
      go_loopw [0, 6, 21] (fun v u i wr => ∃ (k : Nat) (r : List UInt8) (Ar : Option Addr) (cr : Nat) (acc : List Ins), k ≤ n ∧ i = .int .i64 k ∧ v = .slice Ar r.length cr ∧ Hid (DeR w wr u b4 n k r Ar cr acc)) (fun _ _ i _ => n - (intOf i).toNat)
      case atStart => exact ⟨0, b4, A1, cap - 4, [], by omega, rfl, rfl, H0⟩
      case round =>
        obtain ⟨k, r, Ar, cr, acc, hk, rfl, rfl, hd⟩ := hrel
        by_cases hin : k < n
        · have HDC := Lib.hid (decode1_any r Ar cr w wr hd.out.2.1 hd.out.2.2.1.1 hd.out.1 (HT.out.mono hd.out.2.2.1.1))
          have hWI := Lib.hid hd.out.2.2.1
          have hY := Lib.hid hd.out.2.2.2.2.1
          have hlen := hd.out.2.2.2.1
          have hst : decN n b4 [] = (match decI r with | .err e => .err e | .ok x r' => decN (n - (k + 1)) r' (acc ++ [x])) := by
            rw [hd.out.2.2.2.2.2, show n - k = (n - (k + 1)) + 1 by omega, decN_succ]
            cases decI r <;> rfl
          have hkn : (k : Int) < n := by omega
          clear hd
          go_wp2_with fail
          refine HDC.out.mono ?_
          rintro e w3 ⟨hb3, he⟩
          have hW3 := Lib.hid (hWI.out.below hWI.out.1.size hb3)
          clear hWI hb3 HDC
          cases hI : decI r with
          | err c =>
            rw [hI] at he hst
            have he : e = .returned (.tuple #[zero5, .slice none 0 0, .int .i64 c]) := he
            rw [zero5] at he
            subst he
            have hc := decI_err hI
            have hcn : (c != 0) = true := bne_iff_ne.2 (by omega)
            have HR := Lib.hid (fun (w' : World) (hb : Below w.heap.size w w') => show RetDA l w (.returned (.tuple #[.slice none 0 0, .int .i64 c])) w' from by unfold RetDA; rw [HD.out, hst]; exact ⟨hb, rfl⟩)
            have HB := Lib.hid (below_step hW3.out.1 hW3.out.1.size (below_box w3 (Obj.cells #[.int .u8 0, .int .i64 0, .int .i64 0, .int .i64 0, .int .i64 0] 43)))
            clear hst hI hc
            go_wp2_with fail
            exact bodyPost_ret (v := .tuple #[.slice none 0 0, .int .i64 c]) (by simp [results, Tryd.results25]) rfl (HR.out _ HB.out)
          | ok x r2 =>
            rw [hI] at he hst
            obtain ⟨hop, A3, c3, hl3, he, hB3⟩ := he
            rw [show x.val = .agg #[.int .u8 x.op, .int .i64 x.a, .int .i64 x.b, .int .i64 x.c, .int .i64 x.d] from rfl] at he
            subst he
            have HX := Lib.hid (bx_new w3 #[.int .u8 x.op, .int .i64 x.a, .int .i64 x.b, .int .i64 x.c, .int .i64 x.d] 43)
            have hW5 := Lib.hid (hW3.out.below hW3.out.1.size (below_box w3 (Obj.cells #[.int .u8 x.op, .int .i64 x.a, .int .i64 x.b, .int .i64 x.c, .int .i64 x.d] 43)))
            have HN := Lib.hid (fun (w' : World) (v' : Value) (h : WI w.heap.size w w' v' (acc ++ [x])) => show DeR w w' v' b4 n (k + 1) r2 A3 c3 (acc ++ [x]) from ⟨hl3, hB3, h, by simp [hlen], hY.out.push hop, hst⟩)
            clear hst hI hW3 hB3 hY hop
            go_upto_region 12 with fail
            generalize w3.alloc _ = W5 at HX hW5 ⊢
            obtain ⟨x0, x1, x2, x3, x4, _⟩ := HX.out.five
            have hsz5 := hW5.out.1.size
            have HO := Lib.hid (hW5.out.below hsz5 (below_box W5 (Obj.cells #[.int .u8 x.op, .int .i64 x.a, .int .i64 x.b, .int .i64 x.c, .int .i64 x.d] 43)))
            have hs6 := HO.out.1.size
            go_wp2_with (at_builtin; go_loud (refine wpList_app _ rfl _ _ 22 rfl w.heap.size 43 i0 (.agg #[.int .u8 0, .int .i64 0, .int .i64 0, .int .i64 0, .int .i64 0]) 5 40 Tryd.underlying22 HI.out.1 HI.out.2.1 HI.out.2.2.1 HI.out.2.2.2 rfl (by decide) _ _ _ rfl HO.out.2 (some ⟨W5.heap.size, 0, none⟩) 1 1 [.int .u8 x.op, .int .i64 x.a, .int .i64 x.b, .int .i64 x.c, .int .i64 x.d] rfl rfl (cells_newU W5 rfl _ _) (one_ins x) (by unfold maxLen; omega) (by omega) hs6 ?_; intro v' w6 hown' hgrow _; have NX := Lib.hid (HN.out _ _ (HO.out.push hs6 x hgrow hown')); clear hown' hgrow HO hs6 HN))
            exact ⟨⟨k + 1, r2, A3, c3, acc ++ [x], by omega, by go_num, rfl, NX⟩, by simp [intOf]; omega⟩
        · obtain rfl : k = n := by omega
          have hst : decN k b4 [] = if r = [] then .ok acc else .err 3 := by rw [hd.out.2.2.2.2.2, Nat.sub_self, decN]
          by_cases hr0 : r = []
          · have HR := Lib.hid (show RetDA l w (.returned (.tuple #[u6, .int .i64 0])) wr from by unfold RetDA; rw [HD.out, hst, if_pos hr0]; exact ⟨_, rfl, hd.out.2.2.1, hd.out.2.2.2.2.1⟩)
            rw [show r.length = 0 by rw [hr0]; rfl]
            clear hst hd
            go_wp2_with fail
            exact bodyPost_ret (v := .tuple #[u6, .int .i64 0]) (by simp [results, Tryd.results25]) rfl HR.out
          · have HR := Lib.hid (show RetDA l w (.returned (.tuple #[.slice none 0 0, .int .i64 3])) wr from by unfold RetDA; rw [HD.out, hst, if_neg hr0]; exact ⟨hd.out.2.2.1.1, rfl⟩)
            have hp : (0 : Int) < r.length := by have := List.length_pos_iff.2 hr0; omega
            clear hst hd
            go_wp2_with fail
            exact bodyPost_ret (v := .tuple #[.slice none 0 0, .int .i64 3]) (by simp [results, Tryd.results25]) rfl HR.out

end Go.Proofs.YtodiijoeeeeicaaDoor
