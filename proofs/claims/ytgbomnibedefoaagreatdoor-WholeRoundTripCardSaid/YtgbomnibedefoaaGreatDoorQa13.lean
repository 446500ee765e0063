import Derived.Lib.AppendIntMem
import Derived.Test.YtgbomnibedefoaaGreatDoorQa12
set_option maxRecDepth 100000
set_option maxHeartbeats 8000000
namespace Go.Proofs.YtgbomnibedefoaaGreatDoor
open Go.ChangeShapes Go.WideShapes Go.ChangeAt Go.RowKit Go.Sort
def ClnP (l:List Int) (w:World) (e:Ending) (w':World):Prop:=∃ v,e=.returned v∧w'.ownsRow w.heap.size 3 1 v l.length (l.map (Value.int .i64))∧Below w.heap.size w w'
theorem cla (l:List Int) (hl:l.length≤1000000) (A:Option Addr) (cap:Nat) (w:World) (hA:IntsAt w A l) :
  Calls Tryz.prog 52 #[.slice A l.length cap] w (ClnP l w):=by
 obtain ⟨i0,hi0,hz0,hz1,hz2⟩:=info_parts info_int
 have HI:=kp (And.intro hi0 (And.intro hz0 (And.intro hz1 hz2)))
 clear hi0 hz0 hz1 hz2
 cases A with
 | none=>
   have h0:l=[]:=by
    cases l with
    | nil=>rfl
    | cons x r=>obtain ⟨b,o,e,_⟩:=hA 0 x rfl;cases e
   subst h0
   clear hA
   have hnil:=fun (w:World) (n c n' c':Nat)=>Lib.run_eql_slice_nil (P:=Tryz.prog) w 30 3 none n c n' c' Tryz.underlying30
   simp only [Option.isNone_none] at hnil
   go_enter Tryz.func52,Tryz.ntmps52
   go_wp2_with fail
   go_ret
   exact ⟨_,rfl,⟨rfl,.inl ⟨rfl,rfl⟩⟩,Below.refl _ _⟩
 | some a=>
   have HB:=kp (blb w (Obj.cells #[] 3))
   have HA:=kp ((hA.mono HB.out).cells)
   have HO:=kp (own_emptyU (W:=w) (B:=w.heap.size) (C:=w.heap.size) rfl (Nat.le_refl _) 3 (size:=1))
   clear hA
   have hnil:=fun (w:World) (n c n' c':Nat)=>Lib.run_eql_slice_nil (P:=Tryz.prog) w 30 3 (some a) n c n' c' Tryz.underlying30
   simp only [Option.isNone_some] at hnil
   go_enter Tryz.func52,Tryz.ntmps52
   go_wp2_with (at_builtin;go_loud (refine wpList_app _ rfl _ _ 30 rfl w.heap.size 3 i0 (.int .i64 0) 1 8 Tryz.underlying30 HI.out.1 HI.out.2.1 HI.out.2.2.1 HI.out.2.2.2 rfl (by decide) (.slice (some ⟨w.heap.size,0,none⟩) 0 0) 0 [] rfl HO.out (some a) l.length cap (l.map (Value.int .i64)) rfl (by rw [List.length_map,Nat.mul_one]) HA.out (ints_one l) (by unfold maxLen;omega) (by omega) (by simp) ?_;intro v' w9 hown' hgrow hat))
   have HN:=kp (show ClnP l w (.returned v') w9 from ⟨v',rfl,by simpa using hown',(Fr.of_grown hgrow).toBelow HB.out HB.out.size fun k e=>by cases e;exact Nat.le_refl _⟩)
   clear hown' hgrow hat
   go_ret
   exact HN.out
theorem ints_own_ok {w:World} {base:Nat} {e:TypeId} {v:Value} {l:List Int} (h:w.ownsRow base e 1 v l.length (l.map (Value.int .i64))):∃ A c,v=.slice A l.length c∧IntsAt w A l∧SlOk A l.length c:=by
 obtain ⟨A,c,rfl,h1⟩:=ints_of_own h
 refine ⟨A,c,rfl,h1,?_⟩
 obtain ⟨A',c',e1,h2,_⟩:=ofb h
 cases e1
 refine ⟨h2,fun e=>?_⟩
 subst e
 rcases id h.2 with ⟨e2,_⟩ | ⟨g,cap,cur,e2,_⟩
 ·injection e2
 ·cases e2
def IntP (l:List Int) (w:World) (e:Ending) (w':World):Prop:=∃ A c,e=.returned (.slice A l.length c)∧IntsAt w' A l∧SlOk A l.length c∧Below w.heap.size w w'∧∀ b o,A=some ⟨b,o,none⟩→w.heap.size≤b
theorem IntsAt.addr {w:World} {A:Option Addr} {l:List Int} (h:IntsAt w A l):∀ b,A=some b→∀ (j:Nat) (u:Value),(l.map (Value.int .i64))[j]?=some u→w.cell? (b.add j)=some u:=fun b hb j u hj=>by
 subst hb
 exact cells_hc h.cells j u hj
theorem child_any (l:List Int) (i:Int) (hl:l.length≤1000000) (A:Option Addr) (cap:Nat) (w:World) (hA:IntsAt w A l) (hS:SlOk A l.length cap) :
  Calls Tryz.prog 87 #[.slice A l.length cap,.int .i64 i] w (IntP (l++[i]) w):=by
 obtain ⟨i0,hi0,hz0,hz1,hz2⟩:=info_parts info_int
 have HI:=kp (And.intro hi0 (And.intro hz0 (And.intro hz1 hz2)))
 clear hi0 hz0 hz1 hz2
 have HB:=kp (blb w (Obj.cells #[.int .i64 i] 3))
 have HA:=kp (hA.mono HB.out)
 have HC:=kp (clipI_any A l.length cap w hS)
 have HN:=kp (cnu w rfl [.int .i64 i] 3)
 have HS:=kp hS
 clear hA hS
 go_enter Tryz.func87,Tryz.ntmps87
 go_wp2_with fail
 refine HC.out.mono ?_
 rintro e w1 ⟨rfl,rfl⟩
 go_wp2_with (at_builtin;go_loud (refine wpList_append_grows _ rfl _ _ 30 rfl 3 i0 (.int .i64 0) 1 8 Tryz.underlying30 HI.out.1 HI.out.2.1 HI.out.2.2.1 HI.out.2.2.2 rfl (by decide) A l.length l.length (l.map (Value.int .i64)) rfl (fun e=>⟨HS.out.full e,HS.out.full e⟩) (by rw [List.length_map,Nat.mul_one]) (IntsAt.addr HA.out) ⟨w.heap.size,0,none⟩ 1 1 [.int .i64 i] rfl rfl (cells_hc HN.out) (one_i64 i) (by omega) (by unfold maxLen;omega) (by omega) ?_;intro v' w9 hown hgrow))
 have h2:w9.ownsRow (w.alloc (Obj.cells #[.int .i64 i] 3)).heap.size 3 1 v' (l++[i]).length ((l++[i]).map (Value.int .i64)):=by rw [List.map_append,List.length_append];exact hown
 obtain ⟨A9,c9,rfl,h3,h4⟩:=ints_own_ok h2
 have hge:∀ b o,A9=some ⟨b,o,none⟩→w.heap.size≤b:=fun b o e=>by subst e;have:=obg h2 b rfl;simp at this;omega
 have HZ:=kp (show IntP (l++[i]) w (.returned (.slice A9 (l++[i]).length c9)) w9 from ⟨A9,c9,rfl,h3,h4,(Fr.of_grown hgrow).toBelow HB.out HB.out.size (fun k e=>by cases e),hge⟩)
 clear hge h2 h3 h4 hown hgrow
 go_ret
 exact HZ.out
end Go.Proofs.YtgbomnibedefoaaGreatDoor
