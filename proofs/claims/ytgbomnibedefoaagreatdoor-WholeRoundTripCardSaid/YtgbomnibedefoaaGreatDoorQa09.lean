import Derived.Test.YtgbomnibedefoaaGreatDoorQa03
import Derived.Test.YtgbomnibedefoaaGreatDoorQa08
set_option maxRecDepth 100000
set_option maxHeartbeats 8000000
namespace Go.Proofs.YtgbomnibedefoaaGreatDoor
open Go.ChangeShapes Go.WideShapes Go.ChangeAt Go.RowKit Go.Sort
structure Sg where
 cells:List (List Int)
 inp:List Int
 out:List Int
def ClsAt (w:World) (A:Option Addr) (l:List (List Int)):Prop:=
 ∀ (k:Nat) (c:List Int),l[k]?=some c→∃ b o A' cap',A=some ⟨b,o,none⟩∧w.cell? ⟨b,o+k,none⟩=some (.slice A' c.length cap')∧IntsAt w A' c
theorem ClsAt.mono {w w':World} {A:Option Addr} {l:List (List Int)} (h:ClsAt w A l) (hb:Below w.heap.size w w'):ClsAt w' A l:=fun k c hk=>by
 obtain ⟨b,o,A',cap',e,h1,h2⟩:=h k c hk
 exact ⟨b,o,A',cap',e,blc hb h1,h2.mono hb⟩
theorem ClsAt.at_ {w:World} {A:Option Addr} {l:List (List Int)} (h:ClsAt w A l) {k:Nat} (hk:k<l.length):∃ b o A' cap',A=some ⟨b,o,none⟩∧b<w.heap.size∧w.cell? ⟨b,o+k,none⟩=some (.slice A' l[k].length cap')∧IntsAt w A' l[k]:=by
 obtain ⟨b,o,A',cap',e,h1,h2⟩:=h k l[k] (List.getElem?_eq_getElem hk)
 exact ⟨b,o,A',cap',e,block_lt_of_cell h1,h1,h2⟩
structure SgAt (w:World) (Ac Ai Ao:Option Addr) (S:Sg):Prop where
 c:ClsAt w Ac S.cells
 i:IntsAt w Ai S.inp
 o:IntsAt w Ao S.out
theorem SgAt.mono {w w':World} {Ac Ai Ao:Option Addr} {S:Sg} (h:SgAt w Ac Ai Ao S) (hb:Below w.heap.size w w'):SgAt w' Ac Ai Ao S:=⟨h.c.mono hb,h.i.mono hb,h.o.mono hb⟩
structure SgFit (S:Sg):Prop where
 lc:S.cells.length≤9223372036854775807
 li:S.inp.length≤9223372036854775807
 lo:S.out.length≤9223372036854775807
 c:∀ c∈S.cells,c.length≤9223372036854775807
theorem bne_int (x y:Int):(x != y)=!decide (x=y):=by
 by_cases h:x=y
 ·subst h;simp
 ·rw [decide_eq_false h];simpa using h
theorem eqInts_any (l m:List Int) (hl:l.length≤9223372036854775807) (A B:Option Addr) (c d:Nat) (w:World) (hA:IntsAt w A l) (hB:IntsAt w B m) :
  Calls Tryz.prog 20 #[.slice A l.length c,.slice B m.length d] w fun e w'=>e=.returned (.bool (decide (l=m)))∧Below w.heap.size w w':=by
 have HA:=kp (And.intro hA hB)
 have hne:((l.length:Int) != (m.length:Int))=!decide (l.length=m.length):=by rw [bne,beqD]
 clear hA hB
 by_cases hlm:l.length=m.length
 rotate_left
 ·have HE:=kp (show decide (l=m)=false from decide_eq_false fun e=>hlm (by rw [e]))
  rw [decide_eq_false hlm] at hne
  clear hlm
  go_enter Tryz.func20,Tryz.ntmps20
  go_wp2_with fail
  go_ret
  exact ⟨by rw [HE.out];rfl,Below.refl _ _⟩
 ·rw [decide_eq_true hlm] at hne
  have HL:=kp hlm
  rw [← hlm] at hne ⊢
  clear hlm
  go_enter Tryz.func20,Tryz.ntmps20
  go_wp2_with fail
  go_loopw [13] (fun i wr=>∃ k:Nat,k≤l.length∧i=.int .i64 k∧Hid (Below w.heap.size w wr∧l.take k=m.take k)) (fun i _=>l.length - (intOf i).toNat)
  case atStart=>exact ⟨0,by omega,rfl,kp ⟨Below.refl _ _,rfl⟩⟩
  case round=>
   obtain ⟨k,hk,rfl,HR⟩:=hrel
   by_cases hin:k<l.length
   ·have hin2:k<m.length:=by rw [← HL.out];exact hin
    obtain ⟨b1,o1,rfl,x1⟩:=(HA.out.1.mono HR.out.1).at_ hin
    obtain ⟨b2,o2,rfl,x2⟩:=(HA.out.2.mono HR.out.1).at_ hin2
    have HT:=kp (show l.take (k+1)=l.take k++[l[k]]∧m.take (k+1)=m.take k++[m[k]] from ⟨List.take_succ_eq_append_getElem hin,List.take_succ_eq_append_getElem hin2⟩)
    have HD:=kp (show l[k]≠m[k]→decide (l=m)=false from fun h=>decide_eq_false fun e=>h (by subst e;rfl))
    have hx1:=block_lt_of_cell x1
    have hx2:=block_lt_of_cell x2
    have r0:(0:Int)≤k:=by omega
    have r1:(k:Int)<l.length:=by omega
    generalize l[k]=u at *
    generalize m[k]=v at *
    have hq:=bne_int u v
    clear hin hin2
    by_cases huv:u=v
    ·rw [decide_eq_true huv] at hq
     have HN:=kp (fun n=>show Below w.heap.size w (wr.drewN n)∧l.take (k+1)=m.take (k+1) from ⟨bdn HR.out.1 n,by rw [HT.out.1,HT.out.2,HR.out.2,huv]⟩)
     clear huv
     go_wp2_with fail
     go_quiet (fail)
     go_wp2_with fail
     exact ⟨⟨k+1,by omega,by go_num,kp (HN.out _)⟩,by simp [intOf];omega⟩
    ·rw [decide_eq_false huv] at hq
     have HN:=kp (HD.out huv)
     clear huv
     go_wp2_with fail
     go_quiet (fail)
     go_wp2_with fail
     go_ret
     exact ⟨by rw [HN.out];rfl,bdn HR.out.1 _⟩
   ·obtain rfl:k=l.length:=by omega
    have HN:=kp (show decide (l=m)=true from decide_eq_true (by have h:=HR.out.2;rw [List.take_length,HL.out,List.take_length] at h;exact h))
    go_wp2_with fail
    go_ret
    exact ⟨by rw [HN.out];rfl,HR.out.1⟩
theorem ent_eqInts:EntF 20:=fun _ _=>by kernel_rfl
theorem eqCls_any (l m:List (List Int)) (hl:l.length≤9223372036854775807) (hc:∀ c∈l,c.length≤9223372036854775807) (A B:Option Addr) (c d:Nat) (w:World) (hA:ClsAt w A l) (hB:ClsAt w B m) :
  Calls Tryz.prog 19 #[.slice A l.length c,.slice B m.length d,.func (.func 20) #[] #[]] w fun e w'=>e=.returned (.bool (decide (l=m)))∧Below w.heap.size w w':=by
 have HA:=kp (And.intro hA hB)
 have HC:=kp hc
 have hen:∀ (args:Array Value) (w:World),(callFunc 20 args).run Tryz.prog w=.ok (.enter 20 args) w:=ent_eqInts
 have hne:((l.length:Int) != (m.length:Int))=!decide (l.length=m.length):=by rw [bne,beqD]
 clear hA hB hc
 by_cases hlm:l.length=m.length
 rotate_left
 ·have HE:=kp (show decide (l=m)=false from decide_eq_false fun e=>hlm (by rw [e]))
  rw [decide_eq_false hlm] at hne
  clear hlm
  go_enter Tryz.func19,Tryz.ntmps19
  go_wp2_with fail
  go_ret
  exact ⟨by rw [HE.out];rfl,Below.refl _ _⟩
 ·rw [decide_eq_true hlm] at hne
  have HL:=kp hlm
  rw [← hlm] at hne ⊢
  clear hlm
  go_enter Tryz.func19,Tryz.ntmps19
  go_wp2_with fail
  go_loopw [17] (fun i wr=>∃ k:Nat,k≤l.length∧i=.int .i64 k∧Hid (Below w.heap.size w wr∧l.take k=m.take k)) (fun i _=>l.length - (intOf i).toNat)
  case atStart=>exact ⟨0,by omega,rfl,kp ⟨Below.refl _ _,rfl⟩⟩
  case round=>
   obtain ⟨k,hk,rfl,HR⟩:=hrel
   by_cases hin:k<l.length
   ·have hin2:k<m.length:=by rw [← HL.out];exact hin
    obtain ⟨b1,o1,A1,c1,rfl,hx1,x1,hi1⟩:=(HA.out.1.mono HR.out.1).at_ hin
    obtain ⟨b2,o2,A2,c2,rfl,hx2,x2,hi2⟩:=(HA.out.2.mono HR.out.1).at_ hin2
    have HT:=kp (show l.take (k+1)=l.take k++[l[k]]∧m.take (k+1)=m.take k++[m[k]] from ⟨List.take_succ_eq_append_getElem hin,List.take_succ_eq_append_getElem hin2⟩)
    have HD:=kp (show l[k]≠m[k]→decide (l=m)=false from fun h=>decide_eq_false fun e=>h (by subst e;rfl))
    have HQ:=kp (eqInts_any l[k] m[k] (HC.out _ (List.getElem_mem hin)) A1 A2 c1 c2 wr hi1 hi2)
    have r0:(0:Int)≤k:=by omega
    have r1:(k:Int)<l.length:=by omega
    clear hi1 hi2
    generalize l[k]=u at *
    generalize m[k]=v at *
    clear hin hin2
    by_cases huv:u=v
    ·rw [decide_eq_true huv] at HQ
     have HV:=kp huv
     clear huv
     go_wp2_with fail
     refine HQ.out.mono ?_
     rintro e w1 ⟨rfl,hb⟩
     have HN:=kp (show Below w.heap.size w w1∧l.take (k+1)=m.take (k+1) from ⟨bls HR.out.1 HR.out.1.size hb,by rw [HT.out.1,HT.out.2,HR.out.2,HV.out]⟩)
     clear hb
     go_wp2_with fail
     exact ⟨⟨k+1,by omega,by go_num,HN⟩,by simp [intOf];omega⟩
    ·rw [decide_eq_false huv] at HQ
     have HN:=kp (HD.out huv)
     clear huv
     go_wp2_with fail
     refine HQ.out.mono ?_
     rintro e w1 ⟨rfl,hb⟩
     have HN2:=kp (bls HR.out.1 HR.out.1.size hb)
     clear hb
     go_wp2_with fail
     go_ret
     exact ⟨by rw [HN.out];rfl,HN2.out⟩
   ·obtain rfl:k=l.length:=by omega
    have HN:=kp (show decide (l=m)=true from decide_eq_true (by have h:=HR.out.2;rw [List.take_length,HL.out,List.take_length] at h;exact h))
    go_wp2_with fail
    go_ret
    exact ⟨by rw [HN.out];rfl,HR.out.1⟩
theorem tw2 (w:World) (c1 c2:Array Value) (T1 T2:TypeId):Below w.heap.size w ((w.alloc (Obj.cells c1 T1)).alloc (Obj.cells c2 T2))∧Bx ((w.alloc (Obj.cells c1 T1)).alloc (Obj.cells c2 T2)) w.heap.size c1∧Bx ((w.alloc (Obj.cells c1 T1)).alloc (Obj.cells c2 T2)) (w.heap.size+1) c2:=by
 have hz:(w.alloc (Obj.cells c1 T1)).heap.size=w.heap.size+1:=by simp
 have h1:=blb w (Obj.cells c1 T1)
 have h2:=blb (w.alloc (Obj.cells c1 T1)) (Obj.cells c2 T2)
 refine ⟨bls h1 h1.size h2,(bxn w c1 T1).below h2,?_⟩
 rw [← hz];exact bxn _ c2 T2
def eqSg (a b:Sg):Bool:=decide (a.cells=b.cells)&&decide (a.inp=b.inp)&&decide (a.out=b.out)
theorem stEqual_any (a b:Sg) (hf:SgFit a) (Ac Ai Ao Bc Bi Bo:Option Addr) (c1 c2 c3 d1 d2 d3:Nat) (w:World) (hA:SgAt w Ac Ai Ao a) (hB:SgAt w Bc Bi Bo b) :
  Calls Tryz.prog 9 #[.agg #[.slice Ac a.cells.length c1,.slice Ai a.inp.length c2,.slice Ao a.out.length c3],.agg #[.slice Bc b.cells.length d1,.slice Bi b.inp.length d2,.slice Bo b.out.length d3]] w fun e w'=>e=.returned (.bool (eqSg a b))∧Below w.heap.size w w':=by
 have HE:=kp (show eqSg a b=(decide (a.cells=b.cells)&&decide (a.inp=b.inp)&&decide (a.out=b.out)) from rfl)
 have HF:=kp hf
 have HT:=kp (tw2 w #[.slice Ac a.cells.length c1,.slice Ai a.inp.length c2,.slice Ao a.out.length c3] #[.slice Bc b.cells.length d1,.slice Bi b.inp.length d2,.slice Bo b.out.length d3] 32 32)
 have HAB:=kp (And.intro (hA.mono HT.out.1) (hB.mono HT.out.1))
 clear hA hB hf
 go_enter Tryz.func9,Tryz.ntmps9
 go_upto_region 1 with fail
 generalize (w.alloc _).alloc _=W at HT HAB ⊢
 obtain ⟨a0,a1,a2,_⟩:=HT.out.2.1.three
 obtain ⟨b0,b1,b2,_⟩:=HT.out.2.2.three
 have hla:=HT.out.2.1.lt
 have hlb:=HT.out.2.2.lt
 have HQ:=kp (eqCls_any a.cells b.cells HF.out.lc HF.out.c Ac Bc c1 d1 W HAB.out.1.c HAB.out.2.c)
 generalize decide (a.cells=b.cells)=q1 at *
 cases q1 with
 | false=>
   go_wp2_with fail
   refine HQ.out.mono ?_
   rintro e w1 ⟨rfl,hb⟩
   have HN:=kp (bls HT.out.1 HT.out.1.size hb)
   clear hb a0 a1 a2 b0 b1 b2 hla hlb
   go_wp2_with fail
   go_ret
   exact ⟨by rw [HE.out];rfl,HN.out⟩
 | true=>
 go_wp2_with fail
 refine HQ.out.mono ?_
 rintro e w1 ⟨rfl,hb⟩
 have HB1:=kp (bls HT.out.1 HT.out.1.size hb)
 have HT1:=kp (And.intro (HT.out.2.1.below hb) (HT.out.2.2.below hb))
 have HAB1:=kp (And.intro (HAB.out.1.mono hb) (HAB.out.2.mono hb))
 clear hb a0 a1 a2 b0 b1 b2 hla hlb
 obtain ⟨a0,a1,a2,_⟩:=HT1.out.1.three
 obtain ⟨b0,b1,b2,_⟩:=HT1.out.2.three
 have hla:=HT1.out.1.lt
 have hlb:=HT1.out.2.lt
 have HQ2:=kp (eqInts_any a.inp b.inp HF.out.li Ai Bi c2 d2 w1 HAB1.out.1.i HAB1.out.2.i)
 generalize decide (a.inp=b.inp)=q2 at *
 cases q2 with
 | false=>
   go_wp2_with fail
   refine HQ2.out.mono ?_
   rintro e w2 ⟨rfl,hb⟩
   have HN:=kp (bls HB1.out HB1.out.size hb)
   clear hb a0 a1 a2 b0 b1 b2 hla hlb
   go_wp2_with fail
   go_ret
   exact ⟨by rw [HE.out];rfl,HN.out⟩
 | true=>
 go_wp2_with fail
 refine HQ2.out.mono ?_
 rintro e w2 ⟨rfl,hb⟩
 have HB2:=kp (bls HB1.out HB1.out.size hb)
 have HT2:=kp (And.intro (HT1.out.1.below hb) (HT1.out.2.below hb))
 have HQ3:=kp (eqInts_any a.out b.out HF.out.lo Ao Bo c3 d3 w2 (HAB1.out.1.o.mono hb) (HAB1.out.2.o.mono hb))
 clear hb a0 a1 a2 b0 b1 b2 hla hlb
 obtain ⟨a0,a1,a2,_⟩:=HT2.out.1.three
 obtain ⟨b0,b1,b2,_⟩:=HT2.out.2.three
 have hla:=HT2.out.1.lt
 have hlb:=HT2.out.2.lt
 generalize decide (a.out=b.out)=q3 at *
 go_wp2_with fail
 refine HQ3.out.mono ?_
 rintro e w3 ⟨rfl,hb⟩
 have HN:=kp (bls HB2.out HB2.out.size hb)
 clear hb
 go_wp2_with fail
 go_ret
 exact ⟨by rw [HE.out];rfl,HN.out⟩
def svalB (l:List Vd):Bool:=decide (l.length≤32)&&l.all vdK
def SvlR (w wr:World) (l:List Vd) (k:Nat):Prop:=Below w.heap.size w wr∧(l.take k).all vdK=true
theorem svalid_any (l:List Vd) (hl:l.length≤9223372036854775807) (A:Option Addr) (cap:Nat) (w:World) (hK:VdsAt w A l) :
  Calls Tryz.prog 26 #[.slice A l.length cap] w fun e w'=>e=.returned (.bool (svalB l))∧Below w.heap.size w w':=by
 have HK:=kp hK
 have HE:=kp (show svalB l=(decide (l.length≤32)&&l.all vdK) from rfl)
 clear hK
 by_cases h32:l.length≤32
 rotate_left
 ·rw [decide_eq_false h32,Bool.false_and] at HE
  have r:(32:Int)<l.length:=by omega
  go_enter Tryz.func26,Tryz.ntmps26
  go_wp2_with fail
  go_ret
  exact ⟨by rw [HE.out];rfl,Below.refl _ _⟩
 rw [decide_eq_true h32,Bool.true_and] at HE
 have r32:¬ (32:Int)<l.length:=by omega
 clear h32
 go_enter Tryz.func26,Tryz.ntmps26
 go_wp2_with fail
 go_loopw [10] (fun i wr=>∃ k:Nat,k≤l.length∧i=.int .i64 k∧Hid (SvlR w wr l k)) (fun i _=>l.length - (intOf i).toNat)
 case atStart=>exact ⟨0,by omega,rfl,kp ⟨Below.refl _ _,rfl⟩⟩
 case round=>
  obtain ⟨k,hk,rfl,HR⟩:=hrel
  by_cases hin:k<l.length
  ·obtain ⟨bk,ok,rfl,hbk,k0,k1,k2⟩:=(HK.out.mono HR.out.1).at_ hin
   have HBX:=kp (blb wr (Obj.cells #[.string l[k].name,.int .u8 l[k].kind,.int .i64 l[k].len] 62))
   have HRX:=kp (bxn wr #[.string l[k].name,.int .u8 l[k].kind,.int .i64 l[k].len] 62)
   have HA:=kp (show (l.take (k+1)).all vdK=((l.take k).all vdK&&vdK l[k]) by rw [List.take_succ_eq_append_getElem hin,List.all_append];simp)
   have HZ:=kp (show vdK l[k]=false→l.all vdK=false from fun h=>by rw [List.all_eq_false];exact ⟨l[k],List.getElem_mem hin,by rw [h];decide⟩)
   have r0:(0:Int)≤k:=by omega
   have r1:(k:Int)<l.length:=by omega
   generalize l[k]=v at *
   clear hin
   have HV:=kp (show vdK v=if v.kind=1∨v.kind=3 then decide (v.len=0) else if v.kind=2 then decide (1≤v.len)&&decide (v.len≤16) else false from rfl)
   have q1:((v.kind:Int) == 1)=decide (v.kind=1):=beqD v.kind 1
   have q3:((v.kind:Int) == 3)=decide (v.kind=3):=beqD v.kind 3
   have q2:((v.kind:Int) == 2)=decide (v.kind=2):=beqD v.kind 2
   have qz:(v.len != 0)=!decide (v.len=0):=by rw [bne,beq0]
   go_upto_region 6 with fail
   generalize wr.alloc _=W at HBX HRX ⊢
   obtain ⟨a0,a1,a2,_⟩:=HRX.out.three
   have hlt:=HRX.out.lt
   have HN:=kp (show (vdK v=false→l.all vdK=false)∧(vdK v=true→SvlR w W l (k+1))∧Below w.heap.size w W from
    ⟨HZ.out,fun h=>⟨bls HR.out.1 HR.out.1.size HBX.out,by rw [HA.out,HR.out.2,h];rfl⟩,bls HR.out.1 HR.out.1.size HBX.out⟩)
   by_cases h13:v.kind=1∨v.kind=3
   ·rw [if_pos h13] at HV
    by_cases hz:v.len=0
    ·rw [decide_eq_true hz] at HV qz
     have HG:=kp (HN.out.2.1 HV.out)
     clear hz
     rcases h13 with h | h
     ·rw [decide_eq_true h] at q1
      clear h q2 q3
      go_wp2_with fail
      exact ⟨⟨k+1,by omega,by go_num,HG⟩,by simp [intOf];omega⟩
     ·rw [decide_eq_false (by omega)] at q1
      rw [decide_eq_true h] at q3
      clear h q2
      go_wp2_with fail
      exact ⟨⟨k+1,by omega,by go_num,HG⟩,by simp [intOf];omega⟩
    ·rw [decide_eq_false hz] at HV qz
     have HG:=kp (HN.out.1 HV.out)
     clear hz
     rcases h13 with h | h
     ·rw [decide_eq_true h] at q1
      clear h q2 q3
      go_wp2_with fail
      go_ret
      exact ⟨by rw [HE.out,HG.out];rfl,HN.out.2.2⟩
     ·rw [decide_eq_false (by omega)] at q1
      rw [decide_eq_true h] at q3
      clear h q2
      go_wp2_with fail
      go_ret
      exact ⟨by rw [HE.out,HG.out];rfl,HN.out.2.2⟩
   ·rw [if_neg h13] at HV
    rw [decide_eq_false (fun h=>h13 (.inl h))] at q1
    rw [decide_eq_false (fun h=>h13 (.inr h))] at q3
    clear h13
    by_cases h2:v.kind=2
    ·rw [if_pos h2] at HV
     rw [decide_eq_true h2] at q2
     clear h2 qz
     by_cases hz1:v.len<1
     ·rw [decide_eq_false (by omega),Bool.false_and] at HV
      have HG:=kp (HN.out.1 HV.out)
      go_wp2_with fail
      go_ret
      exact ⟨by rw [HE.out,HG.out];rfl,HN.out.2.2⟩
     ·by_cases hz2:16<v.len
      ·rw [decide_eq_false (by omega:¬ v.len≤16),Bool.and_false] at HV
       have HG:=kp (HN.out.1 HV.out)
       go_wp2_with fail
       go_ret
       exact ⟨by rw [HE.out,HG.out];rfl,HN.out.2.2⟩
      ·rw [decide_eq_true (by omega:1≤v.len),decide_eq_true (by omega:v.len≤16)] at HV
       have HG:=kp (HN.out.2.1 HV.out)
       go_wp2_with fail
       exact ⟨⟨k+1,by omega,by go_num,HG⟩,by simp [intOf];omega⟩
    ·rw [if_neg h2] at HV
     rw [decide_eq_false h2] at q2
     have HG:=kp (HN.out.1 HV.out)
     clear h2 qz
     go_wp2_with fail
     go_ret
     exact ⟨by rw [HE.out,HG.out];rfl,HN.out.2.2⟩
  ·obtain rfl:k=l.length:=by omega
   have HN:=kp (show l.all vdK=true from by have h:=HR.out.2;rw [List.take_length] at h;exact h)
   go_wp2_with fail
   go_ret
   exact ⟨by rw [HE.out,HN.out];rfl,HR.out.1⟩
def fixR (v:Vd):Int:=if v.kind=1 then 1 else v.len
theorem fixed_any (v:Vd) (w:World) :
  Calls Tryz.prog 27 #[.agg #[.string v.name,.int .u8 v.kind,.int .i64 v.len]] w fun e w'=>e=.returned (.int .i64 (fixR v))∧Below w.heap.size w w':=by
 have HB:=kp (blb w (Obj.cells #[.string v.name,.int .u8 v.kind,.int .i64 v.len] 62))
 have q1:((v.kind:Int) == 1)=decide (v.kind=1):=beqD v.kind 1
 by_cases h:v.kind=1
 ·have HE:=kp (show fixR v=1 from if_pos h)
  rw [decide_eq_true h] at q1
  clear h
  go_enter Tryz.func27,Tryz.ntmps27
  go_wp2_with fail
  go_ret
  exact ⟨by rw [HE.out];rfl,HB.out⟩
 ·have HE:=kp (show fixR v=v.len from if_neg h)
  rw [decide_eq_false h] at q1
  clear h
  go_enter Tryz.func27,Tryz.ntmps27
  go_wp2_with fail
  go_ret
  exact ⟨by rw [HE.out];rfl,HB.out⟩
def fitB (v:Vd) (c:List Int):Bool:=if v.kind=3 then decide (c.length≤1000) else decide ((c.length:Int)=fixR v)
def fitsB (vars:List Vd) (S:Sg):Bool:=svalB vars&&decide (S.cells.length=vars.length)&&decide (S.inp.length≤4096)&&decide (S.out.length≤4096)&&(vars.zip S.cells).all fun p=>fitB p.1 p.2
def FitR (W wr:World) (l:List (Vd × List Int)) (k:Nat):Prop:=Below W.heap.size W wr∧((l.take k).all fun p=>fitB p.1 p.2)=true
theorem fits_any (l:List Vd) (S:Sg) (hl:l.length≤9223372036854775807) (hS:SgFit S) (A:Option Addr) (cap:Nat) (Ac Ai Ao:Option Addr) (c1 c2 c3:Nat) (w:World) (hK:VdsAt w A l) (hC:SgAt w Ac Ai Ao S) :
  Calls Tryz.prog 14 #[.slice A l.length cap,.agg #[.slice Ac S.cells.length c1,.slice Ai S.inp.length c2,.slice Ao S.out.length c3]] w fun e w'=>e=.returned (.bool (fitsB l S))∧Below w.heap.size w w':=by
 have HE:=kp (show fitsB l S=(svalB l&&decide (S.cells.length=l.length)&&decide (S.inp.length≤4096)&&decide (S.out.length≤4096)&&(l.zip S.cells).all fun p=>fitB p.1 p.2) from rfl)
 have HB:=kp (blb w (Obj.cells #[.slice Ac S.cells.length c1,.slice Ai S.inp.length c2,.slice Ao S.out.length c3] 32))
 have HR:=kp (bxn w #[.slice Ac S.cells.length c1,.slice Ai S.inp.length c2,.slice Ao S.out.length c3] 32)
 have HK:=kp (And.intro (hK.mono HB.out) (hC.mono HB.out))
 have hF:=hS.c
 have HF:=kp hF
 have n1:=hS.lc
 have n2:=hS.li
 have n3:=hS.lo
 have qc:((S.cells.length:Int) != (l.length:Int))=!decide (S.cells.length=l.length):=by rw [bne,beqD]
 clear hK hC hS hF
 go_enter Tryz.func14,Tryz.ntmps14
 go_upto_region 1 with fail
 generalize w.alloc _=W at HB HR HK ⊢
 obtain ⟨a0,a1,a2,_⟩:=HR.out.three
 have hla:=HR.out.lt
 have HV:=kp (svalid_any l hl A cap W HK.out.1)
 generalize svalB l=q at *
 cases q with
 | false=>
   rw [Bool.false_and,Bool.false_and,Bool.false_and,Bool.false_and] at HE
   go_wp2_with fail
   refine HV.out.mono ?_
   rintro e w1 ⟨rfl,hb⟩
   have HN:=kp (bls HB.out HB.out.size hb)
   clear hb a0 a1 a2 hla
   go_wp2_with fail
   go_ret
   exact ⟨by rw [HE.out];rfl,HN.out⟩
 | true=>
 rw [Bool.true_and] at HE
 go_wp2_with fail
 refine HV.out.mono ?_
 rintro e w1 ⟨rfl,hb⟩
 have HB1:=kp (bls HB.out HB.out.size hb)
 have HR1:=kp (HR.out.below hb)
 have HK1:=kp (And.intro (HK.out.1.mono hb) (HK.out.2.mono hb))
 clear hb a0 a1 a2 hla
 obtain ⟨a0,a1,a2,_⟩:=HR1.out.three
 have hla:=HR1.out.lt
 by_cases hcl:S.cells.length=l.length
 rotate_left
 ·rw [decide_eq_false hcl] at HE qc
  rw [Bool.false_and,Bool.false_and,Bool.false_and] at HE
  clear hcl
  go_wp2_with fail
  go_ret
  exact ⟨by rw [HE.out];rfl,HB1.out⟩
 rw [decide_eq_true hcl] at HE qc
 rw [Bool.true_and] at HE
 have HCL:=kp hcl
 rw [hcl] at a0 qc n1 HR1 HR ⊢
 clear hcl
 by_cases hi4:S.inp.length≤4096
 rotate_left
 ·rw [decide_eq_false hi4] at HE
  rw [Bool.false_and,Bool.false_and] at HE
  have r:(4096:Int)<S.inp.length:=by omega
  go_wp2_with fail
  go_ret
  exact ⟨by rw [HE.out];rfl,HB1.out⟩
 rw [decide_eq_true hi4,Bool.true_and] at HE
 have ri:¬ (4096:Int)<S.inp.length:=by omega
 by_cases ho4:S.out.length≤4096
 rotate_left
 ·rw [decide_eq_false ho4] at HE
  rw [Bool.false_and] at HE
  have r:(4096:Int)<S.out.length:=by omega
  go_wp2_with fail
  go_ret
  exact ⟨by rw [HE.out];rfl,HB1.out⟩
 rw [decide_eq_true ho4,Bool.true_and] at HE
 have ro:¬ (4096:Int)<S.out.length:=by omega
 clear hi4 ho4
 go_wp2_with fail
 go_loopw [32] (fun i wr=>∃ k:Nat,k≤l.length∧i=.int .i64 k∧Hid (FitR w1 wr (l.zip S.cells) k)) (fun i _=>l.length - (intOf i).toNat)
 case atStart=>exact ⟨0,by omega,rfl,kp ⟨Below.refl _ _,rfl⟩⟩
 case round=>
  obtain ⟨k,hk,rfl,HT⟩:=hrel
  have HBr:=kp (bls HB1.out HB1.out.size HT.out.1)
  by_cases hin:k<l.length
  ·have hin2:k<S.cells.length:=by rw [HCL.out];exact hin
   obtain ⟨bk,ok,rfl,hbk,k0,k1,k2⟩:=(HK1.out.1.mono HT.out.1).at_ hin
   obtain ⟨bc,oc,Aj,cj,rfl,hbc,x0,_⟩:=(HK1.out.2.c.mono HT.out.1).at_ hin2
   have HBX:=kp (blb wr (Obj.cells #[.string l[k].name,.int .u8 l[k].kind,.int .i64 l[k].len] 62))
   have HVX:=kp (bxn wr #[.string l[k].name,.int .u8 l[k].kind,.int .i64 l[k].len] 62)
   have hzl:(l.zip S.cells).length=l.length:=by rw [List.length_zip,HCL.out,Nat.min_self]
   have hzk:(l.zip S.cells)[k]'(by rw [hzl];exact hin)=(l[k],S.cells[k]):=List.getElem_zip
   have HA:=kp (show (((l.zip S.cells).take (k+1)).all fun p=>fitB p.1 p.2)=((((l.zip S.cells).take k).all fun p=>fitB p.1 p.2)&&fitB l[k] S.cells[k]) by
    rw [List.take_succ_eq_append_getElem (by rw [hzl];exact hin),List.all_append,hzk];simp)
   have HZ:=kp (show fitB l[k] S.cells[k]=false→((l.zip S.cells).all fun p=>fitB p.1 p.2)=false from fun h=>by
    rw [List.all_eq_false];exact ⟨(l[k],S.cells[k]),by rw [← hzk];exact List.getElem_mem _,by show ¬ fitB l[k] S.cells[k]=true;rw [h];decide⟩)
   have nc:=HF.out _ (List.getElem_mem hin2)
   have r0:(0:Int)≤k:=by omega
   have r1:(k:Int)<l.length:=by omega
   have HRW:=kp (HR1.out.below HT.out.1)
   clear hzk hzl
   generalize S.cells[k]=c at *
   generalize l[k]=v at *
   clear hin hin2
   have HFB:=kp (show fitB v c=if v.kind=3 then decide (c.length≤1000) else decide ((c.length:Int)=fixR v) from rfl)
   have q3:((v.kind:Int) == 3)=decide (v.kind=3):=beqD v.kind 3
   have HX0:=kp x0
   go_upto_region 6 with fail
   generalize wr.alloc _=V at HBX HVX ⊢
   clear a0 a1 a2 hla k0 k1 k2 hbk x0 hbc
   have x0:=blc HBX.out HX0.out
   have hbc:=block_lt_of_cell x0
   obtain ⟨b0,b1,b2,_⟩:=HVX.out.three
   have hlb:=HVX.out.lt
   obtain ⟨a0,a1,a2,_⟩:=(HRW.out.below HBX.out).three
   have hla:=(HRW.out.below HBX.out).lt
   have HBv:=kp (bls HBr.out HBr.out.size HBX.out)
   have HN:=kp (fun (Y:World) (hY:Below V.heap.size V Y)=>show (fitB v c=false→fitsB l S=false)∧(fitB v c=true→FitR w1 Y (l.zip S.cells) (k+1))∧Below w.heap.size w Y from
    ⟨fun h=>by rw [HE.out];exact HZ.out h,fun h=>⟨bls HT.out.1 HT.out.1.size (bls HBX.out HBX.out.size hY),by rw [HA.out,HT.out.2,h];rfl⟩,bls HBv.out HBv.out.size hY⟩)
   by_cases h3:v.kind=3
   ·rw [if_pos h3] at HFB
    rw [decide_eq_true h3] at q3
    clear h3
    by_cases hc:c.length≤1000
    ·rw [decide_eq_true hc] at HFB
     have HG:=kp ((HN.out V (Below.refl _ _)).2.1 HFB.out)
     have rc:¬ (1000:Int)<c.length:=by omega
     clear hc
     go_wp2_with fail
     exact ⟨⟨k+1,by omega,by go_num,HG⟩,by simp [intOf];omega⟩
    ·rw [decide_eq_false hc] at HFB
     have HG:=kp ((HN.out V (Below.refl _ _)).1 HFB.out)
     have rc:(1000:Int)<c.length:=by omega
     clear hc
     go_wp2_with fail
     go_ret
     exact ⟨by rw [HG.out];rfl,HBv.out⟩
   ·rw [if_neg h3] at HFB
    rw [decide_eq_false h3] at q3
    clear h3
    have HFX:=kp (fun Y=>fixed_any v Y)
    generalize fixR v=fx at *
    have qf:=bne_int (c.length:Int) fx
    have KS:=kp (fun (Y:World) (hY:Below V.heap.size V Y)=>show Y.cell? ⟨w.heap.size,0,none⟩=some (.slice (some ⟨bc,oc,none⟩) l.length c1)∧Y.cell? ⟨bc,oc+k,none⟩=some (.slice Aj c.length cj)∧Y.cell? ⟨wr.heap.size,0,none⟩=some (.string v.name)∧Y.cell? ⟨wr.heap.size,1,none⟩=some (.int .u8 v.kind)∧Y.cell? ⟨wr.heap.size,2,none⟩=some (.int .i64 v.len) from ⟨blc hY a0,blc hY x0,blc hY b0,blc hY b1,blc hY b2⟩)
    have HWD:=kp (show V.heap.size≤V.drew.heap.size from (bld (Below.refl V.heap.size V)).size)
    have S0:=kp (KS.out V.drew (bld (Below.refl V.heap.size V)))
    have HC9:=kp (HFX.out V.drew)
    by_cases hc:(c.length:Int)=fx
    ·rw [decide_eq_true hc] at HFB qf
     clear hc
     go_upto_region 9 with fail
     go_region_held3 (fun w'=>w'.cell? ⟨w.heap.size,0,none⟩=some (.slice (some ⟨bc,oc,none⟩) l.length c1)∧w'.cell? ⟨bc,oc+k,none⟩=some (.slice Aj c.length cj)∧w'.cell? ⟨wr.heap.size,0,none⟩=some (.string v.name)∧w'.cell? ⟨wr.heap.size,1,none⟩=some (.int .u8 v.kind)∧w'.cell? ⟨wr.heap.size,2,none⟩=some (.int .i64 v.len)) (first | exact S0.out | exact S9.out) (first
      | (go_simp;go_at_call 27;(with_reducible refine Calls.mono HC9.out ?_);rintro e w9 ⟨rfl,hb9⟩;have HB9:=kp (bls (bld (Below.refl V.heap.size V)) HWD.out hb9);have S9:=kp (KS.out w9 HB9.out);clear hb9;dsimp only)
      | fail)
     all_goals
      have HG:=kp ((HN.out w9 HB9.out).2.1 HFB.out)
      go_wp2_with fail
      exact ⟨⟨k+1,by omega,by go_num,HG⟩,by simp [intOf];omega⟩
    ·rw [decide_eq_false hc] at HFB qf
     clear hc
     go_upto_region 9 with fail
     go_region_held3 (fun w'=>w'.cell? ⟨w.heap.size,0,none⟩=some (.slice (some ⟨bc,oc,none⟩) l.length c1)∧w'.cell? ⟨bc,oc+k,none⟩=some (.slice Aj c.length cj)∧w'.cell? ⟨wr.heap.size,0,none⟩=some (.string v.name)∧w'.cell? ⟨wr.heap.size,1,none⟩=some (.int .u8 v.kind)∧w'.cell? ⟨wr.heap.size,2,none⟩=some (.int .i64 v.len)) (first | exact S0.out | exact S9.out) (first
      | (go_simp;go_at_call 27;(with_reducible refine Calls.mono HC9.out ?_);rintro e w9 ⟨rfl,hb9⟩;have HB9:=kp (bls (bld (Below.refl V.heap.size V)) HWD.out hb9);have S9:=kp (KS.out w9 HB9.out);clear hb9;dsimp only)
      | fail)
     all_goals
      have HG:=kp (And.intro ((HN.out w9 HB9.out).1 HFB.out) (HN.out w9 HB9.out).2.2)
      go_wp2_with fail
      go_ret
      exact ⟨by rw [HG.out.1];rfl,HG.out.2⟩
  ·obtain rfl:k=l.length:=by omega
   have HN:=kp (show fitsB l S=true from by
    have h:=HT.out.2
    rw [List.take_of_length_le (by rw [List.length_zip,HCL.out,Nat.min_self];exact Nat.le_refl _)] at h
    rw [HE.out,h])
   go_wp2_with fail
   go_ret
   exact ⟨by rw [HN.out];rfl,HBr.out⟩
theorem Great17_any (P:Pg) (hf:PgFit P) (S:Sg) (hS:SgFit S) (Av Ap Am Ac Ai Ao:Option Addr) (cv cp cm c1 c2 c3:Nat) (w:World) (hK:PgAt w Av Ap Am P) (hC:SgAt w Ac Ai Ao S) :
  Calls Tryz.prog 12 #[.agg (pgC P Av Ap Am cv cp cm),.agg #[.slice Ac S.cells.length c1,.slice Ai S.inp.length c2,.slice Ao S.out.length c3]] w (SomeI w):=by
 have HT:=kp (tw2 w (pgC P Av Ap Am cv cp cm) #[.slice Ac S.cells.length c1,.slice Ai S.inp.length c2,.slice Ao S.out.length c3] 28 32)
 have HK:=kp (And.intro (hK.mono HT.out.1) (hC.mono HT.out.1))
 have HF:=kp hf
 have HS:=kp hS.c
 have n1:=hS.lc
 have n2:=hS.li
 have n3:=hS.lo
 clear hK hC hf hS
 go_enter Tryz.func12,Tryz.ntmps12
 go_upto_region 1 with fail
 generalize (w.alloc _).alloc _=W at HT HK ⊢
 obtain ⟨a0,a1,a2,a3,a4,a5⟩:=HT.out.2.1.six1
 obtain ⟨b0,b1,b2,_⟩:=HT.out.2.2.three
 have hla:=HT.out.2.1.lt
 have hlb:=HT.out.2.2.lt
 by_cases h1:(40:Int)<S.cells.length
 ·go_wp2_with fail
  go_ret
  exact ⟨.inr rfl,HT.out.1⟩
 by_cases h2:(40:Int)<S.inp.length
 ·go_wp2_with fail
  go_ret
  exact ⟨.inr rfl,HT.out.1⟩
 by_cases h3:(40:Int)<S.out.length
 ·go_wp2_with fail
  go_ret
  exact ⟨.inr rfl,HT.out.1⟩
 go_wp2_with fail
 go_loopw [26] (fun i wr=>∃ k:Nat,k≤S.cells.length∧i=.int .i64 k∧W=wr) (fun i _=>S.cells.length - (intOf i).toNat)
 case atStart=>exact ⟨0,by omega,rfl,rfl⟩
 case round=>
  obtain ⟨k,hk,rfl,rfl⟩:=hrel
  by_cases hin:k<S.cells.length
  ·obtain ⟨bc,oc,Aj,cj,rfl,hbc,x0,_⟩:=HK.out.2.c.at_ hin
   have nc:=HS.out _ (List.getElem_mem hin)
   have r0:(0:Int)≤k:=by omega
   have r1:(k:Int)<S.cells.length:=by omega
   generalize S.cells[k]=c at *
   clear hin
   by_cases hc:(40:Int)<c.length
   ·go_wp2_with fail
    go_ret
    exact ⟨.inr rfl,HT.out.1⟩
   ·go_wp2_with fail
    exact ⟨⟨k+1,by omega,by go_num,trivial⟩,by simp [intOf];omega⟩
  ·obtain rfl:k=S.cells.length:=by omega
   have HG:=kp (Great05_any P HF.out Av Ap Am cv cp cm W HK.out.1)
   go_wp2_with fail
   refine HG.out.mono ?_
   rintro e w1 ⟨he,hb⟩
   have HN:=kp (bls HT.out.1 HT.out.1.size hb)
   clear hb
   rcases he with rfl | rfl
   ·go_wp2_with fail
    go_ret
    exact ⟨.inl rfl,HN.out⟩
   ·go_wp2_with fail
    go_ret
    exact ⟨.inr rfl,HN.out⟩
theorem findV_take {l:List Vd} {k:Nat} (h:k<l.length) (s:ByteArray):findV (l.take (k+1)) s=if l[k].name=s then some l[k] else findV (l.take k) s:=by
 unfold findV
 rw [List.take_succ_eq_append_getElem h,List.reverse_append]
 show List.find? _ (l[k]::(l.take k).reverse)=_
 by_cases e:l[k].name=s
 ·rw [if_pos e,List.find?_cons_of_pos (by simpa using e)]
 ·rw [if_neg e,List.find?_cons_of_neg (by simpa using e)]
def vdVal (o:Option Vd):Value:=match o with
 | some v=>.agg #[.string v.name,.int .u8 v.kind,.int .i64 v.len]
 | none=>.agg #[.string ⟨#[]⟩,.int .u8 0,.int .i64 0]
def FndP (o:Option Vd) (w:World) (e:Ending) (w':World):Prop:=e=.returned (.tuple #[vdVal o,.bool o.isSome])∧Below w.heap.size w w'
theorem box3_set {w W:World} (hB:Below w.heap.size w W) {u0 u1 u2:Value} (h:Bx W w.heap.size #[u0,u1,u2]) (v0 v1 v2:Value):Bx (((W.setCell ⟨w.heap.size,0,none⟩ v0).setCell ⟨w.heap.size,1,none⟩ v1).setCell ⟨w.heap.size,2,none⟩ v2) w.heap.size #[v0,v1,v2]∧Below w.heap.size w (((W.setCell ⟨w.heap.size,0,none⟩ v0).setCell ⟨w.heap.size,1,none⟩ v1).setCell ⟨w.heap.size,2,none⟩ v2):=
 ⟨h.set3 v0 v1 v2,(Fr.set3 W w.heap.size v0 v1 v2).toBelow hB hB.size fun k e=>by rw [e];exact Nat.le_refl _⟩
theorem find_any (l:List Vd) (hl:l.length≤9223372036854775807) (s:ByteArray) (A:Option Addr) (cap:Nat) (w:World) (hK:VdsAt w A l) :
  Calls Tryz.prog 83 #[.slice A l.length cap,.string s] w (FndP (findV l s) w):=by
 have HB:=kp (blb w (Obj.cells #[.string ⟨#[]⟩,.int .u8 0,.int .i64 0] 62))
 have HR:=kp (bxn w #[.string ⟨#[]⟩,.int .u8 0,.int .i64 0] 62)
 have HK:=kp (hK.mono HB.out)
 clear hK
 go_enter Tryz.func83,Tryz.ntmps83
 go_upto_region 1 with fail
 generalize w.alloc _=W at HB HR HK ⊢
 obtain ⟨a0,a1,a2,f0,f1,f2⟩:=HR.out.three
 have hla:=HR.out.lt
 go_wp2_with fail
 go_loopw [6] (fun i wr=>∃ k:Nat,k≤l.length∧i=.int .i64 ((k:Int) - 1)∧W=wr∧Hid (findV l s=findV (l.take k) s)) (fun i _=>(intOf i+1).toNat)
 case atStart=>exact ⟨l.length,by omega,by go_num,rfl,kp (by rw [List.take_length])⟩
 case round=>
  obtain ⟨k1,hk,rfl,rfl,HS⟩:=hrel
  by_cases hk0:k1=0
  ·subst hk0
   have HE:=kp (show findV l s=none by rw [HS.out];rfl)
   rw [show (((0:Nat):Int) - 1)=-1 by omega]
   go_wp2_with fail
   have H3:=kp (box3_set HB.out HR.out (.string ⟨#[]⟩) (.int .u8 0) (.int .i64 0))
   clear a0 a1 a2 f0 f1 f2 hla
   generalize ((W.setCell _ _).setCell _ _).setCell _ _=W3 at H3 ⊢
   obtain ⟨g0,g1,g2,_⟩:=H3.out.1.three
   rw [HE.out]
   exact bodyPost_ret (v:=.tuple #[vdVal none,.bool false]) (by simp [results,Tryz.results83,go_sem,g0,g1,g2,vdVal]) rfl ⟨rfl,H3.out.2⟩
  ·obtain ⟨k,rfl⟩:∃ k,k1=k+1:=⟨k1 - 1,by omega⟩
   have hin:k<l.length:=by omega
   obtain ⟨bk,ok,rfl,hbk,k0,k1,k2⟩:=HK.out.at_ hin
   have HT:=kp (findV_take hin s)
   have hq:(l[k].name.toList == s.toList)=decide (l[k].name=s):=eqS_eq _ _
   have r0:(0:Int)≤k:=by omega
   have r1:(k:Int)<l.length:=by omega
   have hki:(((k+1:Nat):Int) - 1)=(k:Int):=by omega
   rw [hki]
   generalize l[k]=v at *
   clear hin
   by_cases hv:v.name=s
   ·rw [decide_eq_true hv] at hq
    have HE:=kp (show findV l s=some v by rw [HS.out,HT.out,if_pos hv])
    clear hv
    go_wp2_with fail
    have H3:=kp (box3_set HB.out HR.out (.string v.name) (.int .u8 v.kind) (.int .i64 v.len))
    clear a0 a1 a2 f0 f1 f2 hla k0 k1 k2
    generalize ((W.setCell _ _).setCell _ _).setCell _ _=W3 at H3 ⊢
    obtain ⟨g0,g1,g2,_⟩:=H3.out.1.three
    rw [HE.out]
    exact bodyPost_ret (v:=.tuple #[vdVal (some v),.bool true]) (by simp [results,Tryz.results83,go_sem,g0,g1,g2,vdVal]) rfl ⟨rfl,H3.out.2⟩
   ·rw [decide_eq_false hv] at hq
    have HE:=kp (show findV l s=findV (l.take k) s by rw [HS.out,HT.out,if_neg hv])
    clear hv
    go_wp2_with fail
    exact ⟨⟨k,by omega,by go_num,trivial,HE⟩,by simp [intOf]⟩
def freshR (l:List Vd) (s:ByteArray):Int:=if (findV l s).isSome then 22 else 0
theorem fresh_any (l:List Vd) (hl:l.length≤9223372036854775807) (s:ByteArray) (A:Option Addr) (cap:Nat) (w:World) (hK:VdsAt w A l) :
  Calls Tryz.prog 53 #[.slice A l.length cap,.string s] w fun e w'=>e=.returned (.int .i64 (freshR l s))∧Below w.heap.size w w':=by
 have HF:=kp (find_any l hl s A cap w hK)
 have HE:=kp (show freshR l s=if (findV l s).isSome then 22 else 0 from rfl)
 generalize findV l s=o at *
 clear hK
 cases o with
 | none=>
   go_enter Tryz.func53,Tryz.ntmps53
   go_wp2_with fail
   refine HF.out.mono ?_
   rintro e w1 ⟨rfl,hb⟩
   unfold vdVal
   have HN:=kp (bls hb hb.size (blb w1 (Obj.cells #[.string ⟨#[]⟩,.int .u8 0,.int .i64 0] 62)))
   clear hb
   go_wp2_with fail
   go_ret
   exact ⟨by rw [HE.out];rfl,HN.out⟩
 | some v=>
   go_enter Tryz.func53,Tryz.ntmps53
   go_wp2_with fail
   refine HF.out.mono ?_
   rintro e w1 ⟨rfl,hb⟩
   unfold vdVal
   have HN:=kp (bls hb hb.size (blb w1 (Obj.cells #[.string v.name,.int .u8 v.kind,.int .i64 v.len] 62)))
   clear hb
   go_wp2_with fail
   go_ret
   exact ⟨by rw [HE.out];rfl,HN.out⟩
def useR (l:List Vd) (s:ByteArray) (k:Nat):Int:=match findV l s with | none=>6 | some v=>if v.kind=k then 0 else 7
theorem use_any (l:List Vd) (hl:l.length≤9223372036854775807) (s:ByteArray) (kd:Nat) (A:Option Addr) (cap:Nat) (w:World) (hK:VdsAt w A l) :
  Calls Tryz.prog 118 #[.slice A l.length cap,.string s,.int .u8 kd] w fun e w'=>e=.returned (.int .i64 (useR l s kd))∧Below w.heap.size w w':=by
 have HF:=kp (find_any l hl s A cap w hK)
 have HE:=kp (show useR l s kd=match findV l s with | none=>6 | some v=>if v.kind=kd then 0 else 7 from rfl)
 generalize findV l s=o at *
 clear hK
 cases o with
 | none=>
   go_enter Tryz.func118,Tryz.ntmps118
   go_wp2_with fail
   refine HF.out.mono ?_
   rintro e w1 ⟨rfl,hb⟩
   unfold vdVal
   have HN:=kp (bls hb hb.size (blb w1 (Obj.cells #[.string ⟨#[]⟩,.int .u8 0,.int .i64 0] 62)))
   clear hb
   go_wp2_with fail
   go_ret
   exact ⟨by rw [HE.out];rfl,HN.out⟩
 | some v=>
   have hq:((v.kind:Int) != (kd:Int))=!decide (v.kind=kd):=by rw [bne,beqD]
   have HE2:=kp (show useR l s kd=if v.kind=kd then 0 else 7 from HE.out)
   clear HE
   go_enter Tryz.func118,Tryz.ntmps118
   go_wp2_with fail
   refine HF.out.mono ?_
   rintro e w1 ⟨rfl,hb⟩
   unfold vdVal
   have HBX:=kp (blb w1 (Obj.cells #[.string v.name,.int .u8 v.kind,.int .i64 v.len] 62))
   have HRX:=kp (bxn w1 #[.string v.name,.int .u8 v.kind,.int .i64 v.len] 62)
   have HN:=kp (bls hb hb.size HBX.out)
   clear hb
   go_upto_region 2 with fail
   generalize w1.alloc _=W at HBX HRX HN ⊢
   obtain ⟨a0,a1,a2,_⟩:=HRX.out.three
   have hla:=HRX.out.lt
   by_cases hk:v.kind=kd
   ·rw [if_pos hk] at HE2
    rw [decide_eq_true hk] at hq
    clear hk
    go_wp2_with fail
    go_ret
    exact ⟨by rw [HE2.out];rfl,HN.out⟩
   ·rw [if_neg hk] at HE2
    rw [decide_eq_false hk] at hq
    clear hk
    go_wp2_with fail
    go_ret
    exact ⟨by rw [HE2.out];rfl,HN.out⟩
def pidx (s:ByteArray):List Pc→Nat→Int
 | [],_=>-1
 | p::r,k=>if p.name=s then (k:Int) else pidx s r (k+1)
theorem pidx_drop {l:List Pc} {k:Nat} (h:k<l.length) (s:ByteArray):pidx s (l.drop k) k=if l[k].name=s then (k:Int) else pidx s (l.drop (k+1)) (k+1):=by
 rw [List.drop_eq_getElem_cons h,pidx]
theorem pidx_cases (s:ByteArray):∀ (l:List Pc) (k:Nat),(pidx s l k=-1∧procT l s=none)∨∃ (i:Nat) (p:Pc),pidx s l k=((k+i:Nat):Int)∧l[i]?=some p∧procT l s=some p∧p.name=s
 | [],_=>.inl ⟨rfl,rfl⟩
 | p::r,k=>by
   by_cases h:p.name=s
   ·refine .inr ⟨0,p,by rw [pidx,if_pos h,Nat.add_zero],rfl,?_,h⟩
    unfold procT;rw [List.find?_cons_of_pos (by simpa using h)]
   ·have e:procT (p::r) s=procT r s:=by unfold procT;rw [List.find?_cons_of_neg (by simpa using h)]
    rcases pidx_cases s r (k+1) with ⟨h1,h2⟩ | ⟨i,q,h1,h2,h3,h4⟩
    ·exact .inl ⟨by rw [pidx,if_neg h];exact h1,by rw [e];exact h2⟩
    ·exact .inr ⟨i+1,q,by rw [pidx,if_neg h,h1];congr 1;omega,by simpa using h2,by rw [e];exact h3,h4⟩
theorem proc1_any (p:Pc) (s:ByteArray) (Aq:Option Addr) (cq:Nat) (Ak:Option Addr) (ck:Nat) (B:Nat) (w:World) (hB:w.cell? ⟨B,0,none⟩=some (.string s)) :
  Calls Tryz.prog 85 #[.agg #[.string p.name,.slice Aq p.params.length cq,.int .u8 p.body.kind,.int .i64 p.body.num,.string p.body.name,.slice Ak p.body.kids.length ck],.pointer (some ⟨B,0,none⟩)] w fun e w'=>e=.returned (.bool (decide (p.name=s)))∧Below w.heap.size w w':=by
 have HBX:=kp (blb w (Obj.cells #[.string p.name,.slice Aq p.params.length cq,.int .u8 p.body.kind,.int .i64 p.body.num,.string p.body.name,.slice Ak p.body.kids.length ck] 91))
 have HPX:=kp (bxn w #[.string p.name,.slice Aq p.params.length cq,.int .u8 p.body.kind,.int .i64 p.body.num,.string p.body.name,.slice Ak p.body.kids.length ck] 91)
 have HC:=kp (blc HBX.out hB)
 have hq:(p.name.toList == s.toList)=decide (p.name=s):=eqS_eq _ _
 clear hB
 generalize decide (p.name=s)=b at *
 go_enter Tryz.func85,Tryz.ntmps85
 go_upto_region 1 with fail
 generalize w.alloc _=W at HBX HPX HC ⊢
 obtain ⟨p0,p1,p2,p3,p4,p5⟩:=HPX.out.six1
 have hlv:=HPX.out.lt
 have hc:=HC.out
 have hlc:B<W.heap.size:=block_lt_of_cell hc
 go_wp2_with fail
 go_ret
 exact ⟨rfl,HBX.out⟩
theorem idxProc_any (l:List Pc) (hl:l.length≤9223372036854775807) (s:ByteArray) (A:Option Addr) (cap B:Nat) (w:World) (hK:PcsAt w A l) (hB:w.cell? ⟨B,0,none⟩=some (.string s)) :
  Calls Tryz.prog 84 #[.slice A l.length cap,.func (.func 85) #[] #[.pointer (some ⟨B,0,none⟩)]] w fun e w'=>e=.returned (.int .i64 (pidx s l 0))∧Below w.heap.size w w':=by
 have HK:=kp (And.intro hK hB)
 clear hK hB
 go_enter Tryz.func84,Tryz.ntmps84
 go_wp2_with fail
 go_loopw [8] (fun i wr=>∃ k:Nat,k≤l.length∧i=.int .i64 k∧Hid (Below w.heap.size w wr∧pidx s l 0=pidx s (l.drop k) k)) (fun i _=>l.length - (intOf i).toNat)
 case atStart=>exact ⟨0,by omega,rfl,kp ⟨Below.refl _ _,rfl⟩⟩
 case round=>
  obtain ⟨k,hk,rfl,HR⟩:=hrel
  by_cases hin:k<l.length
  ·obtain ⟨b,o,Aq,cq,Ak,ck,rfl,hlb,c0,c1,c2,c3,c4,c5,hvs,hns⟩:=(HK.out.1.mono HR.out.1).at_ hin
   have HC:=kp (proc1_any l[k] s Aq cq Ak ck B wr (blc HR.out.1 HK.out.2))
   have HD:=kp (pidx_drop hin s)
   have r0:(0:Int)≤k:=by omega
   have r1:(k:Int)<l.length:=by omega
   clear hvs hns
   generalize l[k]=p at *
   clear hin
   by_cases hp:p.name=s
   ·rw [decide_eq_true hp] at HC
    have HE:=kp (show pidx s l 0=(k:Int) by rw [HR.out.2,HD.out,if_pos hp])
    clear hp
    go_wp2_with fail
    refine HC.out.mono ?_
    rintro e w1 ⟨rfl,hb⟩
    have HN:=kp (bls HR.out.1 HR.out.1.size hb)
    clear hb
    go_wp2_with fail
    go_ret
    exact ⟨by rw [HE.out];rfl,HN.out⟩
   ·rw [decide_eq_false hp] at HC
    have HE:=kp (show pidx s l 0=pidx s (l.drop (k+1)) (k+1) by rw [HR.out.2,HD.out,if_neg hp])
    clear hp
    go_wp2_with fail
    refine HC.out.mono ?_
    rintro e w1 ⟨rfl,hb⟩
    have HN:=kp (And.intro (bls HR.out.1 HR.out.1.size hb) HE.out)
    clear hb
    go_wp2_with fail
    exact ⟨⟨k+1,by omega,by go_num,HN⟩,by simp [intOf];omega⟩
  ·obtain rfl:k=l.length:=by omega
   have HE:=kp (show pidx s l 0=-1 by rw [HR.out.2,List.drop_length];rfl)
   go_wp2_with fail
   go_ret
   exact ⟨by rw [HE.out];rfl,HR.out.1⟩
theorem sproc_any (P:Pg) (hl:P.procs.length≤9223372036854775807) (s:ByteArray) (Av Ap Am:Option Addr) (cv cp cm:Nat) (w:World) (hK:PcsAt w Ap P.procs) :
  Calls Tryz.prog 54 #[.agg (pgC P Av Ap Am cv cp cm),.string s] w fun e w'=>e=.returned (.int .i64 (pidx s P.procs 0))∧Below w.heap.size w w':=by
 have HT:=kp (tw2 w (pgC P Av Ap Am cv cp cm) #[.string s] 28 9)
 have HK:=kp (hK.mono HT.out.1)
 clear hK
 have hmf:∀ (fn:Fn) (first cap:Array Value) (w:World),(Instr.makeFunc fn first cap).run Tryz.prog w=.ok (.func fn first cap) w:=fun _ _ _ _=>rfl
 go_enter Tryz.func54,Tryz.ntmps54
 go_upto_region 1 with fail
 generalize (w.alloc _).alloc _=W at HT HK ⊢
 obtain ⟨a0,a1,a2,a3,a4,a5⟩:=HT.out.2.1.six1
 have hla:=HT.out.2.1.lt
 have HC:=kp (idxProc_any P.procs hl s Ap cp (w.heap.size+1) W HK.out (HT.out.2.2.one.1))
 go_wp2_with fail
 refine HC.out.mono ?_
 rintro e w1 ⟨rfl,hb⟩
 have HN:=kp (bls HT.out.1 HT.out.1.size hb)
 clear hb
 go_wp2_with fail
 go_ret
 exact ⟨rfl,HN.out⟩
end Go.Proofs.YtgbomnibedefoaaGreatDoor
