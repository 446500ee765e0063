import Derived.Test.YtgbomnibedefoaaGreatDoorQa09
set_option maxRecDepth 100000
set_option maxHeartbeats 8000000
namespace Go.Proofs.YtgbomnibedefoaaGreatDoor
open Go.ChangeShapes Go.WideShapes Go.ChangeAt Go.RowKit Go.Sort
def callR (P:Pg) (n:Nd):Int:=match procT P.procs n.name with | none=>6 | some q=>if n.kids.length=q.params.length then 0 else 7
def fltR (P:Pg) (n:Nd) (vis:List Vd):Int:=
 if n.kind=2 then useR vis n.name 1
 else if n.kind=3 then useR vis n.name 2
 else if n.kind=4∨n.kind=5∨n.kind=44∨n.kind=45 then useR vis n.name 3
 else if n.kind=54∨n.kind=55 then freshR vis n.name
 else if n.kind=50∨n.kind=51 then callR P n
 else 0
def FltC (P:Pg) (n:Nd):Prop:=∀ (vis:List Vd),vis.length≤9223372036854775807→∀ (Av Ap Am Ak Ae:Option Addr) (cv cp cm ck ce:Nat) (w:World),PcsAt w Ap P.procs→VdsAt w Ae vis→
    Calls Tryz.prog 86 #[.agg (pgC P Av Ap Am cv cp cm),.agg (ndC n Ak ck),.slice Ae vis.length ce] w fun e w'=>e=.returned (.int .i64 (fltR P n vis))∧Below w.heap.size w w'
theorem flt_2 {P:Pg} {n:Nd} (hk:n.kind=2):FltC P n:=fun vis hvl Av Ap Am Ak Ae cv cp cm ck ce w hP hV=>by
 have HE:=kp (show fltR P n vis=useR vis n.name 1 by unfold fltR;rw [if_pos (by omega)])
 have HT:=kp (tw2 w (pgC P Av Ap Am cv cp cm) (ndC n Ak ck) 28 26)
 have HK:=kp (And.intro (hP.mono HT.out.1) (hV.mono HT.out.1))
 have q2:((n.kind:Int) == 2)=true:=by rw [hk];rfl
 clear hP hV hk
 go_enter Tryz.func86,Tryz.ntmps86
 go_upto_region 1 with fail
 generalize (w.alloc _).alloc _=W at HT HK ⊢
 obtain ⟨a0,a1,a2,a3,a4,a5⟩:=HT.out.2.1.six1
 obtain ⟨b0,b1,b2,b3,_⟩:=HT.out.2.2.four
 have hla:=HT.out.2.1.lt
 have hlb:=HT.out.2.2.lt
 have HC:=kp (show Calls Tryz.prog 118 #[.slice Ae vis.length ce,.string n.name,.int .u8 1] W fun e w'=>e=.returned (.int .i64 (useR vis n.name 1))∧Below W.heap.size W w' from use_any vis hvl n.name 1 Ae ce W HK.out.2)
 go_wp2_with fail
 refine HC.out.mono ?_
 rintro e w1 ⟨rfl,hb⟩
 have HN:=kp (bls HT.out.1 HT.out.1.size hb)
 clear hb
 go_wp2_with fail
 go_ret
 exact ⟨by rw [HE.out];rfl,HN.out⟩
theorem flt_3 {P:Pg} {n:Nd} (hk:n.kind=3):FltC P n:=fun vis hvl Av Ap Am Ak Ae cv cp cm ck ce w hP hV=>by
 have HE:=kp (show fltR P n vis=useR vis n.name 2 by unfold fltR;rw [if_neg (by omega),if_pos (by omega)])
 have HT:=kp (tw2 w (pgC P Av Ap Am cv cp cm) (ndC n Ak ck) 28 26)
 have HK:=kp (And.intro (hP.mono HT.out.1) (hV.mono HT.out.1))
 have q2:((n.kind:Int) == 2)=false:=beqF (b:=2) (by omega)
 have q3:((n.kind:Int) == 3)=true:=by rw [hk];rfl
 clear hP hV hk
 go_enter Tryz.func86,Tryz.ntmps86
 go_upto_region 1 with fail
 generalize (w.alloc _).alloc _=W at HT HK ⊢
 obtain ⟨a0,a1,a2,a3,a4,a5⟩:=HT.out.2.1.six1
 obtain ⟨b0,b1,b2,b3,_⟩:=HT.out.2.2.four
 have hla:=HT.out.2.1.lt
 have hlb:=HT.out.2.2.lt
 have HC:=kp (show Calls Tryz.prog 118 #[.slice Ae vis.length ce,.string n.name,.int .u8 2] W fun e w'=>e=.returned (.int .i64 (useR vis n.name 2))∧Below W.heap.size W w' from use_any vis hvl n.name 2 Ae ce W HK.out.2)
 go_wp2_with fail
 refine HC.out.mono ?_
 rintro e w1 ⟨rfl,hb⟩
 have HN:=kp (bls HT.out.1 HT.out.1.size hb)
 clear hb
 go_wp2_with fail
 go_ret
 exact ⟨by rw [HE.out];rfl,HN.out⟩
theorem flt_4 {P:Pg} {n:Nd} (hk:n.kind=4):FltC P n:=fun vis hvl Av Ap Am Ak Ae cv cp cm ck ce w hP hV=>by
 have HE:=kp (show fltR P n vis=useR vis n.name 3 by unfold fltR;rw [if_neg (by omega),if_neg (by omega),if_pos (by omega)])
 have HT:=kp (tw2 w (pgC P Av Ap Am cv cp cm) (ndC n Ak ck) 28 26)
 have HK:=kp (And.intro (hP.mono HT.out.1) (hV.mono HT.out.1))
 have q2:((n.kind:Int) == 2)=false:=beqF (b:=2) (by omega)
 have q3:((n.kind:Int) == 3)=false:=beqF (b:=3) (by omega)
 have q4:((n.kind:Int) == 4)=true:=by rw [hk];rfl
 clear hP hV hk
 go_enter Tryz.func86,Tryz.ntmps86
 go_upto_region 1 with fail
 generalize (w.alloc _).alloc _=W at HT HK ⊢
 obtain ⟨a0,a1,a2,a3,a4,a5⟩:=HT.out.2.1.six1
 obtain ⟨b0,b1,b2,b3,_⟩:=HT.out.2.2.four
 have hla:=HT.out.2.1.lt
 have hlb:=HT.out.2.2.lt
 have HC:=kp (show Calls Tryz.prog 118 #[.slice Ae vis.length ce,.string n.name,.int .u8 3] W fun e w'=>e=.returned (.int .i64 (useR vis n.name 3))∧Below W.heap.size W w' from use_any vis hvl n.name 3 Ae ce W HK.out.2)
 go_wp2_with fail
 refine HC.out.mono ?_
 rintro e w1 ⟨rfl,hb⟩
 have HN:=kp (bls HT.out.1 HT.out.1.size hb)
 clear hb
 go_wp2_with fail
 go_ret
 exact ⟨by rw [HE.out];rfl,HN.out⟩
theorem flt_5 {P:Pg} {n:Nd} (hk:n.kind=5):FltC P n:=fun vis hvl Av Ap Am Ak Ae cv cp cm ck ce w hP hV=>by
 have HE:=kp (show fltR P n vis=useR vis n.name 3 by unfold fltR;rw [if_neg (by omega),if_neg (by omega),if_pos (by omega)])
 have HT:=kp (tw2 w (pgC P Av Ap Am cv cp cm) (ndC n Ak ck) 28 26)
 have HK:=kp (And.intro (hP.mono HT.out.1) (hV.mono HT.out.1))
 have q2:((n.kind:Int) == 2)=false:=beqF (b:=2) (by omega)
 have q3:((n.kind:Int) == 3)=false:=beqF (b:=3) (by omega)
 have q4:((n.kind:Int) == 4)=false:=beqF (b:=4) (by omega)
 have q5:((n.kind:Int) == 5)=true:=by rw [hk];rfl
 clear hP hV hk
 go_enter Tryz.func86,Tryz.ntmps86
 go_upto_region 1 with fail
 generalize (w.alloc _).alloc _=W at HT HK ⊢
 obtain ⟨a0,a1,a2,a3,a4,a5⟩:=HT.out.2.1.six1
 obtain ⟨b0,b1,b2,b3,_⟩:=HT.out.2.2.four
 have hla:=HT.out.2.1.lt
 have hlb:=HT.out.2.2.lt
 have HC:=kp (show Calls Tryz.prog 118 #[.slice Ae vis.length ce,.string n.name,.int .u8 3] W fun e w'=>e=.returned (.int .i64 (useR vis n.name 3))∧Below W.heap.size W w' from use_any vis hvl n.name 3 Ae ce W HK.out.2)
 go_wp2_with fail
 refine HC.out.mono ?_
 rintro e w1 ⟨rfl,hb⟩
 have HN:=kp (bls HT.out.1 HT.out.1.size hb)
 clear hb
 go_wp2_with fail
 go_ret
 exact ⟨by rw [HE.out];rfl,HN.out⟩
theorem flt_44 {P:Pg} {n:Nd} (hk:n.kind=44):FltC P n:=fun vis hvl Av Ap Am Ak Ae cv cp cm ck ce w hP hV=>by
 have HE:=kp (show fltR P n vis=useR vis n.name 3 by unfold fltR;rw [if_neg (by omega),if_neg (by omega),if_pos (by omega)])
 have HT:=kp (tw2 w (pgC P Av Ap Am cv cp cm) (ndC n Ak ck) 28 26)
 have HK:=kp (And.intro (hP.mono HT.out.1) (hV.mono HT.out.1))
 have q2:((n.kind:Int) == 2)=false:=beqF (b:=2) (by omega)
 have q3:((n.kind:Int) == 3)=false:=beqF (b:=3) (by omega)
 have q4:((n.kind:Int) == 4)=false:=beqF (b:=4) (by omega)
 have q5:((n.kind:Int) == 5)=false:=beqF (b:=5) (by omega)
 have q44:((n.kind:Int) == 44)=true:=by rw [hk];rfl
 clear hP hV hk
 go_enter Tryz.func86,Tryz.ntmps86
 go_upto_region 1 with fail
 generalize (w.alloc _).alloc _=W at HT HK ⊢
 obtain ⟨a0,a1,a2,a3,a4,a5⟩:=HT.out.2.1.six1
 obtain ⟨b0,b1,b2,b3,_⟩:=HT.out.2.2.four
 have hla:=HT.out.2.1.lt
 have hlb:=HT.out.2.2.lt
 have HC:=kp (show Calls Tryz.prog 118 #[.slice Ae vis.length ce,.string n.name,.int .u8 3] W fun e w'=>e=.returned (.int .i64 (useR vis n.name 3))∧Below W.heap.size W w' from use_any vis hvl n.name 3 Ae ce W HK.out.2)
 go_wp2_with fail
 refine HC.out.mono ?_
 rintro e w1 ⟨rfl,hb⟩
 have HN:=kp (bls HT.out.1 HT.out.1.size hb)
 clear hb
 go_wp2_with fail
 go_ret
 exact ⟨by rw [HE.out];rfl,HN.out⟩
theorem flt_45 {P:Pg} {n:Nd} (hk:n.kind=45):FltC P n:=fun vis hvl Av Ap Am Ak Ae cv cp cm ck ce w hP hV=>by
 have HE:=kp (show fltR P n vis=useR vis n.name 3 by unfold fltR;rw [if_neg (by omega),if_neg (by omega),if_pos (by omega)])
 have HT:=kp (tw2 w (pgC P Av Ap Am cv cp cm) (ndC n Ak ck) 28 26)
 have HK:=kp (And.intro (hP.mono HT.out.1) (hV.mono HT.out.1))
 have q2:((n.kind:Int) == 2)=false:=beqF (b:=2) (by omega)
 have q3:((n.kind:Int) == 3)=false:=beqF (b:=3) (by omega)
 have q4:((n.kind:Int) == 4)=false:=beqF (b:=4) (by omega)
 have q5:((n.kind:Int) == 5)=false:=beqF (b:=5) (by omega)
 have q44:((n.kind:Int) == 44)=false:=beqF (b:=44) (by omega)
 have q45:((n.kind:Int) == 45)=true:=by rw [hk];rfl
 clear hP hV hk
 go_enter Tryz.func86,Tryz.ntmps86
 go_upto_region 1 with fail
 generalize (w.alloc _).alloc _=W at HT HK ⊢
 obtain ⟨a0,a1,a2,a3,a4,a5⟩:=HT.out.2.1.six1
 obtain ⟨b0,b1,b2,b3,_⟩:=HT.out.2.2.four
 have hla:=HT.out.2.1.lt
 have hlb:=HT.out.2.2.lt
 have HC:=kp (show Calls Tryz.prog 118 #[.slice Ae vis.length ce,.string n.name,.int .u8 3] W fun e w'=>e=.returned (.int .i64 (useR vis n.name 3))∧Below W.heap.size W w' from use_any vis hvl n.name 3 Ae ce W HK.out.2)
 go_wp2_with fail
 refine HC.out.mono ?_
 rintro e w1 ⟨rfl,hb⟩
 have HN:=kp (bls HT.out.1 HT.out.1.size hb)
 clear hb
 go_wp2_with fail
 go_ret
 exact ⟨by rw [HE.out];rfl,HN.out⟩
theorem flt_54 {P:Pg} {n:Nd} (hk:n.kind=54):FltC P n:=fun vis hvl Av Ap Am Ak Ae cv cp cm ck ce w hP hV=>by
 have HE:=kp (show fltR P n vis=freshR vis n.name by unfold fltR;rw [if_neg (by omega),if_neg (by omega),if_neg (by omega),if_pos (by omega)])
 have HT:=kp (tw2 w (pgC P Av Ap Am cv cp cm) (ndC n Ak ck) 28 26)
 have HK:=kp (And.intro (hP.mono HT.out.1) (hV.mono HT.out.1))
 have q2:((n.kind:Int) == 2)=false:=beqF (b:=2) (by omega)
 have q3:((n.kind:Int) == 3)=false:=beqF (b:=3) (by omega)
 have q4:((n.kind:Int) == 4)=false:=beqF (b:=4) (by omega)
 have q5:((n.kind:Int) == 5)=false:=beqF (b:=5) (by omega)
 have q44:((n.kind:Int) == 44)=false:=beqF (b:=44) (by omega)
 have q45:((n.kind:Int) == 45)=false:=beqF (b:=45) (by omega)
 have q54:((n.kind:Int) == 54)=true:=by rw [hk];rfl
 clear hP hV hk
 go_enter Tryz.func86,Tryz.ntmps86
 go_upto_region 1 with fail
 generalize (w.alloc _).alloc _=W at HT HK ⊢
 obtain ⟨a0,a1,a2,a3,a4,a5⟩:=HT.out.2.1.six1
 obtain ⟨b0,b1,b2,b3,_⟩:=HT.out.2.2.four
 have hla:=HT.out.2.1.lt
 have hlb:=HT.out.2.2.lt
 have HC:=kp (fresh_any vis hvl n.name Ae ce W HK.out.2)
 go_wp2_with fail
 refine HC.out.mono ?_
 rintro e w1 ⟨rfl,hb⟩
 have HN:=kp (bls HT.out.1 HT.out.1.size hb)
 clear hb
 go_wp2_with fail
 go_ret
 exact ⟨by rw [HE.out];rfl,HN.out⟩
theorem flt_55 {P:Pg} {n:Nd} (hk:n.kind=55):FltC P n:=fun vis hvl Av Ap Am Ak Ae cv cp cm ck ce w hP hV=>by
 have HE:=kp (show fltR P n vis=freshR vis n.name by unfold fltR;rw [if_neg (by omega),if_neg (by omega),if_neg (by omega),if_pos (by omega)])
 have HT:=kp (tw2 w (pgC P Av Ap Am cv cp cm) (ndC n Ak ck) 28 26)
 have HK:=kp (And.intro (hP.mono HT.out.1) (hV.mono HT.out.1))
 have q2:((n.kind:Int) == 2)=false:=beqF (b:=2) (by omega)
 have q3:((n.kind:Int) == 3)=false:=beqF (b:=3) (by omega)
 have q4:((n.kind:Int) == 4)=false:=beqF (b:=4) (by omega)
 have q5:((n.kind:Int) == 5)=false:=beqF (b:=5) (by omega)
 have q44:((n.kind:Int) == 44)=false:=beqF (b:=44) (by omega)
 have q45:((n.kind:Int) == 45)=false:=beqF (b:=45) (by omega)
 have q54:((n.kind:Int) == 54)=false:=beqF (b:=54) (by omega)
 have q55:((n.kind:Int) == 55)=true:=by rw [hk];rfl
 clear hP hV hk
 go_enter Tryz.func86,Tryz.ntmps86
 go_upto_region 1 with fail
 generalize (w.alloc _).alloc _=W at HT HK ⊢
 obtain ⟨a0,a1,a2,a3,a4,a5⟩:=HT.out.2.1.six1
 obtain ⟨b0,b1,b2,b3,_⟩:=HT.out.2.2.four
 have hla:=HT.out.2.1.lt
 have hlb:=HT.out.2.2.lt
 have HC:=kp (fresh_any vis hvl n.name Ae ce W HK.out.2)
 go_wp2_with fail
 refine HC.out.mono ?_
 rintro e w1 ⟨rfl,hb⟩
 have HN:=kp (bls HT.out.1 HT.out.1.size hb)
 clear hb
 go_wp2_with fail
 go_ret
 exact ⟨by rw [HE.out];rfl,HN.out⟩
theorem flt_50 {P:Pg} {n:Nd} (hk:n.kind=50) (hl:P.procs.length≤9223372036854775807):FltC P n:=fun vis hvl Av Ap Am Ak Ae cv cp cm ck ce w hP hV=>by
 have HE:=kp (show fltR P n vis=callR P n by unfold fltR;rw [if_neg (by omega),if_neg (by omega),if_neg (by omega),if_neg (by omega),if_pos (by omega)])
 have HT:=kp (tw2 w (pgC P Av Ap Am cv cp cm) (ndC n Ak ck) 28 26)
 have HK:=kp (And.intro (hP.mono HT.out.1) (hV.mono HT.out.1))
 have q2:((n.kind:Int) == 2)=false:=beqF (b:=2) (by omega)
 have q3:((n.kind:Int) == 3)=false:=beqF (b:=3) (by omega)
 have q4:((n.kind:Int) == 4)=false:=beqF (b:=4) (by omega)
 have q5:((n.kind:Int) == 5)=false:=beqF (b:=5) (by omega)
 have q44:((n.kind:Int) == 44)=false:=beqF (b:=44) (by omega)
 have q45:((n.kind:Int) == 45)=false:=beqF (b:=45) (by omega)
 have q54:((n.kind:Int) == 54)=false:=beqF (b:=54) (by omega)
 have q55:((n.kind:Int) == 55)=false:=beqF (b:=55) (by omega)
 have q50:((n.kind:Int) == 50)=true:=by rw [hk];rfl
 clear hP hV hk
 go_enter Tryz.func86,Tryz.ntmps86
 go_upto_region 1 with fail
 generalize (w.alloc _).alloc _=W at HT HK ⊢
 obtain ⟨a0,a1,a2,a3,a4,a5⟩:=HT.out.2.1.six1
 obtain ⟨b0,b1,b2,b3,_⟩:=HT.out.2.2.four
 have hla:=HT.out.2.1.lt
 have hlb:=HT.out.2.2.lt
 have HC:=kp (sproc_any P hl n.name Av Ap Am cv cp cm W HK.out.1)
 rcases pidx_cases n.name P.procs 0 with ⟨hx,hpr⟩ | ⟨i,q,hx,hi,hpr,_⟩
 ·have HR:=kp (show fltR P n vis=6 by rw [HE.out];unfold callR;rw [hpr])
  rw [hx] at HC
  clear hx hpr
  go_wp2_with fail
  refine HC.out.mono ?_
  rintro e w1 ⟨rfl,hb⟩
  have HN:=kp (bls HT.out.1 HT.out.1.size hb)
  clear hb a0 a1 a2 a3 a4 a5 b0 b1 b2 b3 hla hlb
  go_wp2_with fail
  go_ret
  exact ⟨by rw [HR.out];rfl,HN.out⟩
 ·have HR:=kp (show fltR P n vis=if n.kids.length=q.params.length then 0 else 7 by rw [HE.out];unfold callR;rw [hpr])
  rw [hx,Nat.zero_add] at HC
  have hin:i<P.procs.length:=(List.getElem?_eq_some_iff.1 hi).1
  have hq:P.procs[i]=q:=(List.getElem?_eq_some_iff.1 hi).2
  clear hx hpr
  go_wp2_with fail
  refine HC.out.mono ?_
  rintro e w1 ⟨rfl,hb⟩
  have HN:=kp (bls HT.out.1 HT.out.1.size hb)
  obtain ⟨bp,op,Aq,cq,Aj,cj,rfl,hlp,c0,c1,c2,c3,c4,c5,c6,c7⟩:=(HK.out.1.mono hb).at_ hin
  rw [hq] at c1
  have HA:=kp (And.intro (HT.out.2.1.below hb) (HT.out.2.2.below hb))
  clear hb a0 a1 a2 a3 a4 a5 b0 b1 b2 b3 hla hlb c0 c2 c3 c4 c5 c6 c7
  obtain ⟨a0,a1,a2,a3,a4,a5⟩:=HA.out.1.six1
  obtain ⟨b0,b1,b2,b3,_⟩:=HA.out.2.four
  have hla:=HA.out.1.lt
  have hlb:=HA.out.2.lt
  have r0:(0:Int)≤i:=by omega
  have r1:(i:Int)<P.procs.length:=by omega
  have hne:((n.kids.length:Int) != (q.params.length:Int))=!decide (n.kids.length=q.params.length):=by rw [bne,beqD]
  have hd:=kp (show w1.drew.cell? ⟨w.heap.size+1,3,none⟩=some (.slice Ak n.kids.length ck)∧w1.drew.cell? ⟨w.heap.size,1,none⟩=some (.slice (some ⟨bp,op,none⟩) P.procs.length cp)∧w1.drew.cell? ⟨bp,op+i*6+1,none⟩=some (.slice Aq q.params.length cq) from ⟨b3,a1,c1⟩)
  have HND:=kp (fun m=>bdn HN.out m)
  clear hi hq hin
  by_cases hlq:n.kids.length=q.params.length
  ·rw [decide_eq_true hlq] at hne
   rw [if_pos hlq] at HR
   clear hlq
   go_upto_region 19 with fail
   go_region_held3 (fun w'=>w'.cell? ⟨w.heap.size+1,3,none⟩=some (.slice Ak n.kids.length ck)∧w'.cell? ⟨w.heap.size,1,none⟩=some (.slice (some ⟨bp,op,none⟩) P.procs.length cp)∧w'.cell? ⟨bp,op+i*6+1,none⟩=some (.slice Aq q.params.length cq)) (exact hd.out) (fail)
   all_goals
    go_wp2_with fail
    go_ret
    exact ⟨by rw [HR.out];rfl,HN.out.drew⟩
  ·rw [decide_eq_false hlq] at hne
   rw [if_neg hlq] at HR
   clear hlq
   go_upto_region 19 with fail
   go_region_held3 (fun w'=>w'.cell? ⟨w.heap.size+1,3,none⟩=some (.slice Ak n.kids.length ck)∧w'.cell? ⟨w.heap.size,1,none⟩=some (.slice (some ⟨bp,op,none⟩) P.procs.length cp)∧w'.cell? ⟨bp,op+i*6+1,none⟩=some (.slice Aq q.params.length cq)) (exact hd.out) (fail)
   all_goals
    go_wp2_with fail
    go_ret
    exact ⟨by rw [HR.out];rfl,HN.out.drew⟩
theorem flt_51 {P:Pg} {n:Nd} (hk:n.kind=51) (hl:P.procs.length≤9223372036854775807):FltC P n:=fun vis hvl Av Ap Am Ak Ae cv cp cm ck ce w hP hV=>by
 have HE:=kp (show fltR P n vis=callR P n by unfold fltR;rw [if_neg (by omega),if_neg (by omega),if_neg (by omega),if_neg (by omega),if_pos (by omega)])
 have HT:=kp (tw2 w (pgC P Av Ap Am cv cp cm) (ndC n Ak ck) 28 26)
 have HK:=kp (And.intro (hP.mono HT.out.1) (hV.mono HT.out.1))
 have q2:((n.kind:Int) == 2)=false:=beqF (b:=2) (by omega)
 have q3:((n.kind:Int) == 3)=false:=beqF (b:=3) (by omega)
 have q4:((n.kind:Int) == 4)=false:=beqF (b:=4) (by omega)
 have q5:((n.kind:Int) == 5)=false:=beqF (b:=5) (by omega)
 have q44:((n.kind:Int) == 44)=false:=beqF (b:=44) (by omega)
 have q45:((n.kind:Int) == 45)=false:=beqF (b:=45) (by omega)
 have q54:((n.kind:Int) == 54)=false:=beqF (b:=54) (by omega)
 have q55:((n.kind:Int) == 55)=false:=beqF (b:=55) (by omega)
 have q50:((n.kind:Int) == 50)=false:=beqF (b:=50) (by omega)
 have q51:((n.kind:Int) == 51)=true:=by rw [hk];rfl
 clear hP hV hk
 go_enter Tryz.func86,Tryz.ntmps86
 go_upto_region 1 with fail
 generalize (w.alloc _).alloc _=W at HT HK ⊢
 obtain ⟨a0,a1,a2,a3,a4,a5⟩:=HT.out.2.1.six1
 obtain ⟨b0,b1,b2,b3,_⟩:=HT.out.2.2.four
 have hla:=HT.out.2.1.lt
 have hlb:=HT.out.2.2.lt
 have HC:=kp (sproc_any P hl n.name Av Ap Am cv cp cm W HK.out.1)
 rcases pidx_cases n.name P.procs 0 with ⟨hx,hpr⟩ | ⟨i,q,hx,hi,hpr,_⟩
 ·have HR:=kp (show fltR P n vis=6 by rw [HE.out];unfold callR;rw [hpr])
  rw [hx] at HC
  clear hx hpr
  go_wp2_with fail
  refine HC.out.mono ?_
  rintro e w1 ⟨rfl,hb⟩
  have HN:=kp (bls HT.out.1 HT.out.1.size hb)
  clear hb a0 a1 a2 a3 a4 a5 b0 b1 b2 b3 hla hlb
  go_wp2_with fail
  go_ret
  exact ⟨by rw [HR.out];rfl,HN.out⟩
 ·have HR:=kp (show fltR P n vis=if n.kids.length=q.params.length then 0 else 7 by rw [HE.out];unfold callR;rw [hpr])
  rw [hx,Nat.zero_add] at HC
  have hin:i<P.procs.length:=(List.getElem?_eq_some_iff.1 hi).1
  have hq:P.procs[i]=q:=(List.getElem?_eq_some_iff.1 hi).2
  clear hx hpr
  go_wp2_with fail
  refine HC.out.mono ?_
  rintro e w1 ⟨rfl,hb⟩
  have HN:=kp (bls HT.out.1 HT.out.1.size hb)
  obtain ⟨bp,op,Aq,cq,Aj,cj,rfl,hlp,c0,c1,c2,c3,c4,c5,c6,c7⟩:=(HK.out.1.mono hb).at_ hin
  rw [hq] at c1
  have HA:=kp (And.intro (HT.out.2.1.below hb) (HT.out.2.2.below hb))
  clear hb a0 a1 a2 a3 a4 a5 b0 b1 b2 b3 hla hlb c0 c2 c3 c4 c5 c6 c7
  obtain ⟨a0,a1,a2,a3,a4,a5⟩:=HA.out.1.six1
  obtain ⟨b0,b1,b2,b3,_⟩:=HA.out.2.four
  have hla:=HA.out.1.lt
  have hlb:=HA.out.2.lt
  have r0:(0:Int)≤i:=by omega
  have r1:(i:Int)<P.procs.length:=by omega
  have hne:((n.kids.length:Int) != (q.params.length:Int))=!decide (n.kids.length=q.params.length):=by rw [bne,beqD]
  have hd:=kp (show w1.drew.cell? ⟨w.heap.size+1,3,none⟩=some (.slice Ak n.kids.length ck)∧w1.drew.cell? ⟨w.heap.size,1,none⟩=some (.slice (some ⟨bp,op,none⟩) P.procs.length cp)∧w1.drew.cell? ⟨bp,op+i*6+1,none⟩=some (.slice Aq q.params.length cq) from ⟨b3,a1,c1⟩)
  have HND:=kp (fun m=>bdn HN.out m)
  clear hi hq hin
  by_cases hlq:n.kids.length=q.params.length
  ·rw [decide_eq_true hlq] at hne
   rw [if_pos hlq] at HR
   clear hlq
   go_upto_region 19 with fail
   go_region_held3 (fun w'=>w'.cell? ⟨w.heap.size+1,3,none⟩=some (.slice Ak n.kids.length ck)∧w'.cell? ⟨w.heap.size,1,none⟩=some (.slice (some ⟨bp,op,none⟩) P.procs.length cp)∧w'.cell? ⟨bp,op+i*6+1,none⟩=some (.slice Aq q.params.length cq)) (exact hd.out) (fail)
   all_goals
    go_wp2_with fail
    go_ret
    exact ⟨by rw [HR.out];rfl,HN.out.drew⟩
  ·rw [decide_eq_false hlq] at hne
   rw [if_neg hlq] at HR
   clear hlq
   go_upto_region 19 with fail
   go_region_held3 (fun w'=>w'.cell? ⟨w.heap.size+1,3,none⟩=some (.slice Ak n.kids.length ck)∧w'.cell? ⟨w.heap.size,1,none⟩=some (.slice (some ⟨bp,op,none⟩) P.procs.length cp)∧w'.cell? ⟨bp,op+i*6+1,none⟩=some (.slice Aq q.params.length cq)) (exact hd.out) (fail)
   all_goals
    go_wp2_with fail
    go_ret
    exact ⟨by rw [HR.out];rfl,HN.out.drew⟩
theorem flt_else {P:Pg} {n:Nd} (hk:n.kind≠2∧n.kind≠3∧n.kind≠4∧n.kind≠5∧n.kind≠44∧n.kind≠45∧n.kind≠54∧n.kind≠55∧n.kind≠50∧n.kind≠51):FltC P n:=fun vis hvl Av Ap Am Ak Ae cv cp cm ck ce w hP hV=>by
 have HE:=kp (show fltR P n vis=0 by unfold fltR;rw [if_neg (by omega),if_neg (by omega),if_neg (by omega),if_neg (by omega),if_neg (by omega)])
 have HT:=kp (tw2 w (pgC P Av Ap Am cv cp cm) (ndC n Ak ck) 28 26)
 have HK:=kp (And.intro (hP.mono HT.out.1) (hV.mono HT.out.1))
 have q2:((n.kind:Int) == 2)=false:=beqF (b:=2) (by omega)
 have q3:((n.kind:Int) == 3)=false:=beqF (b:=3) (by omega)
 have q4:((n.kind:Int) == 4)=false:=beqF (b:=4) (by omega)
 have q5:((n.kind:Int) == 5)=false:=beqF (b:=5) (by omega)
 have q44:((n.kind:Int) == 44)=false:=beqF (b:=44) (by omega)
 have q45:((n.kind:Int) == 45)=false:=beqF (b:=45) (by omega)
 have q54:((n.kind:Int) == 54)=false:=beqF (b:=54) (by omega)
 have q55:((n.kind:Int) == 55)=false:=beqF (b:=55) (by omega)
 have q50:((n.kind:Int) == 50)=false:=beqF (b:=50) (by omega)
 have q51:((n.kind:Int) == 51)=false:=beqF (b:=51) (by omega)
 clear hP hV hk
 go_enter Tryz.func86,Tryz.ntmps86
 go_upto_region 1 with fail
 generalize (w.alloc _).alloc _=W at HT HK ⊢
 obtain ⟨a0,a1,a2,a3,a4,a5⟩:=HT.out.2.1.six1
 obtain ⟨b0,b1,b2,b3,_⟩:=HT.out.2.2.four
 have hla:=HT.out.2.1.lt
 have hlb:=HT.out.2.2.lt
 go_wp2_with fail
 go_ret
 exact ⟨by rw [HE.out];rfl,HT.out.1⟩
theorem fault_any (P:Pg) (n:Nd) (hl:P.procs.length≤9223372036854775807):FltC P n:=by
 have hk:n.kind=2∨n.kind=3∨n.kind=4∨n.kind=5∨n.kind=44∨n.kind=45∨n.kind=54∨n.kind=55∨n.kind=50∨n.kind=51∨(n.kind≠2∧n.kind≠3∧n.kind≠4∧n.kind≠5∧n.kind≠44∧n.kind≠45∧n.kind≠54∧n.kind≠55∧n.kind≠50∧n.kind≠51):=by omega
 rcases hk with h | h | h | h | h | h | h | h | h | h | h
 ·exact flt_2 h
 ·exact flt_3 h
 ·exact flt_4 h
 ·exact flt_5 h
 ·exact flt_44 h
 ·exact flt_45 h
 ·exact flt_54 h
 ·exact flt_55 h
 ·exact flt_50 h hl
 ·exact flt_51 h hl
 ·exact flt_else h
def argR (P:Pg) (n:Nd) (i:Nat) (vis:List Vd):Int:=
 match findV vis (kid n i).name with
 | none=>6
 | some v=>match procT P.procs n.name with
   | none=>0
   | some q=>if n.kids.length=q.params.length then (match q.params[i]? with | none=>0 | some r=>if v.kind=r.kind∧v.len=r.len then 0 else 7) else 0
theorem argument_any (P:Pg) (n:Nd) (i:Nat) (hi:i<n.kids.length) (hl:P.procs.length≤9223372036854775807) (vis:List Vd) (hvl:vis.length≤9223372036854775807) (Av Ap Am Ak Ae:Option Addr) (cv cp cm ck ce:Nat) (w:World) (hP:PcsAt w Ap P.procs) (hV:VdsAt w Ae vis) (hN:NdsAt w Ak n.kids) :
  Calls Tryz.prog 88 #[.agg (pgC P Av Ap Am cv cp cm),.agg (ndC n Ak ck),.int .i64 i,.slice Ae vis.length ce] w fun e w'=>e=.returned (.int .i64 (argR P n i vis))∧Below w.heap.size w w':=by
 have HT:=kp (tw2 w (pgC P Av Ap Am cv cp cm) (ndC n Ak ck) 28 26)
 have HK:=kp (And.intro (hP.mono HT.out.1) (And.intro (hV.mono HT.out.1) (hN.mono HT.out.1)))
 have HE:=kp (show argR P n i vis=match findV vis (kid n i).name with
  | none=>6
  | some v=>match procT P.procs n.name with
    | none=>0
    | some q=>if n.kids.length=q.params.length then (match q.params[i]? with | none=>0 | some r=>if v.kind=r.kind∧v.len=r.len then 0 else 7) else 0 from rfl)
 have hkd:kid n i=n.kids[i]:=kid_eq (List.getElem?_eq_getElem hi)
 rw [hkd] at HE
 have HI:=kp hi
 clear hP hV hN hkd
 go_enter Tryz.func88,Tryz.ntmps88
 go_upto_region 1 with fail
 generalize (w.alloc _).alloc _=W at HT HK ⊢
 obtain ⟨a0,a1,a2,a3,a4,a5⟩:=HT.out.2.1.six1
 obtain ⟨b0,b1,b2,b3,_⟩:=HT.out.2.2.four
 have hla:=HT.out.2.1.lt
 have hlb:=HT.out.2.2.lt
 obtain ⟨bk,ok,A',cap',rfl,hbk,k0,k1,k2,k3,_⟩:=HK.out.2.2.kid hi
 have r0:(0:Int)≤i:=by omega
 have r1:(i:Int)<n.kids.length:=by omega
 generalize n.kids[i]=y at *
 clear hi
 have HF:=kp (find_any vis hvl y.name Ae ce W HK.out.2.1)
 generalize findV vis y.name=o at *
 cases o with
 | none=>
   have HE2:=kp (show argR P n i vis=6 from HE.out)
   clear HE
   go_wp2_with fail
   refine HF.out.mono ?_
   rintro e w1 ⟨rfl,hb⟩
   unfold vdVal
   have HN:=kp (bls HT.out.1 HT.out.1.size (bls hb hb.size (blb w1 (Obj.cells #[.string ⟨#[]⟩,.int .u8 0,.int .i64 0] 62))))
   clear hb a0 a1 a2 a3 a4 a5 b0 b1 b2 b3 hla hlb k0 k1 k2 k3 hbk
   go_wp2_with fail
   go_ret
   exact ⟨by rw [HE2.out];rfl,HN.out⟩
 | some v=>
   have HE2:=kp (show argR P n i vis=match procT P.procs n.name with
    | none=>0
    | some q=>if n.kids.length=q.params.length then (match q.params[i]? with | none=>0 | some r=>if v.kind=r.kind∧v.len=r.len then 0 else 7) else 0 from HE.out)
   clear HE
   go_wp2_with fail
   refine HF.out.mono ?_
   rintro e w1 ⟨rfl,hb⟩
   unfold vdVal
   have HBX:=kp (blb w1 (Obj.cells #[.string v.name,.int .u8 v.kind,.int .i64 v.len] 62))
   have HVX:=kp (bxn w1 #[.string v.name,.int .u8 v.kind,.int .i64 v.len] 62)
   have HB1:=kp (bls hb hb.size HBX.out)
   have HN1:=kp (bls HT.out.1 HT.out.1.size HB1.out)
   clear hb a0 a1 a2 a3 a4 a5 b0 b1 b2 b3 hla hlb k0 k1 k2 k3 hbk
   go_upto_region 2 with fail
   generalize w1.alloc _=V at HBX HVX HB1 HN1 ⊢
   have HA:=kp (And.intro (HT.out.2.1.below HB1.out) (HT.out.2.2.below HB1.out))
   have HPV:=kp (HK.out.1.mono HB1.out)
   obtain ⟨a0,a1,a2,a3,a4,a5⟩:=HA.out.1.six1
   obtain ⟨b0,b1,b2,b3,_⟩:=HA.out.2.four
   have hla:=HA.out.1.lt
   have hlb:=HA.out.2.lt
   have HC:=kp (sproc_any P hl n.name Av Ap Am cv cp cm V HPV.out)
   rcases pidx_cases n.name P.procs 0 with ⟨hx,hpr⟩ | ⟨j,q,hx,hj,hpr,_⟩
   ·rw [hpr] at HE2
    have HR:=kp (show argR P n i vis=0 from HE2.out)
    rw [hx] at HC
    clear hx hpr HE2
    go_wp2_with fail
    refine HC.out.mono ?_
    rintro e w2 ⟨rfl,hb⟩
    have HN:=kp (bls HN1.out HN1.out.size hb)
    have HA2:=kp (And.intro (HA.out.1.below hb) (HA.out.2.below hb))
    clear hb a0 a1 a2 a3 a4 a5 b0 b1 b2 b3 hla hlb
    obtain ⟨a0,a1,a2,a3,a4,a5⟩:=HA2.out.1.six1
    obtain ⟨b0,b1,b2,b3,_⟩:=HA2.out.2.four
    have hla:=HA2.out.1.lt
    have hlb:=HA2.out.2.lt
    go_upto_region 5 with fail
    have hd:=kp (show w2.drew.cell? ⟨w.heap.size+1,3,none⟩=some (.slice (some ⟨bk,ok,none⟩) n.kids.length ck) from b3)
    go_quiet (fail)
    go_wp2_with fail
    go_ret
    exact ⟨by rw [HR.out];rfl,bdn HN.out _⟩
   ·rw [hpr] at HE2
    have HR:=kp (show argR P n i vis=if n.kids.length=q.params.length then (match q.params[i]? with | none=>0 | some r=>if v.kind=r.kind∧v.len=r.len then 0 else 7) else 0 from HE2.out)
    rw [hx,Nat.zero_add] at HC
    have hjn:j<P.procs.length:=(List.getElem?_eq_some_iff.1 hj).1
    have hq:P.procs[j]=q:=(List.getElem?_eq_some_iff.1 hj).2
    clear hx hpr HE2
    go_wp2_with fail
    refine HC.out.mono ?_
    rintro e w2 ⟨rfl,hb⟩
    have HN:=kp (bls HN1.out HN1.out.size hb)
    have HA2:=kp (And.intro (HA.out.1.below hb) (HA.out.2.below hb))
    have HV2:=kp (HVX.out.below hb)
    obtain ⟨bp,op,Aq,cq,Aj,cj,rfl,hlp,c0,c1,c2,c3,c4,c5,hqv,c7⟩:=(HPV.out.mono hb).at_ hjn
    rw [hq] at c1 hqv
    have HQV:=kp hqv
    clear hb a0 a1 a2 a3 a4 a5 b0 b1 b2 b3 hla hlb c0 c2 c3 c4 c5 c7 hqv
    obtain ⟨a0,a1,a2,a3,a4,a5⟩:=HA2.out.1.six1
    obtain ⟨b0,b1,b2,b3,_⟩:=HA2.out.2.four
    have hla:=HA2.out.1.lt
    have hlb:=HA2.out.2.lt
    have j0:(0:Int)≤j:=by omega
    have j1:(j:Int)<P.procs.length:=by omega
    have jn:¬ (j:Int)<0:=by omega
    have hne:((n.kids.length:Int) != (q.params.length:Int))=!decide (n.kids.length=q.params.length):=by rw [bne,beqD]
    have hd:=kp (show w2.drew.cell? ⟨w.heap.size+1,3,none⟩=some (.slice (some ⟨bk,ok,none⟩) n.kids.length ck)∧w2.drew.cell? ⟨w.heap.size,1,none⟩=some (.slice (some ⟨bp,op,none⟩) P.procs.length cp)∧w2.drew.cell? ⟨bp,op+j*6+1,none⟩=some (.slice Aq q.params.length cq) from ⟨b3,a1,c1⟩)
    clear hj hq hjn
    by_cases hlq:n.kids.length=q.params.length
    rotate_left
    ·rw [decide_eq_false hlq] at hne
     rw [if_neg hlq] at HR
     clear hlq
     go_upto_region 5 with fail
     go_quiet (fail)
     go_wp2_with fail
     go_ret
     exact ⟨by rw [HR.out];rfl,bdn HN.out _⟩
    ·rw [decide_eq_true hlq] at hne
     rw [if_pos hlq] at HR
     have hiq:i<q.params.length:=by have:=HI.out;omega
     rw [List.getElem?_eq_getElem hiq] at HR
     have HR2:=kp (show argR P n i vis=if v.kind=(q.params[i]).kind∧v.len=(q.params[i]).len then 0 else 7 from HR.out)
     obtain ⟨bq,oq,rfl,hlq2,d0,d1,d2⟩:=HQV.out.at_ hiq
     have r2:(i:Int)<q.params.length:=by omega
     clear HR hlq
     generalize q.params[i]=r at *
     go_upto_region 5 with fail
     go_quiet (fail)
     have hb3:Below w2.heap.size w2 (w2.drewN nq):=⟨rfl,rfl,rfl,Nat.le_refl _,fun _ _=>rfl⟩
     generalize w2.drewN nq=W3 at hb3 ⊢
     have HN3:=kp (bls HN.out HN.out.size hb3)
     have HA3:=kp (And.intro (HA2.out.1.below hb3) (HA2.out.2.below hb3))
     have HV3:=kp (HV2.out.below hb3)
     have c1:=blc hb3 c1
     have d0:=blc hb3 d0
     have d1:=blc hb3 d1
     have d2:=blc hb3 d2
     have hlp:=block_lt_of_cell c1
     have hlq3:=block_lt_of_cell d0
     clear hb3 a0 a1 a2 a3 a4 a5 b0 b1 b2 b3 hla hlb hlq2
     obtain ⟨a0,a1,a2,a3,a4,a5⟩:=HA3.out.1.six1
     have hla:=HA3.out.1.lt
     have HBY:=kp (blb W3 (Obj.cells #[.string r.name,.int .u8 r.kind,.int .i64 r.len] 62))
     have HRY:=kp (bxn W3 #[.string r.name,.int .u8 r.kind,.int .i64 r.len] 62)
     go_upto_region 8 with fail
     generalize W3.alloc _=W4 at HBY HRY ⊢
     have HN4:=kp (bls HN3.out HN3.out.size HBY.out)
     clear a0 a1 a2 a3 a4 a5 hla c1 d0 d1 d2 hlp hlq3
     obtain ⟨e0,e1,e2,_⟩:=HRY.out.three
     have hle:=HRY.out.lt
     obtain ⟨v0,v1,v2,_⟩:=(HV3.out.below HBY.out).three
     have hlv:=(HV3.out.below HBY.out).lt
     have hk:((v.kind:Int) != (r.kind:Int))=!decide (v.kind=r.kind):=by rw [bne,beqD]
     have hlen:=bne_int v.len r.len
     by_cases h1:v.kind=r.kind
     ·rw [decide_eq_true h1] at hk
      by_cases h2:v.len=r.len
      ·rw [decide_eq_true h2] at hlen
       have HZ:=kp (show argR P n i vis=0 by rw [HR2.out,if_pos ⟨h1,h2⟩])
       clear h1 h2
       go_wp2_with fail
       go_ret
       exact ⟨by rw [HZ.out];rfl,HN4.out⟩
      ·rw [decide_eq_false h2] at hlen
       have HZ:=kp (show argR P n i vis=7 by rw [HR2.out,if_neg (fun h=>h2 h.2)])
       clear h1 h2
       go_wp2_with fail
       go_ret
       exact ⟨by rw [HZ.out];rfl,HN4.out⟩
     ·rw [decide_eq_false h1] at hk
      have HZ:=kp (show argR P n i vis=7 by rw [HR2.out,if_neg (fun h=>h1 h.1)])
      clear h1
      go_wp2_with fail
      go_ret
      exact ⟨by rw [HZ.out];rfl,HN4.out⟩
end Go.Proofs.YtgbomnibedefoaaGreatDoor
