import Derived.Test.YtgbomnibedefoaaGreatDoorQa07
set_option maxRecDepth 100000
set_option maxHeartbeats 8000000
namespace Go.Proofs.YtgbomnibedefoaaGreatDoor
open Go.ChangeShapes Go.WideShapes Go.ChangeAt Go.RowKit Go.Sort
def vdK (v:Vd):Bool:=if v.kind=1∨v.kind=3 then decide (v.len=0) else if v.kind=2 then decide (1≤v.len)&&decide (v.len≤16) else false
def vdB (v:Vd):Bool:=lnmB v.name&&vdK v
def DclR (w wr:World) (l:List Vd) (k:Nat):Prop:=Below w.heap.size w wr∧(l.take k).all vdB=true
theorem declared_any (l:List Vd) (hl:l.length≤9223372036854775807) (hf:∀ v∈l,VdFit v) (A:Option Addr) (cap:Nat) (w:World) (hK:VdsAt w A l) :
  Calls Tryz.prog 48 #[.slice A l.length cap] w fun e w'=>e=.returned (.bool (l.all vdB))∧Below w.heap.size w w':=by
 have HK:=kp hK
 have HF:=kp hf
 clear hK hf
 go_enter Tryz.func48,Tryz.ntmps48
 go_wp2_with fail
 go_loopw [7] (fun i wr=>∃ k:Nat,k≤l.length∧i=.int .i64 k∧Hid (DclR w wr l k)) (fun i _=>l.length - (intOf i).toNat)
 case atStart=>exact ⟨0,by omega,rfl,kp ⟨Below.refl _ _,rfl⟩⟩
 case round=>
  obtain ⟨k,hk,rfl,HR⟩:=hrel
  by_cases hin:k<l.length
  ·obtain ⟨bk,ok,rfl,hbk,k0,k1,k2⟩:=(HK.out.mono HR.out.1).at_ hin
   have HBX:=kp (blb wr (Obj.cells #[.string l[k].name,.int .u8 l[k].kind,.int .i64 l[k].len] 62))
   have HRX:=kp (bxn wr #[.string l[k].name,.int .u8 l[k].kind,.int .i64 l[k].len] 62)
   have HC:=kp (name_any l[k].name (wr.alloc (Obj.cells #[.string l[k].name,.int .u8 l[k].kind,.int .i64 l[k].len] 62)) (HF.out _ (List.getElem_mem hin)).n)
   have HA:=kp (show (l.take (k+1)).all vdB=((l.take k).all vdB&&(lnmB l[k].name&&vdK l[k])) by rw [List.take_succ_eq_append_getElem hin,List.all_append];simp [vdB])
   have HZ:=kp (show (lnmB l[k].name&&vdK l[k])=false→l.all vdB=false from fun h=>by rw [List.all_eq_false];exact ⟨l[k],List.getElem_mem hin,by show ¬ vdB l[k]=true;unfold vdB;rw [h];decide⟩)
   have r0:(0:Int)≤k:=by omega
   have r1:(k:Int)<l.length:=by omega
   generalize lnmB l[k].name=c at *
   generalize l[k]=v at *
   clear hin
   cases c with
   | false=>
     go_upto_region 4 with fail
     generalize wr.alloc _=W at HBX HRX HC ⊢
     obtain ⟨a0,a1,a2,_⟩:=HRX.out.three
     have hlt:=HRX.out.lt
     go_wp2_with fail
     refine HC.out.mono ?_
     rintro e w' ⟨rfl,hb⟩
     have HN:=kp (show l.all vdB=false∧Below w.heap.size w w' from ⟨HZ.out rfl,bls HR.out.1 HR.out.1.size (bls HBX.out HBX.out.size hb)⟩)
     clear hb a0 a1 a2 hlt
     go_wp2_with fail
     go_ret
     exact ⟨by rw [HN.out.1];rfl,HN.out.2⟩
   | true=>
     have HV:=kp (show vdK v=if v.kind=1∨v.kind=3 then decide (v.len=0) else if v.kind=2 then decide (1≤v.len)&&decide (v.len≤16) else false from rfl)
     have q1:((v.kind:Int) == 1)=decide (v.kind=1):=beqD v.kind 1
     have q3:((v.kind:Int) == 3)=decide (v.kind=3):=beqD v.kind 3
     have q2:((v.kind:Int) == 2)=decide (v.kind=2):=beqD v.kind 2
     have qz:(v.len != 0)=!decide (v.len=0):=by rw [bne,beq0]
     go_upto_region 4 with fail
     generalize wr.alloc _=W at HBX HRX HC ⊢
     obtain ⟨a0,a1,a2,_⟩:=HRX.out.three
     have hlt:=HRX.out.lt
     go_wp2_with fail
     refine HC.out.mono ?_
     rintro e w' ⟨rfl,hb⟩
     obtain ⟨a0,a1,a2,_⟩:=(HRX.out.below hb).three
     have hlt:=(HRX.out.below hb).lt
     have HN:=kp (show (vdK v=false→l.all vdB=false)∧(vdK v=true→DclR w w' l (k+1))∧Below w.heap.size w w' from
      ⟨fun h=>HZ.out (by rw [h];rfl),fun h=>⟨bls HR.out.1 HR.out.1.size (bls HBX.out HBX.out.size hb),by rw [HA.out,HR.out.2,h];rfl⟩,bls HR.out.1 HR.out.1.size (bls HBX.out HBX.out.size hb)⟩)
     clear hb
     by_cases h13:v.kind=1∨v.kind=3
     ·rw [if_pos h13] at HV
      by_cases hz:v.len=0
      ·rw [decide_eq_true hz] at HV qz
       have HG:=kp (HN.out.2.1 HV.out)
       clear hz
       rcases h13 with h | h
       ·rw [decide_eq_true h] at q1
        clear h q2 q3
        go_wp2_with fail
        exact ⟨⟨k+1,by omega,by go_num,HG⟩,by simp [intOf];omega⟩
       ·rw [decide_eq_false (by omega)] at q1
        rw [decide_eq_true h] at q3
        clear h q2
        go_wp2_with fail
        exact ⟨⟨k+1,by omega,by go_num,HG⟩,by simp [intOf];omega⟩
      ·rw [decide_eq_false hz] at HV qz
       have HG:=kp (HN.out.1 HV.out)
       clear hz
       rcases h13 with h | h
       ·rw [decide_eq_true h] at q1
        clear h q2 q3
        go_wp2_with fail
        go_ret
        exact ⟨by rw [HG.out];rfl,HN.out.2.2⟩
       ·rw [decide_eq_false (by omega)] at q1
        rw [decide_eq_true h] at q3
        clear h q2
        go_wp2_with fail
        go_ret
        exact ⟨by rw [HG.out];rfl,HN.out.2.2⟩
     ·rw [if_neg h13] at HV
      rw [decide_eq_false (fun h=>h13 (.inl h))] at q1
      rw [decide_eq_false (fun h=>h13 (.inr h))] at q3
      clear h13
      by_cases h2:v.kind=2
      ·rw [if_pos h2] at HV
       rw [decide_eq_true h2] at q2
       clear h2 qz
       by_cases hz1:v.len<1
       ·rw [decide_eq_false (by omega),Bool.false_and] at HV
        have HG:=kp (HN.out.1 HV.out)
        go_wp2_with fail
        go_ret
        exact ⟨by rw [HG.out];rfl,HN.out.2.2⟩
       ·by_cases hz2:16<v.len
        ·rw [decide_eq_false (by omega:¬ v.len≤16),Bool.and_false] at HV
         have HG:=kp (HN.out.1 HV.out)
         go_wp2_with fail
         go_ret
         exact ⟨by rw [HG.out];rfl,HN.out.2.2⟩
        ·rw [decide_eq_true (by omega:1≤v.len),decide_eq_true (by omega:v.len≤16)] at HV
         have HG:=kp (HN.out.2.1 HV.out)
         go_wp2_with fail
         exact ⟨⟨k+1,by omega,by go_num,HG⟩,by simp [intOf];omega⟩
      ·rw [if_neg h2] at HV
       rw [decide_eq_false h2] at q2
       have HG:=kp (HN.out.1 HV.out)
       clear h2 qz
       go_wp2_with fail
       go_ret
       exact ⟨by rw [HG.out];rfl,HN.out.2.2⟩
  ·obtain rfl:k=l.length:=by omega
   have HN:=kp (show l.all vdB=true∧Below w.heap.size w wr from ⟨by have h:=HR.out.2;rw [List.take_length] at h;exact h,HR.out.1⟩)
   go_wp2_with fail
   go_ret
   exact ⟨by rw [HN.out.1];rfl,HN.out.2⟩
mutual
def limT:Nd→Nat→Nat→Bool × Nat
 | .mk _ _ _ kids,d,m=>if d=0∨m=0 then (false,m) else limTL kids (d - 1) (m - 1)
def limTL:List Nd→Nat→Nat→Bool × Nat
 | [],_,m=>(true,m)
 | x::r,d,m=>if (limT x d m).1=true then limTL r d (limT x d m).2 else (false,(limT x d m).2)
end
theorem limT_eq (x:Nd) (d m:Nat):limT x d m=if d=0∨m=0 then (false,m) else limTL x.kids (d - 1) (m - 1):=by cases x;rw [limT];rfl
theorem limTL_drop {l:List Nd} {k:Nat} (h:k<l.length) (d m:Nat):limTL (l.drop k) d m=if (limT l[k] d m).1=true then limTL (l.drop (k+1)) d (limT l[k] d m).2 else (false,(limT l[k] d m).2):=by
 rw [List.drop_eq_getElem_cons h,limTL]
theorem limT_le:∀ (N:Nat) (x:Nd),SizeOf.sizeOf x≤N→∀ d m,(limT x d m).2≤m:=by
 intro N
 induction N with
 | zero=>intro x hx;exfalso;cases x;simp at hx
 | succ N ih=>
   intro x hx d m
   rw [limT_eq]
   split
   ·exact Nat.le_refl _
   ·have key:∀ (l:List Nd),(∀ y∈l,SizeOf.sizeOf y≤N)→∀ d m,(limTL l d m).2≤m:=by
     intro l
     induction l with
     | nil=>intro _ d m;exact Nat.le_refl _
     | cons y r ihr=>
       intro hy d m
       rw [limTL]
       have h1:=ih y (hy y List.mem_cons_self) d m
       split
       ·exact Nat.le_trans (ihr (fun z hz=>hy z (List.mem_cons_of_mem _ hz)) d _) h1
       ·exact h1
    have:=key x.kids (fun y hy=>by obtain ⟨i,hi⟩:=List.getElem?_of_mem hy;have:=Nd.kid_lt hi;omega) (d - 1) (m - 1)
    omega
def LimR (W wr:World) (L:Nat) (x:Nd) (d m k mk:Nat):Prop:=Bx wr L #[.int .i64 mk]∧Fr W wr (fun k=>k=L)∧mk≤m∧limT x d m=limTL (x.kids.drop k) (d - 1) mk
def LimP (w:World) (L:Nat) (q:Bool × Nat) (e:Ending) (w':World):Prop:=e=.returned (.bool q.1)∧Bx w' L #[.int .i64 q.2]∧Fr w w' (fun k=>k=L)
theorem limited_any (W0:World):∀ (N:Nat) (x:Nd),SizeOf.sizeOf x≤N→NdFit x→∀ (A:Option Addr) (cap d m L:Nat) (w:World),NdsAt W0 A x.kids→Below W0.heap.size W0 w→W0.heap.size≤L→Bx w L #[.int .i64 m]→d≤1000→m≤100000→
  Calls Tryz.prog 82 #[.agg (ndC x A cap),.int .i64 d,.pointer (some ⟨L,0,none⟩)] w (LimP w L (limT x d m)):=by
 intro N
 induction N with
 | zero=>intro x hx;exfalso;cases x;simp at hx
 | succ N ih=>
   intro x hx hf A cap d m L w hK hb0 hL hm hd hmm
   have HIH:=kp (fun (i:Nat) (y:Nd) (hy:x.kids[i]?=some y)=>ih y (by have:=Nd.kid_lt hy;omega) (hf.kid hy))
   have HB:=kp (blb w (Obj.cells (ndC x A cap) 26))
   have HRX:=kp (bxn w (ndC x A cap) 26)
   have HE:=kp (limT_eq x d m)
   have HK:=kp (And.intro hK (And.intro hb0 hL))
   have HM:=kp (hm.below HB.out)
   have HLT:=kp hm.lt
   have hkl:=hf.facts.2.2.2
   have hd0:((d:Int) == 0)=decide (d=0):=beqD d 0
   have hm0:((m:Int) == 0)=decide (m=0):=beqD m 0
   clear ih hx hf hK hb0 hL hm
   by_cases h0:d=0∨m=0
   ·rw [if_pos h0] at HE
    by_cases hdz:d=0
    ·subst hdz
     clear h0 hd0
     go_enter Tryz.func82,Tryz.ntmps82
     go_upto_region 1 with fail
     generalize w.alloc _=W at HB HRX HM ⊢
     go_wp2_with fail
     go_ret
     exact ⟨by rw [HE.out];rfl,by rw [HE.out];exact HM.out,Fr.of_below HB.out _⟩
    ·rw [decide_eq_false hdz] at hd0
     have hmz:m=0:=by omega
     rw [decide_eq_true hmz] at hm0
     clear h0 hdz hmz
     go_enter Tryz.func82,Tryz.ntmps82
     go_upto_region 1 with fail
     generalize w.alloc _=W at HB HRX HM ⊢
     have hc:=HM.out.one.1
     have hcl:=HM.out.lt
     go_wp2_with fail
     go_ret
     exact ⟨by rw [HE.out];rfl,by rw [HE.out];exact HM.out,Fr.of_below HB.out _⟩
   ·rw [if_neg h0] at HE
    rw [decide_eq_false (fun h=>h0 (.inl h))] at hd0
    rw [decide_eq_false (fun h=>h0 (.inr h))] at hm0
    obtain ⟨m1,rfl⟩:∃ m1,m=m1+1:=⟨m - 1,by omega⟩
    obtain ⟨d1,rfl⟩:∃ d1,d=d1+1:=⟨d - 1,by omega⟩
    have hmi:(((m1+1:Nat):Int))=(m1:Int)+1:=by omega
    have hdi:(((d1+1:Nat):Int))=(d1:Int)+1:=by omega
    have HMI:=kp hmi
    have HDI:=kp hdi
    rw [hmi] at hm0 HM
    rw [hdi] at hd0
    rw [hdi]
    clear h0 hmi hdi
    rw [Nat.add_sub_cancel,Nat.add_sub_cancel] at HE
    go_enter Tryz.func82,Tryz.ntmps82
    go_upto_region 1 with fail
    generalize w.alloc _=W at HB HRX HM ⊢
    obtain ⟨hc,hcf⟩:=HM.out.one
    have hcl:=HM.out.lt
    have HLX:=kp (show w.heap.size≠L from fun e=>by have:=HLT.out;omega)
    go_upto_region 4 with fail
    have HM2:=kp (show Bx (W.setCell ⟨L,0,none⟩ (.int .i64 m1)) L #[.int .i64 m1] from HM.out.set 0 _)
    have HRX2:=kp (HRX.out.fr (Fr.of_set W ⟨L,0,none⟩ (.int .i64 m1)) HLX.out)
    have HF2:=kp (show Fr w (W.setCell ⟨L,0,none⟩ (.int .i64 m1)) (fun k=>k=L) from (Fr.of_below HB.out _).trans (Fr.of_set W ⟨L,0,none⟩ _) fun _ _ e=>e)
    clear hc hcf hcl
    generalize W.setCell _ _=W2 at HM2 HRX2 HF2 ⊢
    obtain ⟨a0,a1,a2,a3,_⟩:=HRX2.out.four
    have hlt:=HRX2.out.lt
    go_wp2_with fail
    go_loopw [25] (fun i wr=>∃ k mk:Nat,k≤x.kids.length∧i=.int .i64 k∧Hid (LimR W2 wr L x (d1+1) (m1+1) k mk)) (fun i _=>x.kids.length - (intOf i).toNat)
    case atStart=>exact ⟨0,m1,by omega,rfl,kp ⟨HM2.out,Fr.refl _ _,by omega,by rw [List.drop_zero];exact HE.out⟩⟩
    case round=>
     obtain ⟨k,mk,hk,rfl,HR⟩:=hrel
     have HFW:=kp (show Fr w wr (fun k=>k=L) from HF2.out.trans HR.out.2.1 fun _ _ e=>e)
     have HB0:=kp (show Below W0.heap.size W0 wr from HFW.out.toBelow HK.out.2.1 HK.out.2.1.size fun k e=>by rw [e];exact HK.out.2.2)
     by_cases hin:k<x.kids.length
     ·obtain ⟨bk,ok,A',cap',rfl,hbk,k0,k1,k2,k3,hKK⟩:=HK.out.1.kid hin
      have k0:=blc HB0.out k0
      have k1:=blc HB0.out k1
      have k2:=blc HB0.out k2
      have k3:=blc HB0.out k3
      have hbk:=block_lt_of_cell k0
      have HIK:=kp (fun (w':World) (m':Nat) (h1:Below W0.heap.size W0 w') (h2:Bx w' L #[.int .i64 m']) (h3:m'≤100000)=>HIH.out k x.kids[k] (List.getElem?_eq_getElem hin) A' cap' d1 m' L w' hKK h1 HK.out.2.2 h2 (by omega) h3)
      have HD:=kp (limTL_drop hin d1 mk)
      have hmk:=HR.out.2.2.1
      have HLE:=kp (limT_le _ x.kids[k] (Nat.le_refl _) d1 mk)
      have r0:(0:Int)≤k:=by omega
      have r1:(k:Int)<x.kids.length:=by omega
      clear hKK
      generalize x.kids[k]=y at *
      have HBK:=kp (blb wr (Obj.cells #[.int .u8 y.kind,.int .i64 y.num,.string y.name,.slice A' y.kids.length cap'] 26))
      have HRK:=kp (bxn wr #[.int .u8 y.kind,.int .i64 y.num,.string y.name,.slice A' y.kids.length cap'] 26)
      have HC:=kp (HIK.out (wr.alloc (Obj.cells #[.int .u8 y.kind,.int .i64 y.num,.string y.name,.slice A' y.kids.length cap'] 26)) mk (bls HB0.out HB0.out.size HBK.out) (HR.out.1.below HBK.out) (by omega))
      clear HIK hin
      go_upto_region 7 with fail
      clear k0 k1 k2 k3 hbk
      generalize wr.alloc _=V at HBK HRK HC ⊢
      obtain ⟨b0,b1,b2,b3,_⟩:=HRK.out.four
      have hltk:=HRK.out.lt
      generalize hq:limT y d1 mk=q at *
      clear hq
      obtain ⟨q1,q2⟩:=q
      cases q1 with
      | true=>
        go_wp2_with fail
        refine HC.out.mono ?_
        rintro e w' ⟨rfl,hb,hfr⟩
        have HN:=kp (show LimR W2 w' L x (d1+1) (m1+1) (k+1) q2 from ⟨hb,(HR.out.2.1.trans (Fr.of_below HBK.out _) fun _ _ e=>e).trans hfr fun _ _ e=>e,Nat.le_trans HLE.out hmk,by rw [HR.out.2.2.2];exact HD.out⟩)
        clear hb hfr b0 b1 b2 b3 hltk
        go_wp2_with fail
        exact ⟨⟨k+1,q2,by omega,by go_num,HN⟩,by simp [intOf];omega⟩
      | false=>
        go_wp2_with fail
        refine HC.out.mono ?_
        rintro e w' ⟨rfl,hb,hfr⟩
        have HN:=kp (show limT x (d1+1) (m1+1)=(false,q2)∧Bx w' L #[.int .i64 q2]∧Fr w w' (fun k=>k=L) from ⟨by rw [HR.out.2.2.2];exact HD.out,hb,(HFW.out.trans (Fr.of_below HBK.out _) fun _ _ e=>e).trans hfr fun _ _ e=>e⟩)
        clear hb hfr b0 b1 b2 b3 hltk
        go_wp2_with fail
        go_ret
        exact ⟨by rw [HN.out.1];rfl,by rw [HN.out.1];exact HN.out.2.1,HN.out.2.2⟩
     ·obtain rfl:k=x.kids.length:=by omega
      have HN:=kp (show limT x (d1+1) (m1+1)=(true,mk) from by rw [HR.out.2.2.2,List.drop_length];rfl)
      go_wp2_with fail
      go_ret
      exact ⟨by rw [HN.out];rfl,by rw [HN.out];exact HR.out.1,HFW.out⟩
def bodyB (x:Nd):Bool:=(limT x 80 2000).1&&isBlT x
theorem isBody_any (x:Nd) (hf:NdFit x):NdFn 50 (bodyB x) x:=fun A cap w hK=>by
 have HE:=kp (show bodyB x=((limT x 80 2000).1&&isBlT x) from rfl)
 have HB:=kp (blb w (Obj.cells (ndC x A cap) 26))
 have HRX:=kp (bxn w (ndC x A cap) 26)
 have hz:(w.alloc (Obj.cells (ndC x A cap) 26)).heap.size=w.heap.size+1:=by simp
 have HK:=kp hK
 have HF:=kp hf
 clear hK hf
 go_enter Tryz.func50,Tryz.ntmps50
 go_upto_region 1 with fail
 generalize w.alloc _=W at HB HRX hz ⊢
 have HBL:=kp (blb W (Obj.cells #[.int .i64 2000] 3))
 have HML:=kp (show Bx (W.alloc (Obj.cells #[.int .i64 2000] 3)) W.heap.size #[.int .i64 (2000:Nat)] from bxn W #[.int .i64 2000] 3)
 have HBV:=kp (bls HB.out HB.out.size HBL.out)
 have HLM:=kp (limited_any w _ x (Nat.le_refl _) HF.out A cap 80 2000 W.heap.size _ HK.out HBV.out (by omega) HML.out (by decide) (by decide))
 go_upto_region 2 with fail
 generalize W.alloc _=V at HBL HML HBV HLM ⊢
 rw [hz] at HML HLM
 have HRV:=kp (HRX.out.below HBL.out)
 obtain ⟨a0,a1,a2,a3,_⟩:=HRV.out.four
 have hlt:=HRV.out.lt
 have HLM2:=kp (show Calls Tryz.prog 82 #[.agg (ndC x A cap),.int .i64 80,.pointer (some ⟨w.heap.size+1,0,none⟩)] V (LimP V (w.heap.size+1) (limT x 80 2000)) from HLM.out)
 clear HLM
 generalize limT x 80 2000=q at *
 obtain ⟨q1,q2⟩:=q
 cases q1
 ·go_wp2_with fail
  refine HLM2.out.mono ?_
  rintro e w1 ⟨rfl,hb,hfr⟩
  have HN:=kp (show Below w.heap.size w w1 from hfr.toBelow HBV.out HBV.out.size fun k e=>by rw [e];omega)
  clear hb hfr a0 a1 a2 a3 hlt
  go_wp2_with fail
  go_ret
  exact ⟨by rw [HE.out];rfl,HN.out⟩
 ·go_wp2_with fail
  refine HLM2.out.mono ?_
  rintro e w1 ⟨rfl,hb,hfr⟩
  have HN:=kp (show Below w.heap.size w w1 from hfr.toBelow HBV.out HBV.out.size fun k e=>by rw [e];omega)
  have HR1:=kp (HRV.out.fr hfr (fun e=>absurd (show w.heap.size=w.heap.size+1 from e) (by omega)))
  have HBK:=kp (isBlock_any x HF.out A cap w1 (HK.out.mono HN.out))
  clear hb hfr a0 a1 a2 a3 hlt
  obtain ⟨a0,a1,a2,a3,_⟩:=HR1.out.four
  have hlt:=HR1.out.lt
  generalize isBlT x=b at *
  go_wp2_with fail
  refine HBK.out.mono ?_
  rintro e w2 ⟨rfl,hb⟩
  have HN2:=kp (bls HN.out HN.out.size hb)
  clear hb
  go_wp2_with fail
  go_ret
  exact ⟨by rw [HE.out];rfl,HN2.out⟩
structure Pg where
 vars:List Vd
 procs:List Pc
 main:Nd
abbrev pgC (P:Pg) (Av Ap Am:Option Addr) (cv cp cm:Nat):Array Value:=#[.slice Av P.vars.length cv,.slice Ap P.procs.length cp,.int .u8 P.main.kind,.int .i64 P.main.num,.string P.main.name,.slice Am P.main.kids.length cm]
structure PcFit (p:Pc):Prop where
 n:p.name.size≤9223372036854775807
 l:p.params.length≤9223372036854775807
 v:∀ v∈p.params,VdFit v
 b:NdFit p.body
structure PgFit (P:Pg):Prop where
 lv:P.vars.length≤9223372036854775807
 lp:P.procs.length≤9223372036854775807
 v:∀ v∈P.vars,VdFit v
 p:∀ p∈P.procs,PcFit p
 m:NdFit P.main
structure PgAt (w:World) (Av Ap Am:Option Addr) (P:Pg):Prop where
 v:VdsAt w Av P.vars
 p:PcsAt w Ap P.procs
 m:NdsAt w Am P.main.kids
theorem PgAt.mono {w w':World} {Av Ap Am:Option Addr} {P:Pg} (h:PgAt w Av Ap Am P) (hb:Below w.heap.size w w'):PgAt w' Av Ap Am P:=⟨h.v.mono hb,h.p.mono hb,h.m.mono hb⟩
def pcB (p:Pc):Bool:=lnmB p.name&&decide (p.params.length≤8)&&p.params.all vdB&&bodyB p.body
def validB (P:Pg):Bool:=decide (P.vars.length≤32)&&decide (P.procs.length≤64)&&P.vars.all vdB&&P.procs.all pcB&&bodyB P.main
theorem Bx.six1 {w:World} {b:Nat} {u0 u1 u2 u3 u4 u5:Value} (h:Bx w b #[u0,u1,u2,u3,u4,u5]):w.cell? ⟨b,0,none⟩=some u0∧w.cell? ⟨b,1,none⟩=some u1∧w.cell? ⟨b,2,none⟩=some u2∧w.cell? ⟨b,3,none⟩=some u3∧w.cell? ⟨b,4,none⟩=some u4∧w.cell? ⟨b,5,none⟩=some u5:=h.six.1
def ValR (W wr:World) (l:List Pc) (k:Nat):Prop:=Below W.heap.size W wr∧(l.take k).all pcB=true
theorem valid_any (P:Pg) (hf:PgFit P) (Av Ap Am:Option Addr) (cv cp cm:Nat) (w:World) (hK:PgAt w Av Ap Am P) :
  Calls Tryz.prog 23 #[.agg #[.slice Av P.vars.length cv,.slice Ap P.procs.length cp,.int .u8 P.main.kind,.int .i64 P.main.num,.string P.main.name,.slice Am P.main.kids.length cm]] w fun e w'=>e=.returned (.bool (validB P))∧Below w.heap.size w w':=by
 have HE:=kp (show validB P=(decide (P.vars.length≤32)&&decide (P.procs.length≤64)&&P.vars.all vdB&&P.procs.all pcB&&bodyB P.main) from rfl)
 have HB:=kp (blb w (Obj.cells #[.slice Av P.vars.length cv,.slice Ap P.procs.length cp,.int .u8 P.main.kind,.int .i64 P.main.num,.string P.main.name,.slice Am P.main.kids.length cm] 28))
 have HRX:=kp (bxn w #[.slice Av P.vars.length cv,.slice Ap P.procs.length cp,.int .u8 P.main.kind,.int .i64 P.main.num,.string P.main.name,.slice Am P.main.kids.length cm] 28)
 have HK:=kp (hK.mono HB.out)
 have HF:=kp hf
 have hl1:=hf.lv
 have hl2:=hf.lp
 clear hK hf
 by_cases h32:P.vars.length≤32
 rotate_left
 ·rw [decide_eq_false h32,Bool.false_and,Bool.false_and,Bool.false_and,Bool.false_and] at HE
  have r:(32:Int)<P.vars.length:=by omega
  go_enter Tryz.func23,Tryz.ntmps23
  go_upto_region 1 with fail
  generalize w.alloc _=W at HB HRX HK ⊢
  obtain ⟨a0,a1,a2,a3,a4,a5⟩:=HRX.out.six1
  have hlt:=HRX.out.lt
  go_wp2_with fail
  go_ret
  exact ⟨by rw [HE.out];rfl,HB.out⟩
 rw [decide_eq_true h32,Bool.true_and] at HE
 have r32:¬ (32:Int)<P.vars.length:=by omega
 clear h32
 by_cases h64:P.procs.length≤64
 rotate_left
 ·rw [decide_eq_false h64,Bool.false_and,Bool.false_and,Bool.false_and] at HE
  have r:(64:Int)<P.procs.length:=by omega
  go_enter Tryz.func23,Tryz.ntmps23
  go_upto_region 1 with fail
  generalize w.alloc _=W at HB HRX HK ⊢
  obtain ⟨a0,a1,a2,a3,a4,a5⟩:=HRX.out.six1
  have hlt:=HRX.out.lt
  go_wp2_with fail
  go_ret
  exact ⟨by rw [HE.out];rfl,HB.out⟩
 rw [decide_eq_true h64,Bool.true_and] at HE
 have r64:¬ (64:Int)<P.procs.length:=by omega
 clear h64
 go_enter Tryz.func23,Tryz.ntmps23
 go_upto_region 1 with fail
 generalize w.alloc _=W at HB HRX HK ⊢
 obtain ⟨a0,a1,a2,a3,a4,a5⟩:=HRX.out.six1
 have hlt:=HRX.out.lt
 have HD:=kp (declared_any P.vars hl1 HF.out.v Av cv W HK.out.v)
 cases hvd:P.vars.all vdB with
 | false=>
   rw [hvd] at HD HE
   rw [Bool.false_and,Bool.false_and] at HE
   clear hvd
   go_wp2_with fail
   refine HD.out.mono ?_
   rintro e w1 ⟨rfl,hb⟩
   have HN:=kp (bls HB.out HB.out.size hb)
   clear hb
   go_wp2_with fail
   go_ret
   exact ⟨by rw [HE.out];rfl,HN.out⟩
 | true=>
   rw [hvd] at HD HE
   rw [Bool.true_and] at HE
   clear hvd
   go_wp2_with fail
   refine HD.out.mono ?_
   rintro e w1 ⟨rfl,hb⟩
   have HB1:=kp (bls HB.out HB.out.size hb)
   have HR1:=kp (HRX.out.below hb)
   have HK1:=kp (HK.out.mono hb)
   clear hb a0 a1 a2 a3 a4 a5 hlt
   obtain ⟨a0,a1,a2,a3,a4,a5⟩:=HR1.out.six1
   have hlt:=HR1.out.lt
   go_wp2_with fail
   go_loopw [24] (fun i wr=>∃ k:Nat,k≤P.procs.length∧i=.int .i64 k∧Hid (ValR w1 wr P.procs k)) (fun i _=>P.procs.length - (intOf i).toNat)
   case atStart=>exact ⟨0,by omega,rfl,kp ⟨Below.refl _ _,rfl⟩⟩
   case round=>
    obtain ⟨k,hk,rfl,HR⟩:=hrel
    have HBr:=kp (bls HB1.out HB1.out.size HR.out.1)
    by_cases hin:k<P.procs.length
    ·obtain ⟨b,o,Aq,cq,Ak,ck,rfl,hlb,c0,c1,c2,c3,c4,c5,hvs,hns⟩:=(HK1.out.mono HR.out.1).p.at_ hin
     have HPF:=kp (HF.out.p _ (List.getElem_mem hin))
     have HA:=kp (show (P.procs.take (k+1)).all pcB=((P.procs.take k).all pcB&&pcB P.procs[k]) by rw [List.take_succ_eq_append_getElem hin,List.all_append];simp)
     have HZ:=kp (show pcB P.procs[k]=false→P.procs.all pcB=false from fun h=>by rw [List.all_eq_false];exact ⟨P.procs[k],List.getElem_mem hin,by rw [h];decide⟩)
     have r0:(0:Int)≤k:=by omega
     have r1:(k:Int)<P.procs.length:=by omega
     generalize P.procs[k]=p at *
     clear hin
     have HPC:=kp (show pcB p=(lnmB p.name&&decide (p.params.length≤8)&&p.params.all vdB&&bodyB p.body) from rfl)
     have HBX:=kp (blb wr (Obj.cells #[.string p.name,.slice Aq p.params.length cq,.int .u8 p.body.kind,.int .i64 p.body.num,.string p.body.name,.slice Ak p.body.kids.length ck] 91))
     have HPX:=kp (bxn wr #[.string p.name,.slice Aq p.params.length cq,.int .u8 p.body.kind,.int .i64 p.body.num,.string p.body.name,.slice Ak p.body.kids.length ck] 91)
     have HVN:=kp (And.intro (hvs.mono HBX.out) (hns.mono HBX.out))
     clear hvs hns
     go_upto_region 6 with fail
     generalize wr.alloc _=V at HBX HPX HVN ⊢
     obtain ⟨p0,p1,p2,p3,p4,p5⟩:=HPX.out.six1
     have hlv:=HPX.out.lt
     clear c0 c1 c2 c3 c4 c5 hlb a0 a1 a2 a3 a4 a5 hlt
     have HBv:=kp (bls HBr.out HBr.out.size HBX.out)
     have HBv1:=kp (bls HR.out.1 HR.out.1.size HBX.out)
     have HNM:=kp (name_any p.name V HPF.out.n)
     have hpl:=HPF.out.l
     cases hnm:lnmB p.name with
     | false=>
       rw [hnm] at HNM
       have HV:=kp (show validB P=false by rw [HE.out,HZ.out (by rw [HPC.out,hnm];simp)];rfl)
       clear hnm
       go_wp2_with fail
       refine HNM.out.mono ?_
       rintro e w2 ⟨rfl,hb⟩
       have HN:=kp (bls HBv.out HBv.out.size hb)
       clear hb p0 p1 p2 p3 p4 p5 hlv
       go_wp2_with fail
       go_ret
       exact ⟨by rw [HV.out];rfl,HN.out⟩
     | true=>
     rw [hnm] at HNM
     rw [hnm,Bool.true_and] at HPC
     clear hnm
     by_cases h8:p.params.length≤8
     rotate_left
     ·rw [decide_eq_false h8,Bool.false_and,Bool.false_and] at HPC
      have HV:=kp (show validB P=false by rw [HE.out,HZ.out HPC.out];rfl)
      have r8:(8:Int)<p.params.length:=by omega
      clear h8
      go_wp2_with fail
      refine HNM.out.mono ?_
      rintro e w2 ⟨rfl,hb⟩
      have HN:=kp (bls HBv.out HBv.out.size hb)
      obtain ⟨p0,p1,p2,p3,p4,p5⟩:=(HPX.out.below hb).six1
      have hlv:=(HPX.out.below hb).lt
      clear hb
      go_wp2_with fail
      go_ret
      exact ⟨by rw [HV.out];rfl,HN.out⟩
     rw [decide_eq_true h8,Bool.true_and] at HPC
     have r8:¬ (8:Int)<p.params.length:=by omega
     clear h8
     go_wp2_with fail
     refine HNM.out.mono ?_
     rintro e w2 ⟨rfl,hb⟩
     have HB2:=kp (bls HBv.out HBv.out.size hb)
     have HB21:=kp (bls HBv1.out HBv1.out.size hb)
     have HP2:=kp (HPX.out.below hb)
     have HVN2:=kp (And.intro (HVN.out.1.mono hb) (HVN.out.2.mono hb))
     clear hb p0 p1 p2 p3 p4 p5 hlv
     obtain ⟨p0,p1,p2,p3,p4,p5⟩:=HP2.out.six1
     have hlv:=HP2.out.lt
     have HDC:=kp (declared_any p.params hpl HPF.out.v Aq cq w2 HVN2.out.1)
     cases hdc:p.params.all vdB with
     | false=>
       rw [hdc] at HDC HPC
       rw [Bool.false_and] at HPC
       have HV:=kp (show validB P=false by rw [HE.out,HZ.out HPC.out];rfl)
       clear hdc
       go_wp2_with fail
       refine HDC.out.mono ?_
       rintro e w3 ⟨rfl,hb⟩
       have HN:=kp (bls HB2.out HB2.out.size hb)
       clear hb p0 p1 p2 p3 p4 p5 hlv
       go_wp2_with fail
       go_ret
       exact ⟨by rw [HV.out];rfl,HN.out⟩
     | true=>
       rw [hdc] at HDC HPC
       rw [Bool.true_and] at HPC
       clear hdc
       go_wp2_with fail
       refine HDC.out.mono ?_
       rintro e w3 ⟨rfl,hb⟩
       have HB3:=kp (bls HB2.out HB2.out.size hb)
       have HB31:=kp (bls HB21.out HB21.out.size hb)
       have HP3:=kp (HP2.out.below hb)
       have HBD:=kp (isBody_any p.body HPF.out.b Ak ck w3 (HVN2.out.2.mono hb))
       clear hb p0 p1 p2 p3 p4 p5 hlv
       obtain ⟨p0,p1,p2,p3,p4,p5⟩:=HP3.out.six1
       have hlv:=HP3.out.lt
       cases hbd:bodyB p.body with
       | false=>
         rw [hbd] at HBD HPC
         have HV:=kp (show validB P=false by rw [HE.out,HZ.out HPC.out];rfl)
         clear hbd
         go_wp2_with fail
         refine HBD.out.mono ?_
         rintro e w4 ⟨rfl,hb⟩
         have HN:=kp (bls HB3.out HB3.out.size hb)
         clear hb p0 p1 p2 p3 p4 p5 hlv
         go_wp2_with fail
         go_ret
         exact ⟨by rw [HV.out];rfl,HN.out⟩
       | true=>
         rw [hbd] at HBD HPC
         clear hbd
         go_wp2_with fail
         refine HBD.out.mono ?_
         rintro e w4 ⟨rfl,hb⟩
         have HN:=kp (show ValR w1 w4 P.procs (k+1) from ⟨bls HB31.out HB31.out.size hb,by rw [HA.out,HR.out.2,HPC.out];rfl⟩)
         clear hb p0 p1 p2 p3 p4 p5 hlv
         go_wp2_with fail
         exact ⟨⟨k+1,by omega,by go_num,HN⟩,by simp [intOf];omega⟩
    ·obtain rfl:k=P.procs.length:=by omega
     have hall:=HR.out.2
     rw [List.take_length] at hall
     rw [hall,Bool.true_and] at HE
     have HRr:=kp (HR1.out.below HR.out.1)
     have HBM:=kp (isBody_any P.main HF.out.m Am cm wr (HK1.out.mono HR.out.1).m)
     clear hall a0 a1 a2 a3 a4 a5 hlt
     obtain ⟨a0,a1,a2,a3,a4,a5⟩:=HRr.out.six1
     have hlt:=HRr.out.lt
     generalize bodyB P.main=b at *
     go_wp2_with fail
     refine HBM.out.mono ?_
     rintro e w4 ⟨rfl,hb⟩
     have HN:=kp (bls HBr.out HBr.out.size hb)
     clear hb
     go_wp2_with fail
     go_ret
     exact ⟨by rw [HE.out];rfl,HN.out⟩
def GrP (w:World) (L:Nat) (e:Ending) (w':World):Prop:=∃ (b:Bool) (m:Int),e=.returned (.bool b)∧Bx w' L #[.int .i64 m]∧Fr w w' (fun k=>k=L)
def GrR (W wr:World) (L:Nat):Prop:=∃ m:Int,Bx wr L #[.int .i64 m]∧Fr W wr (fun k=>k=L)
theorem small05_any (W0:World):∀ (N:Nat) (x:Nd),SizeOf.sizeOf x≤N→NdFit x→∀ (A:Option Addr) (cap d:Nat) (m:Int) (L:Nat) (w:World),NdsAt W0 A x.kids→Below W0.heap.size W0 w→W0.heap.size≤L→Bx w L #[.int .i64 m]→d≤1000→
  Calls Tryz.prog 79 #[.agg (ndC x A cap),.int .i64 d,.pointer (some ⟨L,0,none⟩)] w (GrP w L):=by
 intro N
 induction N with
 | zero=>intro x hx;exfalso;cases x;simp at hx
 | succ N ih=>
   intro x hx hf A cap d m L w hK hb0 hL hm hd
   have HIH:=kp (fun (i:Nat) (y:Nd) (hy:x.kids[i]?=some y)=>ih y (by have:=Nd.kid_lt hy;omega) (hf.kid hy))
   have HB:=kp (blb w (Obj.cells (ndC x A cap) 26))
   have HRX:=kp (bxn w (ndC x A cap) 26)
   have HK:=kp (And.intro hK (And.intro hb0 hL))
   have HM:=kp (hm.below HB.out)
   have HLT:=kp hm.lt
   have hkl:=hf.facts.2.2.2
   have hnl:=hf.facts.2.2.1
   have hd0:((d:Int) == 0)=decide (d=0):=beqD d 0
   clear ih hx hf hK hb0 hL hm
   go_enter Tryz.func79,Tryz.ntmps79
   go_upto_region 1 with fail
   generalize w.alloc _=W at HB HRX HM ⊢
   obtain ⟨hc,hcf⟩:=HM.out.one
   have hcl:=HM.out.lt
   have HLX:=kp (show w.heap.size≠L from fun e=>by have:=HLT.out;omega)
   go_upto_region 2 with fail
   generalize wrap64 (m - 1)=m1
   have HM2:=kp (show Bx (W.setCell ⟨L,0,none⟩ (.int .i64 m1)) L #[.int .i64 m1] from HM.out.set 0 _)
   have HRX2:=kp (HRX.out.fr (Fr.of_set W ⟨L,0,none⟩ (.int .i64 m1)) HLX.out)
   have HF2:=kp (show Fr w (W.setCell ⟨L,0,none⟩ (.int .i64 m1)) (fun k=>k=L) from (Fr.of_below HB.out _).trans (Fr.of_set W ⟨L,0,none⟩ _) fun _ _ e=>e)
   clear hc hcf hcl
   generalize W.setCell _ _=W2 at HM2 HRX2 HF2 ⊢
   obtain ⟨hc,hcf⟩:=HM2.out.one
   have hcl:=HM2.out.lt
   obtain ⟨a0,a1,a2,a3,_⟩:=HRX2.out.four
   have hlt:=HRX2.out.lt
   have HG:=kp (show ∀ b,GrP w L (.returned (.bool b)) W2 from fun b=>⟨b,m1,rfl,HM2.out,HF2.out⟩)
   by_cases hm0:m1<0
   ·go_wp2_with fail
    go_ret
    exact HG.out _
   by_cases hdz:d=0
   ·rw [decide_eq_true hdz] at hd0
    clear hdz
    go_wp2_with fail
    go_ret
    exact HG.out _
   rw [decide_eq_false hdz] at hd0
   by_cases hn4:(40:Int)<x.name.size
   ·clear hdz
    go_wp2_with fail
    go_ret
    exact HG.out _
   obtain ⟨d1,rfl⟩:∃ d1,d=d1+1:=⟨d - 1,by omega⟩
   have HDI:=kp (show (((d1+1:Nat):Int))=(d1:Int)+1 by omega)
   rw [HDI.out] at hd0
   rw [HDI.out]
   clear hdz
   go_wp2_with fail
   go_loopw [31] (fun i wr=>∃ k:Nat,k≤x.kids.length∧i=.int .i64 k∧Hid (GrR W2 wr L)) (fun i _=>x.kids.length - (intOf i).toNat)
   case atStart=>exact ⟨0,by omega,rfl,kp ⟨m1,HM2.out,Fr.refl _ _⟩⟩
   case round=>
    obtain ⟨k,hk,rfl,HR⟩:=hrel
    obtain ⟨mk,hr1,hr2⟩:=HR.out
    have HR1:=kp hr1
    have HR2:=kp hr2
    clear hr1 hr2
    have HFW:=kp (show Fr w wr (fun k=>k=L) from HF2.out.trans HR2.out fun _ _ e=>e)
    have HB0:=kp (show Below W0.heap.size W0 wr from HFW.out.toBelow HK.out.2.1 HK.out.2.1.size fun k e=>by rw [e];exact HK.out.2.2)
    by_cases hin:k<x.kids.length
    ·obtain ⟨bk,ok,A',cap',rfl,hbk,k0,k1,k2,k3,hKK⟩:=HK.out.1.kid hin
     have k0:=blc HB0.out k0
     have k1:=blc HB0.out k1
     have k2:=blc HB0.out k2
     have k3:=blc HB0.out k3
     have hbk:=block_lt_of_cell k0
     have HIK:=kp (fun (w':World) (m':Int) (h1:Below W0.heap.size W0 w') (h2:Bx w' L #[.int .i64 m'])=>HIH.out k x.kids[k] (List.getElem?_eq_getElem hin) A' cap' d1 m' L w' hKK h1 HK.out.2.2 h2 (by omega))
     have r0:(0:Int)≤k:=by omega
     have r1:(k:Int)<x.kids.length:=by omega
     clear hKK
     generalize x.kids[k]=y at *
     have HBK:=kp (blb wr (Obj.cells #[.int .u8 y.kind,.int .i64 y.num,.string y.name,.slice A' y.kids.length cap'] 26))
     have HRK:=kp (bxn wr #[.int .u8 y.kind,.int .i64 y.num,.string y.name,.slice A' y.kids.length cap'] 26)
     have HC:=kp (HIK.out (wr.alloc (Obj.cells #[.int .u8 y.kind,.int .i64 y.num,.string y.name,.slice A' y.kids.length cap'] 26)) mk (bls HB0.out HB0.out.size HBK.out) (HR1.out.below HBK.out))
     clear HIK hin
     go_upto_region 7 with fail
     clear k0 k1 k2 k3 hbk
     generalize wr.alloc _=V at HBK HRK HC ⊢
     obtain ⟨b0,b1,b2,b3,_⟩:=HRK.out.four
     have hltk:=HRK.out.lt
     go_wp2_with fail
     refine HC.out.mono ?_
     rintro e w' ⟨b,m',rfl,hb,hfr⟩
     have HN:=kp (show GrR W2 w' L from ⟨m',hb,(HR2.out.trans (Fr.of_below HBK.out _) fun _ _ e=>e).trans hfr fun _ _ e=>e⟩)
     have HN2:=kp (show ∀ b,GrP w L (.returned (.bool b)) w' from fun b=>⟨b,m',rfl,hb,(HFW.out.trans (Fr.of_below HBK.out _) fun _ _ e=>e).trans hfr fun _ _ e=>e⟩)
     clear hb hfr b0 b1 b2 b3 hltk
     cases b with
     | true=>
       go_wp2_with fail
       exact ⟨⟨k+1,by omega,by go_num,HN⟩,by simp [intOf];omega⟩
     | false=>
       go_wp2_with fail
       go_ret
       exact HN2.out _
    ·obtain rfl:k=x.kids.length:=by omega
     have HN2:=kp (show ∀ b,GrP w L (.returned (.bool b)) wr from fun b=>⟨b,mk,rfl,HR1.out,HFW.out⟩)
     go_wp2_with fail
     go_ret
     exact HN2.out _
def SomeB (w:World) (e:Ending) (w':World):Prop:=(∃ b:Bool,e=.returned (.bool b))∧Below w.heap.size w w'
theorem great05_any (x:Nd) (hf:NdFit x) (A:Option Addr) (cap:Nat) (w:World) (hK:NdsAt w A x.kids) :
  Calls Tryz.prog 47 #[.agg (ndC x A cap)] w (SomeB w):=by
 have HB:=kp (blb w (Obj.cells (ndC x A cap) 26))
 have HRX:=kp (bxn w (ndC x A cap) 26)
 have hz:(w.alloc (Obj.cells (ndC x A cap) 26)).heap.size=w.heap.size+1:=by simp
 have HK:=kp hK
 have HF:=kp hf
 clear hK hf
 go_enter Tryz.func47,Tryz.ntmps47
 go_upto_region 1 with fail
 generalize w.alloc _=W at HB HRX hz ⊢
 have HBL:=kp (blb W (Obj.cells #[.int .i64 200] 3))
 have HML:=kp (show Bx (W.alloc (Obj.cells #[.int .i64 200] 3)) W.heap.size #[.int .i64 200] from bxn W #[.int .i64 200] 3)
 have HBV:=kp (bls HB.out HB.out.size HBL.out)
 have HLM:=kp (small05_any w _ x (Nat.le_refl _) HF.out A cap 24 200 W.heap.size _ HK.out HBV.out (by omega) HML.out (by decide))
 go_upto_region 2 with fail
 generalize W.alloc _=V at HBL HML HBV HLM ⊢
 rw [hz] at HML HLM
 have HRV:=kp (HRX.out.below HBL.out)
 obtain ⟨a0,a1,a2,a3,_⟩:=HRV.out.four
 have hlt:=HRV.out.lt
 have HLM2:=kp (show Calls Tryz.prog 79 #[.agg (ndC x A cap),.int .i64 24,.pointer (some ⟨w.heap.size+1,0,none⟩)] V (GrP V (w.heap.size+1)) from HLM.out)
 clear HLM
 go_wp2_with fail
 refine HLM2.out.mono ?_
 rintro e w1 ⟨b,m',rfl,hb,hfr⟩
 have HN:=kp (show ∀ b,SomeB w (.returned (.bool b)) w1 from fun b=>⟨⟨b,rfl⟩,hfr.toBelow HBV.out HBV.out.size fun k e=>by rw [e];omega⟩)
 clear hb hfr a0 a1 a2 a3 hlt
 go_wp2_with fail
 go_ret
 exact HN.out _
def SomeI (w:World) (e:Ending) (w':World):Prop:=(e=.returned (.int .i64 0)∨e=.returned (.int .i64 1))∧Below w.heap.size w w'
theorem Great05_any (P:Pg) (hf:PgFit P) (Av Ap Am:Option Addr) (cv cp cm:Nat) (w:World) (hK:PgAt w Av Ap Am P) :
  Calls Tryz.prog 22 #[.agg (pgC P Av Ap Am cv cp cm)] w (SomeI w):=by
 have HB:=kp (blb w (Obj.cells (pgC P Av Ap Am cv cp cm) 28))
 have HRX:=kp (bxn w (pgC P Av Ap Am cv cp cm) 28)
 have HK:=kp (hK.mono HB.out)
 have HF:=kp hf
 have hl1:=hf.lv
 have hl2:=hf.lp
 clear hK hf
 go_enter Tryz.func22,Tryz.ntmps22
 go_upto_region 1 with fail
 generalize w.alloc _=W at HB HRX HK ⊢
 obtain ⟨a0,a1,a2,a3,a4,a5⟩:=HRX.out.six1
 have hlt:=HRX.out.lt
 by_cases h8:(8:Int)<P.vars.length
 ·go_wp2_with fail
  go_ret
  exact ⟨.inr rfl,HB.out⟩
 by_cases h5:(5:Int)<P.procs.length
 ·go_wp2_with fail
  go_ret
  exact ⟨.inr rfl,HB.out⟩
 have HGR:=kp (great05_any P.main HF.out.m Am cm W HK.out.m)
 go_wp2_with fail
 refine HGR.out.mono ?_
 rintro e w1 ⟨⟨b,rfl⟩,hb⟩
 have HB1:=kp (bls HB.out HB.out.size hb)
 have HR1:=kp (HRX.out.below hb)
 have HK1:=kp (HK.out.mono hb)
 clear hb a0 a1 a2 a3 a4 a5 hlt
 obtain ⟨a0,a1,a2,a3,a4,a5⟩:=HR1.out.six1
 have hlt:=HR1.out.lt
 cases b with
 | true=>
   go_wp2_with fail
   go_ret
   exact ⟨.inr rfl,HB1.out⟩
 | false=>
 go_wp2_with fail
 go_loopw [27] (fun i wr=>∃ k:Nat,k≤P.vars.length∧i=.int .i64 k∧Hid (Below w1.heap.size w1 wr)) (fun i _=>P.vars.length - (intOf i).toNat)
 case atStart=>exact ⟨0,by omega,rfl,kp (Below.refl _ _)⟩
 case round=>
  obtain ⟨k,hk,rfl,HR⟩:=hrel
  have HBr:=kp (bls HB1.out HB1.out.size HR.out)
  by_cases hin:k<P.vars.length
  ·obtain ⟨bk,ok,rfl,hbk,k0,k1,k2⟩:=(HK1.out.v.mono HR.out).at_ hin
   have HBX:=kp (blb wr (Obj.cells #[.string P.vars[k].name,.int .u8 P.vars[k].kind,.int .i64 P.vars[k].len] 62))
   have HVX:=kp (bxn wr #[.string P.vars[k].name,.int .u8 P.vars[k].kind,.int .i64 P.vars[k].len] 62)
   have hvn:=(HF.out.v _ (List.getElem_mem hin)).n
   have r0:(0:Int)≤k:=by omega
   have r1:(k:Int)<P.vars.length:=by omega
   generalize P.vars[k]=v at *
   clear hin
   go_upto_region 6 with fail
   generalize wr.alloc _=V at HBX HVX ⊢
   obtain ⟨b0,b1,b2,_⟩:=HVX.out.three
   have hlv:=HVX.out.lt
   have HN:=kp (bls HBr.out HBr.out.size HBX.out)
   have HN1:=kp (bls HR.out HR.out.size HBX.out)
   by_cases h40:(40:Int)<v.name.size
   ·go_wp2_with fail
    go_ret
    exact ⟨.inr rfl,HN.out⟩
   ·go_wp2_with fail
    exact ⟨⟨k+1,by omega,by go_num,HN1⟩,by simp [intOf];omega⟩
  ·obtain rfl:k=P.vars.length:=by omega
   have HRr:=kp (HR1.out.below HR.out)
   have HK2:=kp (HK1.out.mono HR.out)
   clear a0 a1 a2 a3 a4 a5 hlt hin
   obtain ⟨a0,a1,a2,a3,a4,a5⟩:=HRr.out.six1
   have hlt:=HRr.out.lt
   obtain ⟨w2,rfl⟩:∃ y,y=wr:=⟨_,rfl⟩
   go_wp2_with fail
   go_loopw [39] (fun i wr=>∃ k:Nat,k≤P.procs.length∧i=.int .i64 k∧Hid (Below w2.heap.size w2 wr)) (fun i _=>P.procs.length - (intOf i).toNat)
   case atStart=>exact ⟨0,by omega,rfl,kp (Below.refl _ _)⟩
   case round=>
    obtain ⟨k,hk,rfl,HS⟩:=hrel
    have HBs:=kp (bls HBr.out HBr.out.size HS.out)
    by_cases hin:k<P.procs.length
    ·obtain ⟨b,o,Aq,cq,Ak,ck,rfl,hlb,c0,c1,c2,c3,c4,c5,hvs,hns⟩:=(HK2.out.mono HS.out).p.at_ hin
     have HPF:=kp (HF.out.p _ (List.getElem_mem hin))
     have r0:(0:Int)≤k:=by omega
     have r1:(k:Int)<P.procs.length:=by omega
     generalize P.procs[k]=p at *
     clear hin
     have HBX:=kp (blb wr (Obj.cells #[.string p.name,.slice Aq p.params.length cq,.int .u8 p.body.kind,.int .i64 p.body.num,.string p.body.name,.slice Ak p.body.kids.length ck] 91))
     have HPX:=kp (bxn wr #[.string p.name,.slice Aq p.params.length cq,.int .u8 p.body.kind,.int .i64 p.body.num,.string p.body.name,.slice Ak p.body.kids.length ck] 91)
     have HVN:=kp (And.intro (hvs.mono HBX.out) (hns.mono HBX.out))
     have hpn:=HPF.out.n
     have hpl:=HPF.out.l
     clear hvs hns
     go_upto_region 12 with fail
     generalize wr.alloc _=V at HBX HPX HVN ⊢
     obtain ⟨p0,p1,p2,p3,p4,p5⟩:=HPX.out.six1
     have hlv:=HPX.out.lt
     have HBv:=kp (bls HBs.out HBs.out.size HBX.out)
     have HBv2:=kp (bls HS.out HS.out.size HBX.out)
     by_cases h10:(10:Int)<p.params.length
     ·go_wp2_with fail
      go_ret
      exact ⟨.inr rfl,HBv.out⟩
     by_cases h40:(40:Int)<p.name.size
     ·go_wp2_with fail
      go_ret
      exact ⟨.inr rfl,HBv.out⟩
     have HGB:=kp (great05_any p.body HPF.out.b Ak ck V HVN.out.2)
     go_wp2_with fail
     refine HGB.out.mono ?_
     rintro e w4 ⟨⟨bb,rfl⟩,hb⟩
     have HB4:=kp (bls HBv.out HBv.out.size hb)
     have HB42:=kp (bls HBv2.out HBv2.out.size hb)
     have HP4:=kp (HPX.out.below hb)
     have HV4:=kp (HVN.out.1.mono hb)
     clear hb p0 p1 p2 p3 p4 p5 hlv
     obtain ⟨p0,p1,p2,p3,p4,p5⟩:=HP4.out.six1
     have hlv:=HP4.out.lt
     cases bb with
     | true=>
       go_wp2_with fail
       go_ret
       exact ⟨.inr rfl,HB4.out⟩
     | false=>
     obtain ⟨wo,rfl⟩:∃ y,y=wr:=⟨_,rfl⟩
     go_wp2_with fail
     go_loopw [61] (fun i wr=>∃ j:Nat,j≤p.params.length∧i=.int .i64 j∧Hid (Below w4.heap.size w4 wr)) (fun i _=>p.params.length - (intOf i).toNat)
     case atStart=>exact ⟨0,by omega,rfl,kp (Below.refl _ _)⟩
     case round=>
      obtain ⟨j,hj,rfl,HT⟩:=hrel
      have HBt:=kp (bls HB4.out HB4.out.size HT.out)
      have HBt2:=kp (bls HB42.out HB42.out.size HT.out)
      by_cases hjn:j<p.params.length
      ·obtain ⟨bk,ok,rfl,hbk,k0,k1,k2⟩:=(HV4.out.mono HT.out).at_ hjn
       have HBY:=kp (blb wr (Obj.cells #[.string p.params[j].name,.int .u8 p.params[j].kind,.int .i64 p.params[j].len] 62))
       have HVY:=kp (bxn wr #[.string p.params[j].name,.int .u8 p.params[j].kind,.int .i64 p.params[j].len] 62)
       have hvn:=(HPF.out.v _ (List.getElem_mem hjn)).n
       have r2:(0:Int)≤j:=by omega
       have r3:(j:Int)<p.params.length:=by omega
       generalize p.params[j]=v at *
       clear hjn
       go_upto_region 17 with fail
       generalize wr.alloc _=Y at HBY HVY ⊢
       obtain ⟨b0,b1,b2,_⟩:=HVY.out.three
       have hly:=HVY.out.lt
       have HN:=kp (bls HBt.out HBt.out.size HBY.out)
       have HN1:=kp (bls HT.out HT.out.size HBY.out)
       by_cases h41:(40:Int)<v.name.size
       ·go_wp2_with fail
        go_ret
        exact ⟨.inr rfl,HN.out⟩
       ·go_wp2_with fail
        exact ⟨⟨j+1,by omega,by go_num,HN1⟩,by simp [intOf];omega⟩
      ·obtain rfl:j=p.params.length:=by omega
       go_wp2_with fail
       exact ⟨⟨k+1,by omega,by go_num,HBt2⟩,by simp [intOf];omega⟩
    ·obtain rfl:k=P.procs.length:=by omega
     go_wp2_with fail
     go_ret
     exact ⟨.inl rfl,HBs.out⟩
end Go.Proofs.YtgbomnibedefoaaGreatDoor
