import Derived.Test.YtgbomnibedefoaaGreatDoorQa17
set_option maxRecDepth 100000
set_option maxHeartbeats 8000000
namespace Go.Proofs.YtgbomnibedefoaaGreatDoor
open Go.ChangeShapes Go.WideShapes Go.ChangeAt Go.RowKit Go.Sort
def LkP (o:Option (List Int)) (w:World) (e:Ending) (w':World):Prop:=(match o with | some l=>∃ A c,e=.returned (.tuple #[.slice A l.length c,.bool true])∧IntsAt w' A l | none=>∃ A n c,e=.returned (.tuple #[.slice A n c,.bool false]))∧Below w.heap.size w w'
structure LookC (f SB:Nat) (g:ByteArray→Option (List Int)) (C:World→Prop):Prop where
 ent:EntF f
 keep:∀ w w':World,C w→Below w.heap.size w w'→C w'
 call:∀ (s:ByteArray) (w:World),C w→Calls Tryz.prog f #[.pointer (some ⟨SB,0,none⟩),.string s] w (LkP (g s) w)
 len:∀ s l,g s=some l→l.length≤100000
def EvlP (o:Option Int) (w:World) (e:Ending) (w':World):Prop:=(match o with | some v=>e=.returned (.tuple #[.int .i64 v,.int .i64 0]) | none=>∃ a err,err≠0∧e=.returned (.tuple #[.int .i64 a,.int .i64 err]))∧Below w.heap.size w w'
theorem EvlP.step {o:Option Int} {w w1:World} {e:Ending} {w':World} (hb:Below w.heap.size w w1) (h:EvlP o w1 e w'):EvlP o w e w':=⟨h.1,bls hb hb.size h.2⟩
abbrev lkV (f SB:Nat):Value:=.func (.func f) #[.pointer (some ⟨SB,0,none⟩)] #[]
def ValC (f SB:Nat) (g:ByteArray→Option (List Int)) (C:World→Prop) (x:Nd):Prop:=∀ (A:Option Addr) (cap:Nat) (w:World),C w→NdsAt w A x.kids→Calls Tryz.prog 171 #[.agg (ndC x A cap),lkV f SB] w (EvlP (evT g x) w)
def VrbC (f SB:Nat) (g:ByteArray→Option (List Int)) (C:World→Prop) (x:Nd):Prop:=∀ (A:Option Addr) (cap:Nat) (w:World),C w→NdsAt w A x.kids→Calls Tryz.prog 190 #[.agg (ndC x A cap),lkV f SB] w (EvlP (evT g x) w)
theorem ex_kids {x:Nd} (h:isExT x=true):1≤x.kind∧x.kind≤23∧(x.kind=1∨x.kind=2∨x.kind=4∨x.kind=5→x.kids=[])∧(x.kind=3∨x.kind=6∨x.kind=7→∃ y,x.kids=[y]∧isExT y=true)∧(8≤x.kind→∃ y z,x.kids=[y,z]∧isExT y=true∧isExT z=true):=by
 rw [isExT_eq] at h
 unfold isExK at h
 by_cases c1:x.kind=1
 ·rw [if_pos c1] at h
  simp only [Bool.and_eq_true,decide_eq_true_eq] at h
  exact ⟨by omega,by omega,fun _=>List.length_eq_zero_iff.1 h.2,fun _=>by omega,fun _=>by omega⟩
 rw [if_neg c1] at h
 by_cases c2:x.kind=2∨x.kind=4∨x.kind=5
 ·rw [if_pos c2] at h
  simp only [Bool.and_eq_true,decide_eq_true_eq] at h
  exact ⟨by omega,by omega,fun _=>List.length_eq_zero_iff.1 h.2,fun _=>by omega,fun _=>by omega⟩
 rw [if_neg c2] at h
 by_cases c3:x.kind=3
 ·rw [if_pos c3] at h
  simp only [Bool.and_eq_true,decide_eq_true_eq] at h
  obtain ⟨y,hy⟩:=lone h.2.1
  rw [hy] at h
  exact ⟨by omega,by omega,fun _=>by omega,fun _=>⟨y,hy,by simpa using h.2.2⟩,fun _=>by omega⟩
 rw [if_neg c3] at h
 by_cases c4:x.kind=6∨x.kind=7
 ·rw [if_pos c4] at h
  simp only [Bool.and_eq_true,decide_eq_true_eq] at h
  obtain ⟨y,hy⟩:=lone h.2.1
  rw [hy] at h
  exact ⟨by omega,by omega,fun _=>by omega,fun _=>⟨y,hy,by simpa using h.2.2⟩,fun _=>by omega⟩
 rw [if_neg c4] at h
 by_cases c5:8≤x.kind∧x.kind≤23
 ·rw [if_pos c5] at h
  simp only [Bool.and_eq_true,decide_eq_true_eq] at h
  obtain ⟨y,z,hy⟩:=ltwo h.2.1
  rw [hy] at h
  have h2:=h.2.2
  simp only [List.map_cons,List.map_nil,List.all_cons,List.all_nil,id,Bool.and_true,Bool.and_eq_true] at h2
  exact ⟨by omega,by omega,fun _=>by omega,fun _=>by omega,fun _=>⟨y,z,hy,h2.1,h2.2⟩⟩
 rw [if_neg c5] at h
 cases h
section
variable {f SB:Nat} {g:ByteArray→Option (List Int)} {C:World→Prop}
theorem val_1 {x:Nd} (hk:x.kind=1):ValC f SB g C x:=fun A cap w hC hK=>by
 have HE:=kp (show evT g x=some x.num from by rw [evT_eq,hk];rfl)
 have HB:=kp (blb w (Obj.cells (ndC x A cap) 26))
 have q1:((x.kind:Int) == 1)=true:=by rw [hk];rfl
 clear hk hC hK
 go_enter Tryz.func171,Tryz.ntmps171
 go_wp2_with fail
 go_ret2
 exact ⟨by rw [HE.out];rfl,HB.out⟩
theorem val_var (hL:LookC f SB g C) {x:Nd} (hk:x.kind=2∨x.kind=3∨x.kind=4∨x.kind=5) (hV:VrbC f SB g C x):ValC f SB g C x:=fun A cap w hC hK=>by
 have HB:=kp (blb w (Obj.cells (ndC x A cap) 26))
 have HRX:=kp (bxn w (ndC x A cap) 26)
 have HV:=kp (fun (Y:World) (h:Below w.heap.size w Y)=>hV A cap Y (hL.keep _ _ hC h) (hK.mono h))
 have HKD:=kp hk
 have q1:((x.kind:Int) == 1)=false:=beqF (b:=1) (by omega)
 have q2:((x.kind:Int) == 2)=decide (x.kind=2):=beqD x.kind 2
 have q3:((x.kind:Int) == 3)=decide (x.kind=3):=beqD x.kind 3
 have q4:((x.kind:Int) == 4)=decide (x.kind=4):=beqD x.kind 4
 have q5:((x.kind:Int) == 5)=decide (x.kind=5):=beqD x.kind 5
 have HO:Hid (decide (x.kind=2)=true∨decide (x.kind=3)=true∨decide (x.kind=4)=true∨decide (x.kind=5)=true):=kp (by simpa using hk)
 clear hk hC hK hL hV HKD
 generalize decide (x.kind=2)=b2 at *
 generalize decide (x.kind=3)=b3 at *
 generalize decide (x.kind=4)=b4 at *
 generalize decide (x.kind=5)=b5 at *
 cases b2<;>cases b3<;>cases b4<;>cases b5
 all_goals first
 | (exact absurd HO.out (by decide))
 | (clear HO
    go_enter Tryz.func171,Tryz.ntmps171
    go_upto_region 1 with fail
    generalize w.alloc _=W at HB HRX ⊢
    obtain ⟨a0,a1,a2,a3,_⟩:=HRX.out.four
    have hla:=HRX.out.lt
    go_wp2_with fail
    refine (HV.out W HB.out).mono ?_
    rintro e w1 h1
    have HZ:=kp (EvlP.step HB.out h1)
    clear h1
    generalize evT g x=o at *
    cases o with
    | some v=>
      obtain rfl:=HZ.out.1
      go_wp2_with fail
      go_ret2
      exact HZ.out
    | none=>
      obtain ⟨a,er,her,rfl⟩:=HZ.out.1
      go_wp2_with fail
      go_ret2
      exact HZ.out)
theorem val_un (hL:LookC f SB g C) {x y:Nd} (hk:x.kind=6∨x.kind=7) (hy:x.kids=[y]) (hV:ValC f SB g C y):ValC f SB g C x:=fun A cap w hC hK=>by
 have HB:=kp (blb w (Obj.cells (ndC x A cap) 26))
 have HRX:=kp (bxn w (ndC x A cap) 26)
 have HE:=kp (show evT g x=(evT g y).bind fun v=>unR x.kind v from by
  rw [evT_eq,hy]
  show valT g x.kind x.num x.name [evT g y]=_
  unfold valT
  rw [if_neg (by omega),if_neg (by omega),if_neg (by omega),if_neg (by omega),if_neg (by omega)]
  rfl)
 have HU:=kp (fun (v:Int) (Y:World)=>unary_any x.kind hk v Y)
 have q1:((x.kind:Int) == 1)=false:=beqF (b:=1) (by omega)
 have q2:((x.kind:Int) == 2)=false:=beqF (b:=2) (by omega)
 have q3:((x.kind:Int) == 3)=false:=beqF (b:=3) (by omega)
 have q4:((x.kind:Int) == 4)=false:=beqF (b:=4) (by omega)
 have q5:((x.kind:Int) == 5)=false:=beqF (b:=5) (by omega)
 obtain ⟨bk,ok,A',cap',rfl,hbk,k0,k1,k2,k3,hKK⟩:=hK.kid (k:=0) (by rw [hy];simp)
 have hl1:x.kids.length=1:=by rw [hy];rfl
 have e0:x.kids[0]'(by omega)=y:=by simp [hy]
 rw [e0] at k0 k1 k2 k3 hKK
 rw [Nat.zero_mul,Nat.add_zero] at k0 k1 k2 k3
 have k0:=blc HB.out k0
 have k1:=blc HB.out k1
 have k2:=blc HB.out k2
 have k3:=blc HB.out k3
 have hbk:=block_lt_of_cell k0
 have HV:=kp (fun (Y:World) (h:Below w.heap.size w Y)=>hV A' cap' Y (hL.keep _ _ hC h) (hKK.mono h))
 have hl1':(x.kids.length:Int)=1:=by omega
 have hq:((x.kids.length:Int) == 1)=true:=by rw [hl1'];rfl
 have r0:(0:Int)<x.kids.length:=by omega
 have HL1:=kp hl1
 clear hk hC hK hL hV hKK hy e0 hl1 hl1'
 go_enter Tryz.func171,Tryz.ntmps171
 go_upto_region 1 with fail
 generalize w.alloc _=W at HB HRX k0 k1 k2 k3 hbk ⊢
 obtain ⟨a0,a1,a2,a3,_⟩:=HRX.out.four
 have hla:=HRX.out.lt
 go_wp2_with fail
 refine (HV.out W HB.out).mono ?_
 rintro e w1 h1
 have HZ:=kp (EvlP.step HB.out h1)
 have HR1:=kp (HRX.out.below h1.2)
 clear h1 a0 a1 a2 a3 hla k0 k1 k2 k3 hbk
 obtain ⟨a0,a1,a2,a3,_⟩:=HR1.out.four
 have hla:=HR1.out.lt
 generalize evT g y=o at *
 cases o with
 | some v=>
   obtain rfl:=HZ.out.1
   have HU1:=kp (HU.out v w1)
   have HE2:=kp (show evT g x=unR x.kind v from HE.out)
   clear HE HU
   generalize unR x.kind v=o2 at *
   go_wp2_with fail
   refine HU1.out.mono ?_
   rintro e w2 h2
   obtain ⟨h2,rfl⟩:=h2
   cases o2 with
   | some v2=>
     obtain rfl:=h2
     go_wp2_with fail
     go_ret2
     exact ⟨by rw [HE2.out];rfl,HZ.out.2⟩
   | none=>
     obtain ⟨a,er,her,rfl⟩:=h2
     go_wp2_with fail
     go_ret2
     exact ⟨by rw [HE2.out];exact ⟨a,er,her,rfl⟩,HZ.out.2⟩
 | none=>
   obtain ⟨a,er,her,rfl⟩:=HZ.out.1
   have hne:(er != 0)=true:=by simpa using her
   have HN:=kp (show EvlP (evT g x) w (.returned (.tuple #[.int .i64 0,.int .i64 er])) w1 from ⟨by rw [HE.out];exact ⟨_,_,her,rfl⟩,HZ.out.2⟩)
   clear HE HZ her
   go_wp2_with fail
   go_ret2
   exact HN.out
theorem val_bin (hL:LookC f SB g C) {x y z:Nd} (hk:8≤x.kind) (hk2:x.kind≤23) (hy:x.kids=[y,z]) (hV:ValC f SB g C y) (hV2:ValC f SB g C z):ValC f SB g C x:=fun A cap w hC hK=>by
 have HB:=kp (blb w (Obj.cells (ndC x A cap) 26))
 have HRX:=kp (bxn w (ndC x A cap) 26)
 have HE:=kp (show evT g x=(evT g y).bind fun v=>(evT g z).bind fun u=>binR x.kind v u from by
  rw [evT_eq,hy]
  show valT g x.kind x.num x.name [evT g y,evT g z]=_
  unfold valT
  rw [if_neg (by omega),if_neg (by omega),if_neg (by omega),if_neg (by omega),if_neg (by omega)]
  rfl)
 have HU:=kp (fun (v u:Int) (Y:World)=>apply_any x.kind hk hk2 v u Y)
 have q1:((x.kind:Int) == 1)=false:=beqF (b:=1) (by omega)
 have q2:((x.kind:Int) == 2)=false:=beqF (b:=2) (by omega)
 have q3:((x.kind:Int) == 3)=false:=beqF (b:=3) (by omega)
 have q4:((x.kind:Int) == 4)=false:=beqF (b:=4) (by omega)
 have q5:((x.kind:Int) == 5)=false:=beqF (b:=5) (by omega)
 obtain ⟨bk,ok,A',cap',rfl,hbk,k0,k1,k2,k3,hKK⟩:=hK.kid (k:=0) (by rw [hy];simp)
 obtain ⟨bk',ok',A2,cap2,e',hbk2,j0,j1,j2,j3,hKK2⟩:=hK.kid (k:=1) (by rw [hy];simp)
 cases e'
 have hl1:x.kids.length=2:=by rw [hy];rfl
 have e0:x.kids[0]'(by omega)=y:=by simp [hy]
 have e1:x.kids[1]'(by omega)=z:=by simp [hy]
 rw [e0] at k0 k1 k2 k3 hKK
 rw [e1] at j0 j1 j2 j3 hKK2
 rw [Nat.zero_mul,Nat.add_zero] at k0 k1 k2 k3
 rw [Nat.one_mul] at j0 j1 j2 j3
 have HJ:=kp (fun (Y:World) (h:Below w.heap.size w Y)=>And.intro (blc h j0) (And.intro (blc h j1) (And.intro (blc h j2) (blc h j3))))
 have k0:=blc HB.out k0
 have k1:=blc HB.out k1
 have k2:=blc HB.out k2
 have k3:=blc HB.out k3
 have hbk:=block_lt_of_cell k0
 have HV:=kp (fun (Y:World) (h:Below w.heap.size w Y)=>hV A' cap' Y (hL.keep _ _ hC h) (hKK.mono h))
 have HV2:=kp (fun (Y:World) (h:Below w.heap.size w Y)=>hV2 A2 cap2 Y (hL.keep _ _ hC h) (hKK2.mono h))
 have hq:((x.kids.length:Int) == 1)=false:=by rw [hl1];rfl
 have r0:(0:Int)<x.kids.length:=by omega
 have r1:(1:Int)<x.kids.length:=by omega
 have r1':1<x.kids.length:=by omega
 clear hk hk2 hC hK hL hV hV2 hKK hKK2 hy e0 e1 hl1 j0 j1 j2 j3 hbk2
 go_enter Tryz.func171,Tryz.ntmps171
 go_upto_region 1 with fail
 generalize w.alloc _=W at HB HRX k0 k1 k2 k3 hbk ⊢
 obtain ⟨a0,a1,a2,a3,_⟩:=HRX.out.four
 have hla:=HRX.out.lt
 go_wp2_with fail
 refine (HV.out W HB.out).mono ?_
 rintro e w1 h1
 have HZ:=kp (EvlP.step HB.out h1)
 have HR1:=kp (HRX.out.below h1.2)
 clear h1 a0 a1 a2 a3 hla k0 k1 k2 k3 hbk
 obtain ⟨a0,a1,a2,a3,_⟩:=HR1.out.four
 have hla:=HR1.out.lt
 generalize evT g y=o at *
 cases o with
 | none=>
   obtain ⟨a,er,her,rfl⟩:=HZ.out.1
   have hne:(er != 0)=true:=by simpa using her
   have HN:=kp (show EvlP (evT g x) w (.returned (.tuple #[.int .i64 0,.int .i64 er])) w1 from ⟨by rw [HE.out];exact ⟨_,_,her,rfl⟩,HZ.out.2⟩)
   clear HE HZ her
   go_wp2_with fail
   go_ret2
   exact HN.out
 | some v=>
   obtain rfl:=HZ.out.1
   obtain ⟨j0,j1,j2,j3⟩:=HJ.out w1 HZ.out.2
   have hbj:=block_lt_of_cell j0
   go_wp2_with fail
   refine (HV2.out w1 HZ.out.2).mono ?_
   rintro e w2 h1
   have HZ2:=kp (EvlP.step HZ.out.2 h1)
   have HR2:=kp (HR1.out.below h1.2)
   clear h1 a0 a1 a2 a3 hla j0 j1 j2 j3 hbj
   obtain ⟨a0,a1,a2,a3,_⟩:=HR2.out.four
   have hla:=HR2.out.lt
   generalize evT g z=o2 at *
   cases o2 with
   | none=>
     obtain ⟨a,er,her,rfl⟩:=HZ2.out.1
     have hne:(er != 0)=true:=by simpa using her
     have HN:=kp (show EvlP (evT g x) w (.returned (.tuple #[.int .i64 0,.int .i64 er])) w2 from ⟨by rw [HE.out];exact ⟨_,_,her,rfl⟩,HZ2.out.2⟩)
     clear HE HZ HZ2 her
     go_wp2_with fail
     go_ret2
     exact HN.out
   | some u=>
     obtain rfl:=HZ2.out.1
     have HU1:=kp (HU.out v u w2)
     have HN:=kp (show EvlP (evT g x) w (.returned (.tuple #[.int .i64 (apR x.kind v u).1,.int .i64 (apR x.kind v u).2])) w2 from ⟨by
      rw [HE.out]
      show match binR x.kind v u with | some q=>_ | none=>_
      unfold binR
      by_cases h0:(apR x.kind v u).2=0
      ·rw [if_pos h0,h0]
      ·rw [if_neg h0];exact ⟨_,_,h0,rfl⟩,HZ2.out.2⟩)
     clear HE HU
     generalize apR x.kind v u=q at *
     go_wp2_with fail
     refine HU1.out.mono ?_
     rintro e w3 ⟨rfl,rfl⟩
     go_wp2_with fail
     go_ret2
     exact HN.out
theorem vrb_2 (hL:LookC f SB g C) {x:Nd} (hk:x.kind=2):VrbC f SB g C x:=fun A cap w hC hK=>by
 have HB:=kp (blb w (Obj.cells (ndC x A cap) 26))
 have HRX:=kp (bxn w (ndC x A cap) 26)
 have HE:=kp (show evT g x=(g x.name).bind fun c=>if c.length=1 then c[0]? else none from by
  rw [evT_eq,hk]
  rfl)
 have HL:=kp (fun (Y:World) (h:Below w.heap.size w Y)=>hL.call x.name Y (hL.keep _ _ hC h))
 have HLN:=kp (fun l (h:g x.name=some l)=>hL.len x.name l h)
 have hen:=hL.ent
 unfold EntF at hen
 have q2:((x.kind:Int) == 2)=true:=by rw [hk];rfl
 have q3:((x.kind:Int) == 3)=false:=by rw [hk];rfl
 have q4:((x.kind:Int) == 4)=false:=by rw [hk];rfl
 clear hk hC hK hL
 go_enter Tryz.func190,Tryz.ntmps190
 go_upto_region 1 with fail
 generalize w.alloc _=W at HB HRX ⊢
 obtain ⟨a0,a1,a2,a3,_⟩:=HRX.out.four
 have hla:=HRX.out.lt
 have HL1:=kp (HL.out W HB.out)
 generalize g x.name=o at *
 go_wp2_with fail
 refine HL1.out.mono ?_
 rintro e w1 ⟨h1,hb1⟩
 have HB1:=kp (bls HB.out HB.out.size hb1)
 have HR1:=kp (HRX.out.below hb1)
 clear a0 a1 a2 a3 hla hb1
 obtain ⟨a0,a1,a2,a3,_⟩:=HR1.out.four
 have hla:=HR1.out.lt
 cases o with
 | none=>
   obtain ⟨A9,n9,c9,rfl⟩:=h1
   go_wp2_with fail
   go_ret2
   exact ⟨by rw [HE.out];exact ⟨_,_,by decide,rfl⟩,HB1.out⟩
 | some c=>
   obtain ⟨A9,c9,rfl,hi9⟩:=h1
   have hlc:=HLN.out c rfl
   have HI:=kp hi9
   clear hi9
   by_cases hc:c.length=1
   ·obtain ⟨v,rfl⟩:=lone hc
    obtain ⟨b,o',rfl,hcell⟩:=HI.out.at_ (k:=0) (by simp)
    have hcb:=block_lt_of_cell hcell
    rw [Nat.add_zero] at hcell
    clear hc
    go_wp2_with fail
    go_ret2
    exact ⟨by rw [HE.out];rfl,HB1.out⟩
   ·have hq:((c.length:Int) != 1)=true:=by simpa using (by omega:¬ (c.length:Int)=1)
    have HC:=kp hc
    clear hc
    go_wp2_with fail
    go_ret2
    exact ⟨by rw [HE.out];show match (if c.length=1 then c[0]? else none) with | some q=>_ | none=>_;rw [if_neg HC.out];exact ⟨_,_,by decide,rfl⟩,HB1.out⟩
theorem vrb_3 (hL:LookC f SB g C) {x y:Nd} (hk:x.kind=3) (hy:x.kids=[y]) (hV:ValC f SB g C y):VrbC f SB g C x:=fun A cap w hC hK=>by
 have HB:=kp (blb w (Obj.cells (ndC x A cap) 26))
 have HRX:=kp (bxn w (ndC x A cap) 26)
 have HE:=kp (show evT g x=(g x.name).bind fun c=>(evT g y).bind fun i=>elem c i from by
  rw [evT_eq,hy,hk]
  rfl)
 have HL:=kp (fun (Y:World) (h:Below w.heap.size w Y)=>hL.call x.name Y (hL.keep _ _ hC h))
 have HLN:=kp (fun l (h:g x.name=some l)=>hL.len x.name l h)
 have hen:=hL.ent
 unfold EntF at hen
 have q2:((x.kind:Int) == 2)=false:=by rw [hk];rfl
 have q3:((x.kind:Int) == 3)=true:=by rw [hk];rfl
 have q4:((x.kind:Int) == 4)=false:=by rw [hk];rfl
 obtain ⟨bk,ok,A',cap',rfl,hbk,k0,k1,k2,k3,hKK⟩:=hK.kid (k:=0) (by rw [hy];simp)
 have hl1:x.kids.length=1:=by rw [hy];rfl
 have e0:x.kids[0]'(by omega)=y:=by simp [hy]
 rw [e0] at k0 k1 k2 k3 hKK
 rw [Nat.zero_mul,Nat.add_zero] at k0 k1 k2 k3
 have HJ:=kp (fun (Y:World) (h:Below w.heap.size w Y)=>And.intro (blc h k0) (And.intro (blc h k1) (And.intro (blc h k2) (blc h k3))))
 have HV:=kp (fun (Y:World) (h:Below w.heap.size w Y)=>hV A' cap' Y (hL.keep _ _ hC h) (hKK.mono h))
 have r9:(0:Int)<x.kids.length:=by omega
 clear hV hKK hy e0 hl1 k0 k1 k2 k3 hbk
 clear hk hC hK hL
 go_enter Tryz.func190,Tryz.ntmps190
 go_upto_region 1 with fail
 generalize w.alloc _=W at HB HRX ⊢
 obtain ⟨a0,a1,a2,a3,_⟩:=HRX.out.four
 have hla:=HRX.out.lt
 have HL1:=kp (HL.out W HB.out)
 generalize g x.name=o at *
 go_wp2_with fail
 refine HL1.out.mono ?_
 rintro e w1 ⟨h1,hb1⟩
 have HB1:=kp (bls HB.out HB.out.size hb1)
 have HR1:=kp (HRX.out.below hb1)
 clear a0 a1 a2 a3 hla hb1
 obtain ⟨a0,a1,a2,a3,_⟩:=HR1.out.four
 have hla:=HR1.out.lt
 cases o with
 | none=>
   obtain ⟨A9,n9,c9,rfl⟩:=h1
   go_wp2_with fail
   go_ret2
   exact ⟨by rw [HE.out];exact ⟨_,_,by decide,rfl⟩,HB1.out⟩
 | some c=>
   obtain ⟨A9,c9,rfl,hi9⟩:=h1
   have hlc:=HLN.out c rfl
   have HI:=kp hi9
   clear hi9
   obtain ⟨k0,k1,k2,k3⟩:=HJ.out w1 HB1.out
   have hbk:=block_lt_of_cell k0
   go_wp2_with fail
   refine (HV.out w1 HB1.out).mono ?_
   rintro e w2 h2
   have HZ:=kp (EvlP.step HB1.out h2)
   have HI2:=kp (HI.out.mono h2.2)
   clear h2 a0 a1 a2 a3 hla k0 k1 k2 k3 hbk
   generalize evT g y=o2 at *
   cases o2 with
   | none=>
     obtain ⟨a,er,her,rfl⟩:=HZ.out.1
     have hne:(er != 0)=true:=by simpa using her
     have HN:=kp (show EvlP (evT g x) w (.returned (.tuple #[.int .i64 0,.int .i64 er])) w2 from ⟨by rw [HE.out];exact ⟨_,_,her,rfl⟩,HZ.out.2⟩)
     clear HE HZ her
     go_wp2_with fail
     go_ret2
     exact HN.out
   | some i=>
     obtain rfl:=HZ.out.1
     by_cases hi:0≤i∧i<c.length
     ·obtain ⟨m,rfl⟩:∃ m:Nat,i=(m:Int):=⟨i.toNat,by omega⟩
      have hml:m<c.length:=by omega
      obtain ⟨b,o',rfl,hcell⟩:=HI2.out.at_ hml
      have hcb:=block_lt_of_cell hcell
      have HE2:=kp (show evT g x=some c[m] from by
       rw [HE.out]
       show elem c (m:Int)=_
       unfold elem
       rw [if_pos hi,Int.toNat_natCast,List.getElem?_eq_getElem hml])
      have r1:(m:Int)<c.length:=by omega
      have r2:(0:Int)≤m:=by omega
      clear hi HE HI HI2
      generalize c[m]=v at *
      clear hml
      go_wp2_with fail
      go_ret2
      exact ⟨by rw [HE2.out];rfl,HZ.out.2⟩
     ·have HE2:=kp (show evT g x=none from by
       rw [HE.out]
       show elem c i=_
       unfold elem
       rw [if_neg hi])
      have HI3:=kp hi
      by_cases hn:i<0
      ·clear hi HE HI HI2
       go_wp2_with fail
       go_ret2
       exact ⟨by rw [HE2.out];exact ⟨_,_,by decide,rfl⟩,HZ.out.2⟩
      ·have r1:¬ i<0:=hn
       have r2:(c.length:Int)≤i:=by omega
       clear hi HE HI HI2
       go_wp2_with fail
       go_ret2
       exact ⟨by rw [HE2.out];exact ⟨_,_,by decide,rfl⟩,HZ.out.2⟩
theorem vrb_4 (hL:LookC f SB g C) {x:Nd} (hk:x.kind=4):VrbC f SB g C x:=fun A cap w hC hK=>by
 have HB:=kp (blb w (Obj.cells (ndC x A cap) 26))
 have HRX:=kp (bxn w (ndC x A cap) 26)
 have HE:=kp (show evT g x=(g x.name).bind fun c=>c.getLast? from by
  rw [evT_eq,hk]
  rfl)
 have HL:=kp (fun (Y:World) (h:Below w.heap.size w Y)=>hL.call x.name Y (hL.keep _ _ hC h))
 have HLN:=kp (fun l (h:g x.name=some l)=>hL.len x.name l h)
 have hen:=hL.ent
 unfold EntF at hen
 have q2:((x.kind:Int) == 2)=false:=by rw [hk];rfl
 have q3:((x.kind:Int) == 3)=false:=by rw [hk];rfl
 have q4:((x.kind:Int) == 4)=true:=by rw [hk];rfl
 clear hk hC hK hL
 go_enter Tryz.func190,Tryz.ntmps190
 go_upto_region 1 with fail
 generalize w.alloc _=W at HB HRX ⊢
 obtain ⟨a0,a1,a2,a3,_⟩:=HRX.out.four
 have hla:=HRX.out.lt
 have HL1:=kp (HL.out W HB.out)
 generalize g x.name=o at *
 go_wp2_with fail
 refine HL1.out.mono ?_
 rintro e w1 ⟨h1,hb1⟩
 have HB1:=kp (bls HB.out HB.out.size hb1)
 have HR1:=kp (HRX.out.below hb1)
 clear a0 a1 a2 a3 hla hb1
 obtain ⟨a0,a1,a2,a3,_⟩:=HR1.out.four
 have hla:=HR1.out.lt
 cases o with
 | none=>
   obtain ⟨A9,n9,c9,rfl⟩:=h1
   go_wp2_with fail
   go_ret2
   exact ⟨by rw [HE.out];exact ⟨_,_,by decide,rfl⟩,HB1.out⟩
 | some c=>
   obtain ⟨A9,c9,rfl,hi9⟩:=h1
   have hlc:=HLN.out c rfl
   have HI:=kp hi9
   clear hi9
   cases hg:c.getLast? with
   | none=>
     obtain rfl:c=[]:=by simpa using hg
     clear hg
     go_wp2_with fail
     go_ret2
     exact ⟨by rw [HE.out];exact ⟨_,_,by decide,rfl⟩,HB1.out⟩
   | some v=>
     have h0:0<c.length:=by cases c;cases hg;simp
     obtain ⟨m,hm⟩:∃ m:Nat,(c.length:Int) - 1=(m:Int):=⟨c.length - 1,by omega⟩
     have hml:m<c.length:=by omega
     obtain ⟨b,o',rfl,hcell⟩:=HI.out.at_ hml
     have hv:c[m]=v:=by
      rw [List.getLast?_eq_getElem?,show c.length - 1=m by omega,List.getElem?_eq_getElem hml] at hg
      exact Option.some.inj hg
     rw [hv] at hcell
     have hcb:=block_lt_of_cell hcell
     have HE2:=kp (show evT g x=some v from by rw [HE.out];exact hg)
     have r0:(0:Int)<c.length:=by omega
     have r1:(m:Int)<c.length:=by omega
     have r2:(0:Int)≤m:=by omega
     have hq:((c.length:Int) == 0)=false:=by simpa using (by omega:¬ (c.length:Int)=0)
     clear hg hv HE h0 HI
     go_wp2_with fail
     go_ret2
     exact ⟨by rw [HE2.out];rfl,HB1.out⟩
theorem vrb_5 (hL:LookC f SB g C) {x:Nd} (hk:x.kind=5):VrbC f SB g C x:=fun A cap w hC hK=>by
 have HB:=kp (blb w (Obj.cells (ndC x A cap) 26))
 have HRX:=kp (bxn w (ndC x A cap) 26)
 have HE:=kp (show evT g x=(g x.name).map fun c=>(c.length:Int) from by
  rw [evT_eq,hk]
  rfl)
 have HL:=kp (fun (Y:World) (h:Below w.heap.size w Y)=>hL.call x.name Y (hL.keep _ _ hC h))
 have HLN:=kp (fun l (h:g x.name=some l)=>hL.len x.name l h)
 have hen:=hL.ent
 unfold EntF at hen
 have q2:((x.kind:Int) == 2)=false:=by rw [hk];rfl
 have q3:((x.kind:Int) == 3)=false:=by rw [hk];rfl
 have q4:((x.kind:Int) == 4)=false:=by rw [hk];rfl
 clear hk hC hK hL
 go_enter Tryz.func190,Tryz.ntmps190
 go_upto_region 1 with fail
 generalize w.alloc _=W at HB HRX ⊢
 obtain ⟨a0,a1,a2,a3,_⟩:=HRX.out.four
 have hla:=HRX.out.lt
 have HL1:=kp (HL.out W HB.out)
 generalize g x.name=o at *
 go_wp2_with fail
 refine HL1.out.mono ?_
 rintro e w1 ⟨h1,hb1⟩
 have HB1:=kp (bls HB.out HB.out.size hb1)
 have HR1:=kp (HRX.out.below hb1)
 clear a0 a1 a2 a3 hla hb1
 obtain ⟨a0,a1,a2,a3,_⟩:=HR1.out.four
 have hla:=HR1.out.lt
 cases o with
 | none=>
   obtain ⟨A9,n9,c9,rfl⟩:=h1
   go_wp2_with fail
   go_ret2
   exact ⟨by rw [HE.out];exact ⟨_,_,by decide,rfl⟩,HB1.out⟩
 | some c=>
   obtain ⟨A9,c9,rfl,hi9⟩:=h1
   have hlc:=HLN.out c rfl
   have HI:=kp hi9
   clear hi9
   go_wp2_with fail
   go_ret2
   exact ⟨by rw [HE.out];rfl,HB1.out⟩
theorem value_all (hL:LookC f SB g C):∀ (N:Nat) (x:Nd),szT x≤N→isExT x=true→ValC f SB g C x:=by
 intro N
 induction N with
 | zero=>intro x hx;have:=szT_pos x;omega
 | succ N ih=>
   intro x hx hE
   obtain ⟨h1,h2,h3,h4,h5⟩:=ex_kids hE
   by_cases c1:x.kind=1
   ·exact val_1 c1
   by_cases c2:x.kind=2
   ·exact val_var hL (.inl c2) (vrb_2 hL c2)
   by_cases c3:x.kind=3
   ·obtain ⟨y,hy,hey⟩:=h4 (.inl c3)
    exact val_var hL (.inr (.inl c3)) (vrb_3 hL c3 hy (ih y (by have:=szT_kid (n:=x) (x:=y) (by rw [hy];simp);omega) hey))
   by_cases c4:x.kind=4
   ·exact val_var hL (.inr (.inr (.inl c4))) (vrb_4 hL c4)
   by_cases c5:x.kind=5
   ·exact val_var hL (.inr (.inr (.inr c5))) (vrb_5 hL c5)
   by_cases c6:x.kind=6∨x.kind=7
   ·obtain ⟨y,hy,hey⟩:=h4 (.inr c6)
    exact val_un hL c6 hy (ih y (by have:=szT_kid (n:=x) (x:=y) (by rw [hy];simp);omega) hey)
   obtain ⟨y,z,hy,hey,hez⟩:=h5 (by omega)
   exact val_bin hL (by omega) h2 hy (ih y (by have:=szT_kid (n:=x) (x:=y) (by rw [hy];simp);omega) hey) (ih z (by have:=szT_kid (n:=x) (x:=z) (by rw [hy];simp);omega) hez)
end
theorem lk_nil (f SB:Nat) (w:World):(binOp BinOp.eql 207 (lkV f SB) Value.nilFunc).run Tryz.prog w=.ok (.bool false) w:=by kernel_rfl
section
variable {f SB:Nat} {g:ByteArray→Option (List Int)} {C:World→Prop}
theorem evExpr_any (hL:LookC f SB g C) {x:Nd} (hE:isExT x=true) (hf:NdFit x) (A:Option Addr) (cap:Nat) (w:World) (hC:C w) (hK:NdsAt w A x.kids):Calls Tryz.prog 152 #[.agg (ndC x A cap),lkV f SB] w (EvlP (evT g x) w):=by
 have HB:=kp (blb w (Obj.cells (ndC x A cap) 26))
 have HRX:=kp (bxn w (ndC x A cap) 26)
 have HX:=kp (fun (Y:World) (h:Below w.heap.size w Y)=>isExpr_any x hf A cap Y (hK.mono h))
 have HV:=kp (fun (Y:World) (h:Below w.heap.size w Y)=>value_all hL _ x (Nat.le_refl _) hE A cap Y (hL.keep _ _ hC h) (hK.mono h))
 rw [hE] at HX
 clear hE hf hC hK hL
 have hnl:=lk_nil f SB
 go_enter Tryz.func152,Tryz.ntmps152
 go_upto_region 1 with fail
 generalize w.alloc _=W at HB HRX ⊢
 obtain ⟨a0,a1,a2,a3,_⟩:=HRX.out.four
 have hla:=HRX.out.lt
 go_wp2_with fail
 refine (HX.out W HB.out).mono ?_
 rintro e w1 ⟨rfl,hb1⟩
 have HB1:=kp (bls HB.out HB.out.size hb1)
 have HR1:=kp (HRX.out.below hb1)
 clear a0 a1 a2 a3 hla hb1
 obtain ⟨a0,a1,a2,a3,_⟩:=HR1.out.four
 have hla:=HR1.out.lt
 go_wp2_with fail
 refine (HV.out w1 HB1.out).mono ?_
 rintro e w2 h2
 have HZ:=kp (EvlP.step HB1.out h2)
 clear h2
 generalize evT g x=o at *
 cases o with
 | some v=>
   obtain rfl:=HZ.out.1
   go_wp2_with fail
   go_ret2
   exact HZ.out
 | none=>
   obtain ⟨a,er,her,rfl⟩:=HZ.out.1
   go_wp2_with fail
   go_ret2
   exact HZ.out
def TstP (o:Option Int) (w:World) (e:Ending) (w':World):Prop:=(match o with | some v=>e=.returned (.tuple #[.bool (decide (v≠0)),.int .i64 0]) | none=>∃ a err,err≠0∧e=.returned (.tuple #[.bool a,.int .i64 err]))∧Below w.heap.size w w'
theorem evTest_any (hL:LookC f SB g C) {x:Nd} (hE:isExT x=true) (hf:NdFit x) (A:Option Addr) (cap:Nat) (w:World) (hC:C w) (hK:NdsAt w A x.kids):Calls Tryz.prog 150 #[.agg (ndC x A cap),lkV f SB] w (TstP (evT g x) w):=by
 have HB:=kp (blb w (Obj.cells (ndC x A cap) 26))
 have HRX:=kp (bxn w (ndC x A cap) 26)
 have HV:=kp (fun (Y:World) (h:Below w.heap.size w Y)=>evExpr_any hL hE hf A cap Y (hL.keep _ _ hC h) (hK.mono h))
 clear hE hf hC hK hL
 go_enter Tryz.func150,Tryz.ntmps150
 go_upto_region 1 with fail
 generalize w.alloc _=W at HB HRX ⊢
 obtain ⟨a0,a1,a2,a3,_⟩:=HRX.out.four
 have hla:=HRX.out.lt
 go_wp2_with fail
 refine (HV.out W HB.out).mono ?_
 rintro e w2 h2
 have HZ:=kp (EvlP.step HB.out h2)
 clear h2
 generalize evT g x=o at *
 cases o with
 | some v=>
   obtain rfl:=HZ.out.1
   have hne:(v != 0)=decide (v≠0):=by by_cases h:v=0<;>simp [h]
   have HN:=kp (show TstP (some v) w (.returned (.tuple #[.bool (decide (v≠0)),.int .i64 0])) w2 from ⟨rfl,HZ.out.2⟩)
   generalize decide (v≠0)=b at *
   go_wp2_with fail
   go_ret2
   exact HN.out
 | none=>
   obtain ⟨a,er,her,rfl⟩:=HZ.out.1
   have HN:=kp (fun b=>show TstP none w (.returned (.tuple #[.bool b,.int .i64 er])) w2 from ⟨⟨_,_,her,rfl⟩,HZ.out.2⟩)
   go_wp2_with fail
   go_ret2
   exact HN.out _
theorem evIndex_any (hL:LookC f SB g C) {x:Nd} (hE:plcB x=true) (hf:NdFit x) (A:Option Addr) (cap:Nat) (w:World) (hC:C w) (hK:NdsAt w A x.kids):Calls Tryz.prog 154 #[.agg (ndC x A cap),lkV f SB] w (EvlP (indexT g x) w):=by
 have HB:=kp (blb w (Obj.cells (ndC x A cap) 26))
 have HRX:=kp (bxn w (ndC x A cap) 26)
 have HX:=kp (fun (Y:World) (h:Below w.heap.size w Y)=>isPlace_any x hf A cap Y (hK.mono h))
 rw [hE] at HX
 unfold plcB at hE
 simp only [Bool.and_eq_true,Bool.or_eq_true,decide_eq_true_eq] at hE
 by_cases h2:x.kind=2
 ·have HE:=kp (show indexT g x=some 0 from if_pos h2)
  have q2:((x.kind:Int) == 2)=true:=by rw [h2];rfl
  clear hE hf hC hK hL h2
  have hnl:=lk_nil f SB
  go_enter Tryz.func154,Tryz.ntmps154
  go_upto_region 1 with fail
  generalize w.alloc _=W at HB HRX ⊢
  obtain ⟨a0,a1,a2,a3,_⟩:=HRX.out.four
  have hla:=HRX.out.lt
  go_wp2_with fail
  refine (HX.out W HB.out).mono ?_
  rintro e w1 ⟨rfl,hb1⟩
  have HB1:=kp (bls HB.out HB.out.size hb1)
  have HR1:=kp (HRX.out.below hb1)
  clear a0 a1 a2 a3 hla hb1
  obtain ⟨a0,a1,a2,a3,_⟩:=HR1.out.four
  have hla:=HR1.out.lt
  go_wp2_with fail
  go_ret2
  exact ⟨by rw [HE.out];rfl,HB1.out⟩
 ·have h3:x.kind=3:=by rcases hE.1 with h | h;exact absurd h h2;exact h
  obtain ⟨y,hy,hey⟩:=(ex_kids hE.2).2.2.2.1 (.inl h3)
  have HE:=kp (show indexT g x=evT g y from by unfold indexT;rw [if_neg h2,kid_eq (y:=y) (by rw [hy];rfl)])
  have q2:((x.kind:Int) == 2)=false:=beqF (b:=2) (by omega)
  obtain ⟨bk,ok,A',cap',rfl,hbk,k0,k1,k2,k3,hKK⟩:=hK.kid (k:=0) (by rw [hy];simp)
  have hl1:x.kids.length=1:=by rw [hy];rfl
  have e0:x.kids[0]'(by omega)=y:=by simp [hy]
  rw [e0] at k0 k1 k2 k3 hKK
  rw [Nat.zero_mul,Nat.add_zero] at k0 k1 k2 k3
  have HJ:=kp (fun (Y:World) (h:Below w.heap.size w Y)=>And.intro (blc h k0) (And.intro (blc h k1) (And.intro (blc h k2) (blc h k3))))
  have HV:=kp (fun (Y:World) (h:Below w.heap.size w Y)=>value_all hL _ y (Nat.le_refl _) hey A' cap' Y (hL.keep _ _ hC h) (hKK.mono h))
  have r9:(0:Int)<x.kids.length:=by omega
  rw [HE.out]
  clear hE hf hC hK hL h2 h3 hy hey hl1 e0 k0 k1 k2 k3 hbk hKK
  have hnl:=lk_nil f SB
  go_enter Tryz.func154,Tryz.ntmps154
  go_upto_region 1 with fail
  generalize w.alloc _=W at HB HRX ⊢
  obtain ⟨a0,a1,a2,a3,_⟩:=HRX.out.four
  have hla:=HRX.out.lt
  go_wp2_with fail
  refine (HX.out W HB.out).mono ?_
  rintro e w1 ⟨rfl,hb1⟩
  have HB1:=kp (bls HB.out HB.out.size hb1)
  have HR1:=kp (HRX.out.below hb1)
  clear a0 a1 a2 a3 hla hb1
  obtain ⟨a0,a1,a2,a3,_⟩:=HR1.out.four
  have hla:=HR1.out.lt
  obtain ⟨k0,k1,k2,k3⟩:=HJ.out w1 HB1.out
  have hbk:=block_lt_of_cell k0
  go_wp2_with fail
  refine (HV.out w1 HB1.out).mono ?_
  rintro e w2 h2
  have HZ:=kp (EvlP.step HB1.out h2)
  clear h2
  generalize evT g y=o at *
  cases o with
  | some v=>
    obtain rfl:=HZ.out.1
    go_wp2_with fail
    go_ret2
    exact HZ.out
  | none=>
    obtain ⟨a,er,her,rfl⟩:=HZ.out.1
    go_wp2_with fail
    go_ret2
    exact HZ.out
end
end Go.Proofs.YtgbomnibedefoaaGreatDoor
