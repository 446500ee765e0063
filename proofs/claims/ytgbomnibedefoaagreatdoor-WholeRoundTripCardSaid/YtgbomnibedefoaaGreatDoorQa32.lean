import Derived.Test.YtgbomnibedefoaaGreatDoorQa31
set_option maxRecDepth 100000
set_option maxHeartbeats 8000000
namespace Go.Proofs.YtgbomnibedefoaaGreatDoor
open Go.ChangeShapes Go.WideShapes Go.ChangeAt Go.RowKit Go.Sort
theorem rej_52 {x:Nd} (hk:x.kind=52) (hp:RjPre x) {A:Option Addr} {ca:Nat} {w:World} (hK:NdsAt w A x.kids):Calls Tryz.prog 91 #[.agg (ndC x A ca)] w (RejP x w):=by
 have HP:=kp hp
 have HB:=kp (blb w (Obj.cells (ndC x A ca) 26))
 have HX:=kp (bxn w (ndC x A ca) 26)
 have HK:=kp (hK.mono HB.out)
 have e56:((x.kind:Int) == 56)=false:=by rw [hk];rfl
 have e40:((x.kind:Int) == 40)=false:=by rw [hk];rfl
 have e41:((x.kind:Int) == 41)=false:=by rw [hk];rfl
 have e42:((x.kind:Int) == 42)=false:=by rw [hk];rfl
 have e43:((x.kind:Int) == 43)=false:=by rw [hk];rfl
 have e44:((x.kind:Int) == 44)=false:=by rw [hk];rfl
 have e45:((x.kind:Int) == 45)=false:=by rw [hk];rfl
 have e46:((x.kind:Int) == 46)=false:=by rw [hk];rfl
 have e47:((x.kind:Int) == 47)=false:=by rw [hk];rfl
 have e48:((x.kind:Int) == 48)=false:=by rw [hk];rfl
 have e49:((x.kind:Int) == 49)=false:=by rw [hk];rfl
 have e50:((x.kind:Int) == 50)=false:=by rw [hk];rfl
 have e51:((x.kind:Int) == 51)=false:=by rw [hk];rfl
 have e52:((x.kind:Int) == 52)=true:=by rw [hk];rfl
 have h0:=hp.four (by omega)
 have HRJ:=kp (show rjB x=true by rw [rjB,if_neg (by omega),if_neg (by omega),if_neg (by omega),if_neg (by omega),if_neg (by omega),if_neg (by omega)])
 clear hK hp hk
 go_enter Tryz.func91,Tryz.ntmps91
 go_upto_region 1 with fail
 generalize w.alloc _=V at HB HX HK ⊢
 obtain ⟨a0,a1,a2,a3,_⟩:=HX.out.four
 have hla:=HX.out.lt
 obtain ⟨bk,ok,A0,c0,rfl,hbk,k0,k1,k2,k3,hK0⟩:=HK.out.kid (show 0<x.kids.length by omega)
 obtain ⟨b',o',A3,c3,e',_,m0,m1,m2,m3,hK3⟩:=HK.out.kid (show 3<x.kids.length by omega)
 injection e' with e'
 injection e' with q1 q2
 subst q1 q2
 rw [Nat.zero_mul,Nat.add_zero] at k0 k1 k2 k3
 simp only [Nat.reduceMul] at m0 m1 m2 m3
 have r1:(0:Int)<x.kids.length:=by omega
 have r2:(3:Int)<x.kids.length:=by omega
 have HC:=kp (constant_any (ca:=c3) (HP.out.kid (List.getElem_mem (show 3<x.kids.length by omega))).1 (HP.out.fit.kid (List.getElem?_eq_getElem (show 3<x.kids.length by omega))) hK3)
 have HC2:=kp (fun (w1:World) (hb:Below V.heap.size V w1)=>constant_any (ca:=c0) (HP.out.kid (List.getElem_mem (show 0<x.kids.length by omega))).1 (HP.out.fit.kid (List.getElem?_eq_getElem (show 0<x.kids.length by omega))) (hK0.mono hb))
 clear hK0 hK3
 generalize x.kids[0]=y at *
 generalize x.kids[3]=z at *
 go_wp2_with fail
 (with_reducible refine Calls.mono HC.out ?_)
 rintro e w1 ⟨b,rfl,hb1⟩
 have HW:=kp (bls HB.out HB.out.size hb1)
 cases b with
 | false=>
   clear hb1
   go_wp2_with fail
   go_ret2
   exact ⟨_,_,rfl,fun _=>HRJ.out,HW.out⟩
 | true=>
   have HC3:=kp (HC2.out w1 hb1)
   have a0:=blc hb1 a0
   have a1:=blc hb1 a1
   have a2:=blc hb1 a2
   have a3:=blc hb1 a3
   have k0:=blc hb1 k0
   have k1:=blc hb1 k1
   have k2:=blc hb1 k2
   have k3:=blc hb1 k3
   have hla:=block_lt_of_cell a0
   have hbk:=block_lt_of_cell k0
   clear hb1
   go_wp2_with fail
   (with_reducible refine Calls.mono HC3.out ?_)
   rintro e w2 ⟨b,rfl,hb2⟩
   have HW2:=kp (bls HW.out HW.out.size hb2)
   clear hb2
   cases b with
   | true=>
     go_wp2_with fail
     go_ret2
     exact ⟨_,_,rfl,fun _=>HRJ.out,HW2.out⟩
   | false=>
     go_wp2_with fail
     go_ret2
     exact ⟨_,_,rfl,by omega,HW2.out⟩
theorem rej_53 {x:Nd} (hk:x.kind=53) (hp:RjPre x) {A:Option Addr} {ca:Nat} {w:World} (hK:NdsAt w A x.kids):Calls Tryz.prog 91 #[.agg (ndC x A ca)] w (RejP x w):=by
 have HP:=kp hp
 have HB:=kp (blb w (Obj.cells (ndC x A ca) 26))
 have HX:=kp (bxn w (ndC x A ca) 26)
 have HK:=kp (hK.mono HB.out)
 have e56:((x.kind:Int) == 56)=false:=by rw [hk];rfl
 have e40:((x.kind:Int) == 40)=false:=by rw [hk];rfl
 have e41:((x.kind:Int) == 41)=false:=by rw [hk];rfl
 have e42:((x.kind:Int) == 42)=false:=by rw [hk];rfl
 have e43:((x.kind:Int) == 43)=false:=by rw [hk];rfl
 have e44:((x.kind:Int) == 44)=false:=by rw [hk];rfl
 have e45:((x.kind:Int) == 45)=false:=by rw [hk];rfl
 have e46:((x.kind:Int) == 46)=false:=by rw [hk];rfl
 have e47:((x.kind:Int) == 47)=false:=by rw [hk];rfl
 have e48:((x.kind:Int) == 48)=false:=by rw [hk];rfl
 have e49:((x.kind:Int) == 49)=false:=by rw [hk];rfl
 have e50:((x.kind:Int) == 50)=false:=by rw [hk];rfl
 have e51:((x.kind:Int) == 51)=false:=by rw [hk];rfl
 have e52:((x.kind:Int) == 52)=false:=by rw [hk];rfl
 have e53:((x.kind:Int) == 53)=true:=by rw [hk];rfl
 have h0:=hp.one (by omega)
 have HRJ:=kp (show rjB x=true by rw [rjB,if_neg (by omega),if_neg (by omega),if_neg (by omega),if_neg (by omega),if_neg (by omega),if_neg (by omega)])
 clear hK hp hk
 go_enter Tryz.func91,Tryz.ntmps91
 go_upto_region 1 with fail
 generalize w.alloc _=V at HB HX HK ⊢
 obtain ⟨a0,a1,a2,a3,_⟩:=HX.out.four
 have hla:=HX.out.lt
 obtain ⟨bk,ok,A',c',rfl,hbk,k0,k1,k2,k3,hKK⟩:=HK.out.kid h0
 rw [Nat.zero_mul,Nat.add_zero] at k0 k1 k2 k3
 have r1:(0:Int)<x.kids.length:=by omega
 have HC:=kp (constant_any (ca:=c') (HP.out.kid (List.getElem_mem h0)).1 (HP.out.fit.kid (List.getElem?_eq_getElem h0)) hKK)
 clear hKK
 generalize x.kids[0]=y at *
 go_wp2_with fail
 (with_reducible refine Calls.mono HC.out ?_)
 rintro e w1 ⟨b,rfl,hb1⟩
 have HW:=kp (bls HB.out HB.out.size hb1)
 clear hb1
 cases b with
 | true=>
   go_wp2_with fail
   go_ret2
   exact ⟨_,_,rfl,by omega,HW.out⟩
 | false=>
   go_wp2_with fail
   go_ret2
   exact ⟨_,_,rfl,fun _=>HRJ.out,HW.out⟩
theorem rej_no {x:Nd} (hk:¬ (40≤x.kind∧x.kind≤53)∧x.kind≠56) {A:Option Addr} {ca:Nat} {w:World}:Calls Tryz.prog 91 #[.agg (ndC x A ca)] w (RejP x w):=by
 have HB:=kp (blb w (Obj.cells (ndC x A ca) 26))
 have HX:=kp (bxn w (ndC x A ca) 26)
 have e56:((x.kind:Int) == 56)=false:=beqF hk.2
 have e40:((x.kind:Int) == 40)=false:=beqF (show x.kind≠40 by omega)
 have e41:((x.kind:Int) == 41)=false:=beqF (show x.kind≠41 by omega)
 have e42:((x.kind:Int) == 42)=false:=beqF (show x.kind≠42 by omega)
 have e43:((x.kind:Int) == 43)=false:=beqF (show x.kind≠43 by omega)
 have e44:((x.kind:Int) == 44)=false:=beqF (show x.kind≠44 by omega)
 have e45:((x.kind:Int) == 45)=false:=beqF (show x.kind≠45 by omega)
 have e46:((x.kind:Int) == 46)=false:=beqF (show x.kind≠46 by omega)
 have e47:((x.kind:Int) == 47)=false:=beqF (show x.kind≠47 by omega)
 have e48:((x.kind:Int) == 48)=false:=beqF (show x.kind≠48 by omega)
 have e49:((x.kind:Int) == 49)=false:=beqF (show x.kind≠49 by omega)
 have e50:((x.kind:Int) == 50)=false:=beqF (show x.kind≠50 by omega)
 have e51:((x.kind:Int) == 51)=false:=beqF (show x.kind≠51 by omega)
 have e52:((x.kind:Int) == 52)=false:=beqF (show x.kind≠52 by omega)
 have e53:((x.kind:Int) == 53)=false:=beqF (show x.kind≠53 by omega)
 have HRJ:=kp (show rjB x=true by rw [rjB,if_neg (by omega),if_neg (by omega),if_neg (by omega),if_neg (by omega),if_neg (by omega),if_neg (by omega)])
 clear hk
 go_enter Tryz.func91,Tryz.ntmps91
 go_upto_region 1 with fail
 generalize w.alloc _=V at HB HX ⊢
 obtain ⟨a0,a1,a2,a3,_⟩:=HX.out.four
 have hla:=HX.out.lt
 go_wp2_with fail
 go_ret2
 exact ⟨_,_,rfl,fun _=>HRJ.out,HB.out⟩
theorem rej_50 {x:Nd} (hk:x.kind=50) (hp:RjPre x) {A:Option Addr} {ca:Nat} (hca:x.kids.length≤ca) {w:World} (hK:NdsAt w A x.kids):Calls Tryz.prog 91 #[.agg (ndC x A ca)] w (RejP x w):=by
 have hl:x.kids.length≤100000:=by have:=szL_len x.kids;have:=szT_eq x;have:=hp.sz;omega
 have HB:=kp (blb w (Obj.cells (ndC x A ca) 26))
 have HX:=kp (bxn w (ndC x A ca) 26)
 have HK:=kp (hK.mono HB.out)
 have e56:((x.kind:Int) == 56)=false:=by rw [hk];rfl
 have e40:((x.kind:Int) == 40)=false:=by rw [hk];rfl
 have e41:((x.kind:Int) == 41)=false:=by rw [hk];rfl
 have e42:((x.kind:Int) == 42)=false:=by rw [hk];rfl
 have e43:((x.kind:Int) == 43)=false:=by rw [hk];rfl
 have e44:((x.kind:Int) == 44)=false:=by rw [hk];rfl
 have e45:((x.kind:Int) == 45)=false:=by rw [hk];rfl
 have e46:((x.kind:Int) == 46)=false:=by rw [hk];rfl
 have e47:((x.kind:Int) == 47)=false:=by rw [hk];rfl
 have e48:((x.kind:Int) == 48)=false:=by rw [hk];rfl
 have e49:((x.kind:Int) == 49)=false:=by rw [hk];rfl
 have e50:((x.kind:Int) == 50)=true:=by rw [hk];rfl
 have HRJ:=kp (show rjB x=decide (x.kids.map Nd.name).Nodup by rw [rjB,if_neg (by omega),if_neg (by omega),if_neg (by omega),if_neg (by omega),if_neg (by omega),if_pos (by omega)])
 clear hK hp hk
 go_enter Tryz.func91,Tryz.ntmps91
 go_upto_region 1 with fail
 generalize w.alloc _=V at HB HX HK ⊢
 obtain ⟨a0,a1,a2,a3,_⟩:=HX.out.four
 have hla:=HX.out.lt
 go_upto_region 24 with fail
 clear a0 a1 a2 a3 hla
 go_loopw [100] (fun i wr=>∃ k:Nat,k≤x.kids.length∧i=.int .i64 k∧Hid (((x.kids.take k).map Nd.name).Nodup∧Below V.heap.size V wr)) (fun i _=>x.kids.length - (intOf i).toNat)
 case atStart=>exact ⟨0,by omega,rfl,kp ⟨by simp,Below.refl _ _⟩⟩
 case round=>
  obtain ⟨k,hk,rfl,HR⟩:=hrel
  by_cases hin:k<x.kids.length
  ·obtain ⟨bk,ok,A',c',rfl,hbk,k0,k1,k2,k3,hKK⟩:=(HK.out.mono HR.out.2).kid hin
   have r0:(0:Int)≤k:=by omega
   have r1:(k:Int)<x.kids.length:=by omega
   have r2:(k:Int)≤ca:=by omega
   have HTK:=kp (fun (q:∀ y∈x.kids.take k,y.name≠x.kids[k].name)=>show ((x.kids.take (k+1)).map Nd.name).Nodup from by
    rw [List.take_succ_eq_append_getElem hin,List.map_append,List.nodup_append]
    refine ⟨HR.out.1,by simp,fun a ha b hb=>?_⟩
    rw [List.mem_map] at ha
    obtain ⟨y,hy,rfl⟩:=ha
    simp at hb
    rw [hb];exact q y hy)
   have HBX:=kp (blb wr (Obj.cells (ndC x.kids[k] A' c') 26))
   have HRX:=kp (bxn wr (ndC x.kids[k] A' c') 26)
   have HBW:=kp (bls HR.out.2 HR.out.2.size HBX.out)
   have HXX:=kp ((HX.out.below HR.out.2).below HBX.out)
   have HTN:=kp (show NdsAt (wr.alloc (Obj.cells (ndC x.kids[k] A' c') 26)) (some ⟨bk,ok,none⟩) (x.kids.take k) from fun j y hy=>(HK.out.mono HBW.out) j y (by rw [List.getElem?_take] at hy;split at hy;exact hy;cases hy))
   have HC:=kp (containsF_any (cap:=ca) (by rw [List.length_take];omega) HTN.out (HRX.out.cell (j:=2) rfl))
   rw [List.length_take,Nat.min_eq_left (by omega)] at HC
   clear hKK
   generalize x.kids[k]=y at *
   go_upto_region 26 with fail
   generalize wr.alloc _=V2 at HBX HRX HBW HXX HTN HC ⊢
   obtain ⟨b0,b1,b2,b3,_⟩:=HRX.out.four
   have hlb:=HRX.out.lt
   obtain ⟨a0,a1,a2,a3,_⟩:=HXX.out.four
   have hla:=HXX.out.lt
   go_wp2_with fail
   (with_reducible refine Calls.mono HC.out ?_)
   rintro e w1 ⟨r,rfl,hr,hb1⟩
   have HW1:=kp (bls HBW.out HBW.out.size hb1)
   have b0:=blc hb1 b0
   have b1:=blc hb1 b1
   have b2:=blc hb1 b2
   have b3:=blc hb1 b3
   have hlb:=block_lt_of_cell b0
   clear hb1
   cases r with
   | true=>
     have HZ:=kp (bls HB.out HB.out.size HW1.out)
     clear hr
     go_wp2_with fail
     go_ret2
     exact ⟨_,_,rfl,by omega,HZ.out⟩
   | false=>
     have HN:=kp (And.intro (HTK.out (hr rfl)) HW1.out)
     clear hr
     go_wp2_with fail
     exact ⟨⟨k+1,by omega,by go_num,HN⟩,by simp [intOf];omega⟩
  ·obtain rfl:k=x.kids.length:=by omega
   have HZ:=kp (And.intro (show rjB x=true by rw [HRJ.out];have:=HR.out.1;rw [List.take_length] at this;exact decide_eq_true this) (bls HB.out HB.out.size HR.out.2))
   go_wp2_with fail
   go_ret2
   exact ⟨_,_,rfl,fun _=>HZ.out.1,HZ.out.2⟩
theorem rej_51 {x:Nd} (hk:x.kind=51) (hp:RjPre x) {A:Option Addr} {ca:Nat} (hca:x.kids.length≤ca) {w:World} (hK:NdsAt w A x.kids):Calls Tryz.prog 91 #[.agg (ndC x A ca)] w (RejP x w):=by
 have hl:x.kids.length≤100000:=by have:=szL_len x.kids;have:=szT_eq x;have:=hp.sz;omega
 have HB:=kp (blb w (Obj.cells (ndC x A ca) 26))
 have HX:=kp (bxn w (ndC x A ca) 26)
 have HK:=kp (hK.mono HB.out)
 have e56:((x.kind:Int) == 56)=false:=by rw [hk];rfl
 have e40:((x.kind:Int) == 40)=false:=by rw [hk];rfl
 have e41:((x.kind:Int) == 41)=false:=by rw [hk];rfl
 have e42:((x.kind:Int) == 42)=false:=by rw [hk];rfl
 have e43:((x.kind:Int) == 43)=false:=by rw [hk];rfl
 have e44:((x.kind:Int) == 44)=false:=by rw [hk];rfl
 have e45:((x.kind:Int) == 45)=false:=by rw [hk];rfl
 have e46:((x.kind:Int) == 46)=false:=by rw [hk];rfl
 have e47:((x.kind:Int) == 47)=false:=by rw [hk];rfl
 have e48:((x.kind:Int) == 48)=false:=by rw [hk];rfl
 have e49:((x.kind:Int) == 49)=false:=by rw [hk];rfl
 have e50:((x.kind:Int) == 50)=false:=by rw [hk];rfl
 have e51:((x.kind:Int) == 51)=true:=by rw [hk];rfl
 have HRJ:=kp (show rjB x=decide (x.kids.map Nd.name).Nodup by rw [rjB,if_neg (by omega),if_neg (by omega),if_neg (by omega),if_neg (by omega),if_neg (by omega),if_pos (by omega)])
 clear hK hp hk
 go_enter Tryz.func91,Tryz.ntmps91
 go_upto_region 1 with fail
 generalize w.alloc _=V at HB HX HK ⊢
 obtain ⟨a0,a1,a2,a3,_⟩:=HX.out.four
 have hla:=HX.out.lt
 go_upto_region 24 with fail
 clear a0 a1 a2 a3 hla
 go_loopw [100] (fun i wr=>∃ k:Nat,k≤x.kids.length∧i=.int .i64 k∧Hid (((x.kids.take k).map Nd.name).Nodup∧Below V.heap.size V wr)) (fun i _=>x.kids.length - (intOf i).toNat)
 case atStart=>exact ⟨0,by omega,rfl,kp ⟨by simp,Below.refl _ _⟩⟩
 case round=>
  obtain ⟨k,hk,rfl,HR⟩:=hrel
  by_cases hin:k<x.kids.length
  ·obtain ⟨bk,ok,A',c',rfl,hbk,k0,k1,k2,k3,hKK⟩:=(HK.out.mono HR.out.2).kid hin
   have r0:(0:Int)≤k:=by omega
   have r1:(k:Int)<x.kids.length:=by omega
   have r2:(k:Int)≤ca:=by omega
   have HTK:=kp (fun (q:∀ y∈x.kids.take k,y.name≠x.kids[k].name)=>show ((x.kids.take (k+1)).map Nd.name).Nodup from by
    rw [List.take_succ_eq_append_getElem hin,List.map_append,List.nodup_append]
    refine ⟨HR.out.1,by simp,fun a ha b hb=>?_⟩
    rw [List.mem_map] at ha
    obtain ⟨y,hy,rfl⟩:=ha
    simp at hb
    rw [hb];exact q y hy)
   have HBX:=kp (blb wr (Obj.cells (ndC x.kids[k] A' c') 26))
   have HRX:=kp (bxn wr (ndC x.kids[k] A' c') 26)
   have HBW:=kp (bls HR.out.2 HR.out.2.size HBX.out)
   have HXX:=kp ((HX.out.below HR.out.2).below HBX.out)
   have HTN:=kp (show NdsAt (wr.alloc (Obj.cells (ndC x.kids[k] A' c') 26)) (some ⟨bk,ok,none⟩) (x.kids.take k) from fun j y hy=>(HK.out.mono HBW.out) j y (by rw [List.getElem?_take] at hy;split at hy;exact hy;cases hy))
   have HC:=kp (containsF_any (cap:=ca) (by rw [List.length_take];omega) HTN.out (HRX.out.cell (j:=2) rfl))
   rw [List.length_take,Nat.min_eq_left (by omega)] at HC
   clear hKK
   generalize x.kids[k]=y at *
   go_upto_region 26 with fail
   generalize wr.alloc _=V2 at HBX HRX HBW HXX HTN HC ⊢
   obtain ⟨b0,b1,b2,b3,_⟩:=HRX.out.four
   have hlb:=HRX.out.lt
   obtain ⟨a0,a1,a2,a3,_⟩:=HXX.out.four
   have hla:=HXX.out.lt
   go_wp2_with fail
   (with_reducible refine Calls.mono HC.out ?_)
   rintro e w1 ⟨r,rfl,hr,hb1⟩
   have HW1:=kp (bls HBW.out HBW.out.size hb1)
   have b0:=blc hb1 b0
   have b1:=blc hb1 b1
   have b2:=blc hb1 b2
   have b3:=blc hb1 b3
   have hlb:=block_lt_of_cell b0
   clear hb1
   cases r with
   | true=>
     have HZ:=kp (bls HB.out HB.out.size HW1.out)
     clear hr
     go_wp2_with fail
     go_ret2
     exact ⟨_,_,rfl,by omega,HZ.out⟩
   | false=>
     have HN:=kp (And.intro (HTK.out (hr rfl)) HW1.out)
     clear hr
     go_wp2_with fail
     exact ⟨⟨k+1,by omega,by go_num,HN⟩,by simp [intOf];omega⟩
  ·obtain rfl:k=x.kids.length:=by omega
   have HZ:=kp (And.intro (show rjB x=true by rw [HRJ.out];have:=HR.out.1;rw [List.take_length] at this;exact decide_eq_true this) (bls HB.out HB.out.size HR.out.2))
   go_wp2_with fail
   go_ret2
   exact ⟨_,_,rfl,fun _=>HZ.out.1,HZ.out.2⟩
theorem sts_one (w:World) (s0:ByteArray) (T:TypeId):StsAt (w.alloc (Obj.cells #[.string s0] T)) (some ⟨w.heap.size,0,none⟩) [s0]:=fun k s hk=>by
 match k,hk with
 | 0,hk=>cases hk;exact ⟨w.heap.size,0,rfl,(bxn w _ T).cell rfl⟩
 | k+1,hk=>simp at hk
theorem sts_two (w:World) (s0 s1:ByteArray) (T:TypeId):StsAt (w.alloc (Obj.cells #[.string s0,.string s1] T)) (some ⟨w.heap.size,0,none⟩) [s0,s1]:=fun k s hk=>by
 match k,hk with
 | 0,hk=>cases hk;exact ⟨w.heap.size,0,rfl,(bxn w _ T).cell rfl⟩
 | 1,hk=>cases hk;exact ⟨w.heap.size,0,rfl,(bxn w _ T).cell rfl⟩
 | k+2,hk=>simp at hk
theorem rej_44 {x:Nd} (hk:x.kind=44) (hp:RjPre x) {A:Option Addr} {ca:Nat} {w:World} (hK:NdsAt w A x.kids):Calls Tryz.prog 91 #[.agg (ndC x A ca)] w (RejP x w):=by
 have HP:=kp hp
 have HB:=kp (blb w (Obj.cells (ndC x A ca) 26))
 have HX:=kp (bxn w (ndC x A ca) 26)
 have HK:=kp (hK.mono HB.out)
 have e56:((x.kind:Int) == 56)=false:=by rw [hk];rfl
 have e40:((x.kind:Int) == 40)=false:=by rw [hk];rfl
 have e41:((x.kind:Int) == 41)=false:=by rw [hk];rfl
 have e42:((x.kind:Int) == 42)=false:=by rw [hk];rfl
 have e43:((x.kind:Int) == 43)=false:=by rw [hk];rfl
 have e44:((x.kind:Int) == 44)=true:=by rw [hk];rfl
 have h0:=hp.one (by omega)
 have HRJ:=kp (show (∀ p∈x.kids,∀ s∈[x.kids[0].name,x.name],idxT p s=false)→rjB x=true from fun h=>by
  rw [rjB,if_neg (by omega),if_neg (by omega),if_neg (by omega),if_pos (by omega),kid_eq (List.getElem?_eq_getElem h0)]
  rw [h _ (List.getElem_mem _) _ (List.mem_cons_self ..),h _ (List.getElem_mem _) x.name (by simp)];rfl)
 have hl:x.kids.length≤100000:=by have:=szL_len x.kids;have:=szT_eq x;have:=hp.sz;omega
 clear hk
 clear hK hp
 go_enter Tryz.func91,Tryz.ntmps91
 go_upto_region 1 with fail
 generalize w.alloc _=V at HB HX HK ⊢
 obtain ⟨a0,a1,a2,a3,_⟩:=HX.out.four
 have hla:=HX.out.lt
 have HC:=kp (alias_any (ca:=ca) (cb:=2) (ss:=[x.kids[0].name,x.name]) hl (by simp) (fun p h=>HP.out.kid h) (HK.out.mono (bld (blb V (Obj.cells #[.string x.kids[0].name,.string x.name] 9)))) ((sts_two V x.kids[0].name x.name 9).mono (bld (Below.refl _ _))))
 obtain ⟨bk,ok,A',c',rfl,hbk,k0,k1,k2,k3,hKK⟩:=HK.out.kid h0
 rw [Nat.zero_mul,Nat.add_zero] at k0 k1 k2 k3
 have r1:(0:Int)<x.kids.length:=by omega
 clear hKK
 generalize x.kids[0]=y at *
 have HBZ:=kp (show Below w.heap.size w (V.alloc (Obj.cells #[.string y.name,.string x.name] 9)).drew from bld (bls HB.out HB.out.size (blb V _)))
 have HW:=kp (fun (w8:World) (h:Below (V.alloc (Obj.cells #[.string y.name,.string x.name] 9)).drew.heap.size (V.alloc (Obj.cells #[.string y.name,.string x.name] 9)).drew w8)=>show Below w.heap.size w w8 from bls HBZ.out HBZ.out.size h)
 go_upto_region 15 with fail
 go_cut [2,3] (fun v2 v3 wc=>∃ (s:ByteArray) (er:Int),v2=.string s∧v3=.int .i64 er∧Hid (RejP x w (.returned (.tuple #[.string s,.int .i64 er])) wc))
 case first=>
  clear e56 e40 e41 e42 e43 e44 k0 k1 k3 a0 a1
  go_region_law (first
   | (go_simp;go_at_call 125;(with_reducible refine Calls.mono HC.out ?_);rintro e w8 ⟨s8,er,rfl,her,hb8⟩;have HM:=kp (show RejP x w (.returned (.tuple #[.string s8,.int .i64 er])) w8 from ⟨s8,er,rfl,fun h=>HRJ.out (her h),HW.out w8 hb8⟩);clear her hb8;dsimp only)
   | fail)
  all_goals
   go_simp
   go_wp2_with fail
   go_meet
   exact ⟨_,_,rfl,rfl,HM⟩
 case rest=>
  obtain ⟨s8,er,rfl,rfl,HM⟩:=hcut
  go_wp2_with fail
  go_ret2
  exact HM.out
theorem rej_45 {x:Nd} (hk:x.kind=45) (hp:RjPre x) {A:Option Addr} {ca:Nat} {w:World} (hK:NdsAt w A x.kids):Calls Tryz.prog 91 #[.agg (ndC x A ca)] w (RejP x w):=by
 have HP:=kp hp
 have HB:=kp (blb w (Obj.cells (ndC x A ca) 26))
 have HX:=kp (bxn w (ndC x A ca) 26)
 have HK:=kp (hK.mono HB.out)
 have e56:((x.kind:Int) == 56)=false:=by rw [hk];rfl
 have e40:((x.kind:Int) == 40)=false:=by rw [hk];rfl
 have e41:((x.kind:Int) == 41)=false:=by rw [hk];rfl
 have e42:((x.kind:Int) == 42)=false:=by rw [hk];rfl
 have e43:((x.kind:Int) == 43)=false:=by rw [hk];rfl
 have e44:((x.kind:Int) == 44)=false:=by rw [hk];rfl
 have e45:((x.kind:Int) == 45)=true:=by rw [hk];rfl
 have h0:=hp.one (by omega)
 have HRJ:=kp (show (∀ p∈x.kids,∀ s∈[x.kids[0].name,x.name],idxT p s=false)→rjB x=true from fun h=>by
  rw [rjB,if_neg (by omega),if_neg (by omega),if_neg (by omega),if_pos (by omega),kid_eq (List.getElem?_eq_getElem h0)]
  rw [h _ (List.getElem_mem _) _ (List.mem_cons_self ..),h _ (List.getElem_mem _) x.name (by simp)];rfl)
 have hl:x.kids.length≤100000:=by have:=szL_len x.kids;have:=szT_eq x;have:=hp.sz;omega
 clear hk
 clear hK hp
 go_enter Tryz.func91,Tryz.ntmps91
 go_upto_region 1 with fail
 generalize w.alloc _=V at HB HX HK ⊢
 obtain ⟨a0,a1,a2,a3,_⟩:=HX.out.four
 have hla:=HX.out.lt
 have HC:=kp (alias_any (ca:=ca) (cb:=2) (ss:=[x.kids[0].name,x.name]) hl (by simp) (fun p h=>HP.out.kid h) (HK.out.mono (bld (blb V (Obj.cells #[.string x.kids[0].name,.string x.name] 9)))) ((sts_two V x.kids[0].name x.name 9).mono (bld (Below.refl _ _))))
 obtain ⟨bk,ok,A',c',rfl,hbk,k0,k1,k2,k3,hKK⟩:=HK.out.kid h0
 rw [Nat.zero_mul,Nat.add_zero] at k0 k1 k2 k3
 have r1:(0:Int)<x.kids.length:=by omega
 clear hKK
 generalize x.kids[0]=y at *
 have HBZ:=kp (show Below w.heap.size w (V.alloc (Obj.cells #[.string y.name,.string x.name] 9)).drew from bld (bls HB.out HB.out.size (blb V _)))
 have HW:=kp (fun (w8:World) (h:Below (V.alloc (Obj.cells #[.string y.name,.string x.name] 9)).drew.heap.size (V.alloc (Obj.cells #[.string y.name,.string x.name] 9)).drew w8)=>show Below w.heap.size w w8 from bls HBZ.out HBZ.out.size h)
 go_upto_region 15 with fail
 go_cut [2,3] (fun v2 v3 wc=>∃ (s:ByteArray) (er:Int),v2=.string s∧v3=.int .i64 er∧Hid (RejP x w (.returned (.tuple #[.string s,.int .i64 er])) wc))
 case first=>
  clear e56 e40 e41 e42 e43 e44 e45 k0 k1 k3 a0 a1
  go_region_law (first
   | (go_simp;go_at_call 125;(with_reducible refine Calls.mono HC.out ?_);rintro e w8 ⟨s8,er,rfl,her,hb8⟩;have HM:=kp (show RejP x w (.returned (.tuple #[.string s8,.int .i64 er])) w8 from ⟨s8,er,rfl,fun h=>HRJ.out (her h),HW.out w8 hb8⟩);clear her hb8;dsimp only)
   | fail)
  all_goals
   go_simp
   go_wp2_with fail
   go_meet
   exact ⟨_,_,rfl,rfl,HM⟩
 case rest=>
  obtain ⟨s8,er,rfl,rfl,HM⟩:=hcut
  go_wp2_with fail
  go_ret2
  exact HM.out
theorem rej_46 {x:Nd} (hk:x.kind=46) (hp:RjPre x) {A:Option Addr} {ca:Nat} {w:World} (hK:NdsAt w A x.kids):Calls Tryz.prog 91 #[.agg (ndC x A ca)] w (RejP x w):=by
 have HP:=kp hp
 have HB:=kp (blb w (Obj.cells (ndC x A ca) 26))
 have HX:=kp (bxn w (ndC x A ca) 26)
 have HK:=kp (hK.mono HB.out)
 have e56:((x.kind:Int) == 56)=false:=by rw [hk];rfl
 have e40:((x.kind:Int) == 40)=false:=by rw [hk];rfl
 have e41:((x.kind:Int) == 41)=false:=by rw [hk];rfl
 have e42:((x.kind:Int) == 42)=false:=by rw [hk];rfl
 have e43:((x.kind:Int) == 43)=false:=by rw [hk];rfl
 have e44:((x.kind:Int) == 44)=false:=by rw [hk];rfl
 have e45:((x.kind:Int) == 45)=false:=by rw [hk];rfl
 have e46:((x.kind:Int) == 46)=true:=by rw [hk];rfl
 have h0:=hp.one (by omega)
 have HRJ:=kp (show (∀ p∈x.kids,∀ s∈[x.kids[0].name],idxT p s=false)→rjB x=true from fun h=>by
  rw [rjB,if_neg (by omega),if_neg (by omega),if_neg (by omega),if_neg (by omega),if_pos (by omega),kid_eq (List.getElem?_eq_getElem h0)]
  rw [h _ (List.getElem_mem _) _ (List.mem_cons_self ..)];rfl)
 have hl:x.kids.length≤100000:=by have:=szL_len x.kids;have:=szT_eq x;have:=hp.sz;omega
 clear hk
 clear hK hp
 go_enter Tryz.func91,Tryz.ntmps91
 go_upto_region 1 with fail
 generalize w.alloc _=V at HB HX HK ⊢
 obtain ⟨a0,a1,a2,a3,_⟩:=HX.out.four
 have hla:=HX.out.lt
 have HC:=kp (alias_any (ca:=ca) (cb:=1) (ss:=[x.kids[0].name]) hl (by simp) (fun p h=>HP.out.kid h) (HK.out.mono (bld (blb V (Obj.cells #[.string x.kids[0].name] 9)))) ((sts_one V x.kids[0].name 9).mono (bld (Below.refl _ _))))
 obtain ⟨bk,ok,A',c',rfl,hbk,k0,k1,k2,k3,hKK⟩:=HK.out.kid h0
 rw [Nat.zero_mul,Nat.add_zero] at k0 k1 k2 k3
 have r1:(0:Int)<x.kids.length:=by omega
 clear hKK
 generalize x.kids[0]=y at *
 have HBZ:=kp (show Below w.heap.size w (V.alloc (Obj.cells #[.string y.name] 9)).drew from bld (bls HB.out HB.out.size (blb V _)))
 have HW:=kp (fun (w8:World) (h:Below (V.alloc (Obj.cells #[.string y.name] 9)).drew.heap.size (V.alloc (Obj.cells #[.string y.name] 9)).drew w8)=>show Below w.heap.size w w8 from bls HBZ.out HBZ.out.size h)
 go_upto_region 20 with fail
 go_cut [2,3] (fun v2 v3 wc=>∃ (s:ByteArray) (er:Int),v2=.string s∧v3=.int .i64 er∧Hid (RejP x w (.returned (.tuple #[.string s,.int .i64 er])) wc))
 case first=>
  clear e56 e40 e41 e42 e43 e44 e45 e46 k0 k1 k3 a0 a1
  go_region_law (first
   | (go_simp;go_at_call 125;(with_reducible refine Calls.mono HC.out ?_);rintro e w8 ⟨s8,er,rfl,her,hb8⟩;have HM:=kp (show RejP x w (.returned (.tuple #[.string s8,.int .i64 er])) w8 from ⟨s8,er,rfl,fun h=>HRJ.out (her h),HW.out w8 hb8⟩);clear her hb8;dsimp only)
   | fail)
  all_goals
   go_simp
   go_wp2_with fail
   go_meet
   exact ⟨_,_,rfl,rfl,HM⟩
 case rest=>
  obtain ⟨s8,er,rfl,rfl,HM⟩:=hcut
  go_wp2_with fail
  go_ret2
  exact HM.out
theorem rej_47 {x:Nd} (hk:x.kind=47) (hp:RjPre x) {A:Option Addr} {ca:Nat} {w:World} (hK:NdsAt w A x.kids):Calls Tryz.prog 91 #[.agg (ndC x A ca)] w (RejP x w):=by
 have HP:=kp hp
 have HB:=kp (blb w (Obj.cells (ndC x A ca) 26))
 have HX:=kp (bxn w (ndC x A ca) 26)
 have HK:=kp (hK.mono HB.out)
 have e56:((x.kind:Int) == 56)=false:=by rw [hk];rfl
 have e40:((x.kind:Int) == 40)=false:=by rw [hk];rfl
 have e41:((x.kind:Int) == 41)=false:=by rw [hk];rfl
 have e42:((x.kind:Int) == 42)=false:=by rw [hk];rfl
 have e43:((x.kind:Int) == 43)=false:=by rw [hk];rfl
 have e44:((x.kind:Int) == 44)=false:=by rw [hk];rfl
 have e45:((x.kind:Int) == 45)=false:=by rw [hk];rfl
 have e46:((x.kind:Int) == 46)=false:=by rw [hk];rfl
 have e47:((x.kind:Int) == 47)=true:=by rw [hk];rfl
 have h0:=hp.one (by omega)
 have HRJ:=kp (show (∀ p∈x.kids,∀ s∈[x.kids[0].name],idxT p s=false)→rjB x=true from fun h=>by
  rw [rjB,if_neg (by omega),if_neg (by omega),if_neg (by omega),if_neg (by omega),if_pos (by omega),kid_eq (List.getElem?_eq_getElem h0)]
  rw [h _ (List.getElem_mem _) _ (List.mem_cons_self ..)];rfl)
 have hl:x.kids.length≤100000:=by have:=szL_len x.kids;have:=szT_eq x;have:=hp.sz;omega
 clear hk
 clear hK hp
 go_enter Tryz.func91,Tryz.ntmps91
 go_upto_region 1 with fail
 generalize w.alloc _=V at HB HX HK ⊢
 obtain ⟨a0,a1,a2,a3,_⟩:=HX.out.four
 have hla:=HX.out.lt
 have HC:=kp (alias_any (ca:=ca) (cb:=1) (ss:=[x.kids[0].name]) hl (by simp) (fun p h=>HP.out.kid h) (HK.out.mono (bld (blb V (Obj.cells #[.string x.kids[0].name] 9)))) ((sts_one V x.kids[0].name 9).mono (bld (Below.refl _ _))))
 obtain ⟨bk,ok,A',c',rfl,hbk,k0,k1,k2,k3,hKK⟩:=HK.out.kid h0
 rw [Nat.zero_mul,Nat.add_zero] at k0 k1 k2 k3
 have r1:(0:Int)<x.kids.length:=by omega
 clear hKK
 generalize x.kids[0]=y at *
 have HBZ:=kp (show Below w.heap.size w (V.alloc (Obj.cells #[.string y.name] 9)).drew from bld (bls HB.out HB.out.size (blb V _)))
 have HW:=kp (fun (w8:World) (h:Below (V.alloc (Obj.cells #[.string y.name] 9)).drew.heap.size (V.alloc (Obj.cells #[.string y.name] 9)).drew w8)=>show Below w.heap.size w w8 from bls HBZ.out HBZ.out.size h)
 go_upto_region 20 with fail
 go_cut [2,3] (fun v2 v3 wc=>∃ (s:ByteArray) (er:Int),v2=.string s∧v3=.int .i64 er∧Hid (RejP x w (.returned (.tuple #[.string s,.int .i64 er])) wc))
 case first=>
  clear e56 e40 e41 e42 e43 e44 e45 e46 e47 k0 k1 k3 a0 a1
  go_region_law (first
   | (go_simp;go_at_call 125;(with_reducible refine Calls.mono HC.out ?_);rintro e w8 ⟨s8,er,rfl,her,hb8⟩;have HM:=kp (show RejP x w (.returned (.tuple #[.string s8,.int .i64 er])) w8 from ⟨s8,er,rfl,fun h=>HRJ.out (her h),HW.out w8 hb8⟩);clear her hb8;dsimp only)
   | fail)
  all_goals
   go_simp
   go_wp2_with fail
   go_meet
   exact ⟨_,_,rfl,rfl,HM⟩
 case rest=>
  obtain ⟨s8,er,rfl,rfl,HM⟩:=hcut
  go_wp2_with fail
  go_ret2
  exact HM.out
theorem rej_48 {x:Nd} (hk:x.kind=48) (hp:RjPre x) {A:Option Addr} {ca:Nat} {w:World} (hK:NdsAt w A x.kids):Calls Tryz.prog 91 #[.agg (ndC x A ca)] w (RejP x w):=by
 have HP:=kp hp
 have HB:=kp (blb w (Obj.cells (ndC x A ca) 26))
 have HX:=kp (bxn w (ndC x A ca) 26)
 have HK:=kp (hK.mono HB.out)
 have e56:((x.kind:Int) == 56)=false:=by rw [hk];rfl
 have e40:((x.kind:Int) == 40)=false:=by rw [hk];rfl
 have e41:((x.kind:Int) == 41)=false:=by rw [hk];rfl
 have e42:((x.kind:Int) == 42)=false:=by rw [hk];rfl
 have e43:((x.kind:Int) == 43)=false:=by rw [hk];rfl
 have e44:((x.kind:Int) == 44)=false:=by rw [hk];rfl
 have e45:((x.kind:Int) == 45)=false:=by rw [hk];rfl
 have e46:((x.kind:Int) == 46)=false:=by rw [hk];rfl
 have e47:((x.kind:Int) == 47)=false:=by rw [hk];rfl
 have e48:((x.kind:Int) == 48)=true:=by rw [hk];rfl
 have h0:=hp.one (by omega)
 have HRJ:=kp (show (∀ p∈x.kids,∀ s∈[x.kids[0].name],idxT p s=false)→rjB x=true from fun h=>by
  rw [rjB,if_neg (by omega),if_neg (by omega),if_neg (by omega),if_neg (by omega),if_pos (by omega),kid_eq (List.getElem?_eq_getElem h0)]
  rw [h _ (List.getElem_mem _) _ (List.mem_cons_self ..)];rfl)
 have hl:x.kids.length≤100000:=by have:=szL_len x.kids;have:=szT_eq x;have:=hp.sz;omega
 clear hk
 clear hK hp
 go_enter Tryz.func91,Tryz.ntmps91
 go_upto_region 1 with fail
 generalize w.alloc _=V at HB HX HK ⊢
 obtain ⟨a0,a1,a2,a3,_⟩:=HX.out.four
 have hla:=HX.out.lt
 have HC:=kp (alias_any (ca:=ca) (cb:=1) (ss:=[x.kids[0].name]) hl (by simp) (fun p h=>HP.out.kid h) (HK.out.mono (bld (blb V (Obj.cells #[.string x.kids[0].name] 9)))) ((sts_one V x.kids[0].name 9).mono (bld (Below.refl _ _))))
 obtain ⟨bk,ok,A',c',rfl,hbk,k0,k1,k2,k3,hKK⟩:=HK.out.kid h0
 rw [Nat.zero_mul,Nat.add_zero] at k0 k1 k2 k3
 have r1:(0:Int)<x.kids.length:=by omega
 clear hKK
 generalize x.kids[0]=y at *
 have HBZ:=kp (show Below w.heap.size w (V.alloc (Obj.cells #[.string y.name] 9)).drew from bld (bls HB.out HB.out.size (blb V _)))
 have HW:=kp (fun (w8:World) (h:Below (V.alloc (Obj.cells #[.string y.name] 9)).drew.heap.size (V.alloc (Obj.cells #[.string y.name] 9)).drew w8)=>show Below w.heap.size w w8 from bls HBZ.out HBZ.out.size h)
 go_upto_region 20 with fail
 go_cut [2,3] (fun v2 v3 wc=>∃ (s:ByteArray) (er:Int),v2=.string s∧v3=.int .i64 er∧Hid (RejP x w (.returned (.tuple #[.string s,.int .i64 er])) wc))
 case first=>
  clear e56 e40 e41 e42 e43 e44 e45 e46 e47 e48 k0 k1 k3 a0 a1
  go_region_law (first
   | (go_simp;go_at_call 125;(with_reducible refine Calls.mono HC.out ?_);rintro e w8 ⟨s8,er,rfl,her,hb8⟩;have HM:=kp (show RejP x w (.returned (.tuple #[.string s8,.int .i64 er])) w8 from ⟨s8,er,rfl,fun h=>HRJ.out (her h),HW.out w8 hb8⟩);clear her hb8;dsimp only)
   | fail)
  all_goals
   go_simp
   go_wp2_with fail
   go_meet
   exact ⟨_,_,rfl,rfl,HM⟩
 case rest=>
  obtain ⟨s8,er,rfl,rfl,HM⟩:=hcut
  go_wp2_with fail
  go_ret2
  exact HM.out
theorem rej_49 {x:Nd} (hk:x.kind=49) (hp:RjPre x) {A:Option Addr} {ca:Nat} {w:World} (hK:NdsAt w A x.kids):Calls Tryz.prog 91 #[.agg (ndC x A ca)] w (RejP x w):=by
 have HP:=kp hp
 have HB:=kp (blb w (Obj.cells (ndC x A ca) 26))
 have HX:=kp (bxn w (ndC x A ca) 26)
 have HK:=kp (hK.mono HB.out)
 have e56:((x.kind:Int) == 56)=false:=by rw [hk];rfl
 have e40:((x.kind:Int) == 40)=false:=by rw [hk];rfl
 have e41:((x.kind:Int) == 41)=false:=by rw [hk];rfl
 have e42:((x.kind:Int) == 42)=false:=by rw [hk];rfl
 have e43:((x.kind:Int) == 43)=false:=by rw [hk];rfl
 have e44:((x.kind:Int) == 44)=false:=by rw [hk];rfl
 have e45:((x.kind:Int) == 45)=false:=by rw [hk];rfl
 have e46:((x.kind:Int) == 46)=false:=by rw [hk];rfl
 have e47:((x.kind:Int) == 47)=false:=by rw [hk];rfl
 have e48:((x.kind:Int) == 48)=false:=by rw [hk];rfl
 have e49:((x.kind:Int) == 49)=true:=by rw [hk];rfl
 have h0:=hp.one (by omega)
 have HRJ:=kp (show (∀ p∈x.kids,∀ s∈[x.kids[0].name],idxT p s=false)→rjB x=true from fun h=>by
  rw [rjB,if_neg (by omega),if_neg (by omega),if_neg (by omega),if_neg (by omega),if_pos (by omega),kid_eq (List.getElem?_eq_getElem h0)]
  rw [h _ (List.getElem_mem _) _ (List.mem_cons_self ..)];rfl)
 have hl:x.kids.length≤100000:=by have:=szL_len x.kids;have:=szT_eq x;have:=hp.sz;omega
 clear hk
 clear hK hp
 go_enter Tryz.func91,Tryz.ntmps91
 go_upto_region 1 with fail
 generalize w.alloc _=V at HB HX HK ⊢
 obtain ⟨a0,a1,a2,a3,_⟩:=HX.out.four
 have hla:=HX.out.lt
 have HC:=kp (alias_any (ca:=ca) (cb:=1) (ss:=[x.kids[0].name]) hl (by simp) (fun p h=>HP.out.kid h) (HK.out.mono (bld (blb V (Obj.cells #[.string x.kids[0].name] 9)))) ((sts_one V x.kids[0].name 9).mono (bld (Below.refl _ _))))
 obtain ⟨bk,ok,A',c',rfl,hbk,k0,k1,k2,k3,hKK⟩:=HK.out.kid h0
 rw [Nat.zero_mul,Nat.add_zero] at k0 k1 k2 k3
 have r1:(0:Int)<x.kids.length:=by omega
 clear hKK
 generalize x.kids[0]=y at *
 have HBZ:=kp (show Below w.heap.size w (V.alloc (Obj.cells #[.string y.name] 9)).drew from bld (bls HB.out HB.out.size (blb V _)))
 have HW:=kp (fun (w8:World) (h:Below (V.alloc (Obj.cells #[.string y.name] 9)).drew.heap.size (V.alloc (Obj.cells #[.string y.name] 9)).drew w8)=>show Below w.heap.size w w8 from bls HBZ.out HBZ.out.size h)
 go_upto_region 20 with fail
 go_cut [2,3] (fun v2 v3 wc=>∃ (s:ByteArray) (er:Int),v2=.string s∧v3=.int .i64 er∧Hid (RejP x w (.returned (.tuple #[.string s,.int .i64 er])) wc))
 case first=>
  clear e56 e40 e41 e42 e43 e44 e45 e46 e47 e48 e49 k0 k1 k3 a0 a1
  go_region_law (first
   | (go_simp;go_at_call 125;(with_reducible refine Calls.mono HC.out ?_);rintro e w8 ⟨s8,er,rfl,her,hb8⟩;have HM:=kp (show RejP x w (.returned (.tuple #[.string s8,.int .i64 er])) w8 from ⟨s8,er,rfl,fun h=>HRJ.out (her h),HW.out w8 hb8⟩);clear her hb8;dsimp only)
   | fail)
  all_goals
   go_simp
   go_wp2_with fail
   go_meet
   exact ⟨_,_,rfl,rfl,HM⟩
 case rest=>
  obtain ⟨s8,er,rfl,rfl,HM⟩:=hcut
  go_wp2_with fail
  go_ret2
  exact HM.out
theorem rej_43 {x:Nd} (hk:x.kind=43) (hp:RjPre x) {A:Option Addr} {ca:Nat} {w:World} (hK:NdsAt w A x.kids):Calls Tryz.prog 91 #[.agg (ndC x A ca)] w (RejP x w):=by
 have HP:=kp hp
 have HB:=kp (blb w (Obj.cells (ndC x A ca) 26))
 have HX:=kp (bxn w (ndC x A ca) 26)
 have HK:=kp (hK.mono HB.out)
 have e56:((x.kind:Int) == 56)=false:=by rw [hk];rfl
 have e40:((x.kind:Int) == 40)=false:=by rw [hk];rfl
 have e41:((x.kind:Int) == 41)=false:=by rw [hk];rfl
 have e42:((x.kind:Int) == 42)=false:=by rw [hk];rfl
 have e43:((x.kind:Int) == 43)=true:=by rw [hk];rfl
 have h2:=hp.two (by omega)
 have HRJ:=kp (show (∀ p∈x.kids,∀ s∈[x.kids[0].name,x.kids[1].name],idxT p s=false)→rjB x=true from fun h=>by
  rw [rjB,if_neg (by omega),if_neg (by omega),if_pos (by omega),kid_eq (List.getElem?_eq_getElem (by omega:0<x.kids.length)),kid_eq (List.getElem?_eq_getElem (by omega:1<x.kids.length))]
  rw [h x.kids[0] (List.getElem_mem _) x.kids[0].name (by simp),h x.kids[0] (List.getElem_mem _) x.kids[1].name (by simp),h x.kids[1] (List.getElem_mem _) x.kids[0].name (by simp),h x.kids[1] (List.getElem_mem _) x.kids[1].name (by simp)];rfl)
 have hl:x.kids.length≤100000:=by have:=szL_len x.kids;have:=szT_eq x;have:=hp.sz;omega
 clear hk
 clear hK hp
 go_enter Tryz.func91,Tryz.ntmps91
 go_upto_region 1 with fail
 generalize w.alloc _=V at HB HX HK ⊢
 obtain ⟨a0,a1,a2,a3,_⟩:=HX.out.four
 have hla:=HX.out.lt
 obtain ⟨bk,ok,A0,c0,A1,c1,hA,hbk,k0,k1,k2,k3,hK0,m0,m1,m2,m3,hK1⟩:=two_kids HK.out h2
 have r1:(0:Int)<x.kids.length:=by omega
 have r2:(1:Int)<x.kids.length:=by omega
 have HC:=kp (fun (wc:World) (hb:Below V.heap.size V wc)=>alias_any (ca:=ca) (cb:=2) (ss:=[x.kids[0].name,x.kids[1].name]) hl (by simp) (fun p h=>HP.out.kid h) ((HK.out.mono hb).mono (blb wc (Obj.cells #[.string x.kids[0].name,.string x.kids[1].name] 9))) (sts_two wc x.kids[0].name x.kids[1].name 9))
 clear hK0 hK1
 subst hA
 generalize x.kids[0]=y0 at *
 generalize x.kids[1]=y1 at *
 go_upto_region 11 with fail
 go_cut [5,6] (fun v5 v6 wc=>∃ p q:Nat,v5=.pointer (some ⟨p,0,none⟩)∧v6=.pointer (some ⟨q,0,none⟩)∧Hid (Bx wc p (ndC y0 A0 c0)∧Bx wc q (ndC y1 A1 c1)∧Below V.heap.size V wc))
 case first=>
  clear e56 e40 e41 e42 e43
  go_region
  all_goals
   go_wp2_with fail
   go_meet
   first
   | exact ⟨_,_,rfl,rfl,kp (by
     have h1:=tw2 V (ndC y0 A0 c0) (ndC y1 A1 c1) 26 26
     exact ⟨h1.2.1.below (bld (Below.refl _ _)),h1.2.2.below (bld (Below.refl _ _)),bld h1.1⟩)⟩
   | exact ⟨_,_,rfl,rfl,kp (by
     have h1:=tw2 V (ndC y1 A1 c1) (ndC y0 A0 c0) 26 26
     exact ⟨h1.2.2.below (bld (Below.refl _ _)),h1.2.1.below (bld (Below.refl _ _)),bld h1.1⟩)⟩
 case rest=>
  obtain ⟨p,q,rfl,rfl,HQ⟩:=hcut
  have HC2:=kp (HC.out wc HQ.out.2.2)
  have HBX:=kp (bls (bls HB.out HB.out.size HQ.out.2.2) (Nat.le_trans HB.out.size HQ.out.2.2.size) (blb wc (Obj.cells #[.string y0.name,.string y1.name] 9)))
  have a0:=blc HQ.out.2.2 a0
  have a1:=blc HQ.out.2.2 a1
  have a2:=blc HQ.out.2.2 a2
  have a3:=blc HQ.out.2.2 a3
  have hla:=block_lt_of_cell a0
  obtain ⟨d0,d1,d2,d3,_⟩:=HQ.out.1.four
  have hld:=HQ.out.1.lt
  obtain ⟨f0,f1,f2,f3,_⟩:=HQ.out.2.1.four
  have hlf:=HQ.out.2.1.lt
  clear k0 k1 k2 k3 m0 m1 m2 m3 hbk
  go_wp2_with fail
  (with_reducible refine Calls.mono HC2.out ?_)
  rintro e w8 ⟨s8,er,rfl,her,hb8⟩
  have HM:=kp (show RejP x w (.returned (.tuple #[.string s8,.int .i64 er])) w8 from ⟨s8,er,rfl,fun h=>HRJ.out (her h),bls HBX.out HBX.out.size hb8⟩)
  clear her hb8
  go_wp2_with fail
  go_ret2
  exact HM.out
structure RjSh (x:Nd):Prop where
 one:x.kind=56∨(40≤x.kind∧x.kind≤49)∨x.kind=53→0<x.kids.length
 two:40≤x.kind∧x.kind≤43→2≤x.kids.length
 four:x.kind=52→4≤x.kids.length
 ix:∀ y∈x.kids,y.kind=3→1≤y.kids.length
theorem ex_ix {x:Nd} (h:isExT x=true):x.kind=3→1≤x.kids.length:=fun hk=>by
 rw [isExT_eq] at h
 unfold isExK at h
 rw [if_neg (by omega),if_neg (by omega),if_pos hk] at h
 simp only [Bool.and_eq_true,decide_eq_true_eq] at h
 omega
theorem ex_kind_le {x:Nd} (h:isExT x=true):x.kind≤23:=by
 rcases ex_kinds h with h | h | h | h<;>omega
theorem ex_sh {x:Nd} (h:isExT x=true):RjSh x:=
 ⟨fun e=>by have:=ex_kind_le h;omega,fun e=>by have:=ex_kind_le h;omega,fun e=>by have:=ex_kind_le h;omega,fun y hy=>ex_ix (ex_kid h hy)⟩
theorem reject_any {x:Nd} (hp:RjPre x) {A:Option Addr} {ca:Nat} (hca:x.kids.length≤ca) {w:World} (hK:NdsAt w A x.kids):Calls Tryz.prog 91 #[.agg (ndC x A ca)] w (RejP x w):=by
 by_cases h:(40≤x.kind∧x.kind≤53)∨x.kind=56
 ·have h2:x.kind=40∨x.kind=41∨x.kind=42∨x.kind=43∨x.kind=44∨x.kind=45∨x.kind=46∨x.kind=47∨x.kind=48∨x.kind=49∨x.kind=50∨x.kind=51∨x.kind=52∨x.kind=53∨x.kind=56:=by omega
  rcases h2 with h | h | h | h | h | h | h | h | h | h | h | h | h | h | h
  ·exact rej_40 h hp hK
  ·exact rej_41 h hp hK
  ·exact rej_42 h hp hK
  ·exact rej_43 h hp hK
  ·exact rej_44 h hp hK
  ·exact rej_45 h hp hK
  ·exact rej_46 h hp hK
  ·exact rej_47 h hp hK
  ·exact rej_48 h hp hK
  ·exact rej_49 h hp hK
  ·exact rej_50 h hp hca hK
  ·exact rej_51 h hp hca hK
  ·exact rej_52 h hp hK
  ·exact rej_53 h hp hK
  ·exact rej_56 h hp hK
 ·exact rej_no ⟨fun e=>h (.inl e),fun e=>h (.inr e)⟩
end Go.Proofs.YtgbomnibedefoaaGreatDoor
