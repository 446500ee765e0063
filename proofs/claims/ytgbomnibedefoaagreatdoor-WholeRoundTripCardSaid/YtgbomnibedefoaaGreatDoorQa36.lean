import Derived.Test.YtgbomnibedefoaaGreatDoorQa35
set_option maxRecDepth 100000
set_option maxHeartbeats 8000000
namespace Go.Proofs.YtgbomnibedefoaaGreatDoor
open Go.ChangeShapes Go.WideShapes Go.ChangeAt Go.RowKit Go.Sort
section
variable {B:Nat} {w:World} {G:Gs} {σ:Mt} {f:Fm} {T:List (Nat × Int)} {x:Nd}
def swpT (σ:Mt) (c i c2 j:Nat):Mt:=⟨setM (setM σ.mem (c,i) (getM σ.mem (c2,j))) (c2,j) (getM σ.mem (c,i)),σ.inp,σ.out⟩
theorem sw_bind {env:List Ev} {x p y:Nd} {σ:Mt} {e e2:Ev} {l l2:List Int} (hk:x.kind=43) (hp:x.kids[0]?=some p) (hy:x.kids[1]?=some y) (hE:findE env p.name=some e) (hl:σ.mem[e.c]?=some l) (hE2:findE env y.name=some e2) (hl2:σ.mem[e2.c]?=some l2) :
  basicT env x.kind x σ=(indexT (look env σ.mem) p).bind fun i=>(indexT (look env σ.mem) y).bind fun j=>if 0≤i∧i<l.length then (if 0≤j∧j<l2.length then some (swpT σ e.c i.toNat e2.c j.toNat) else none) else none:=by
 unfold basicT
 rw [kid_eq hp,placeT_at hE hl]
 cases indexT (look env σ.mem) p with
 | none=>rfl
 | some i=>
   rw [Option.bind_some,Option.bind_some]
   by_cases hi:0≤i∧i<l.length
   ·rw [if_pos hi,Option.bind_some,hk,basicP_43,kid_eq hy,placeT_at hE2 hl2]
    cases indexT (look env σ.mem) y with
    | none=>rfl
    | some r=>
      rw [Option.bind_some,Option.bind_some,if_pos hi]
      by_cases hj:0≤r∧r<l2.length
      ·rw [if_pos hj,if_pos hj];rfl
      ·rw [if_neg hj,if_neg hj];rfl
   ·rw [if_neg hi,Option.bind_none]
    cases indexT (look env σ.mem) y with
    | none=>rfl
    | some r=>rw [Option.bind_some,if_neg hi]
theorem setM_some {mem:List (List Int)} {c i c2:Nat} {x:Int} {l:List Int} (h:mem[c2]?=some l):∃ l',(setM mem (c,i) x)[c2]?=some l':=by
 have hlt:=(List.getElem?_eq_some_iff.1 h).1
 exact ⟨_,List.getElem?_eq_getElem (by unfold setM;rw [List.length_set];exact hlt)⟩
theorem swp_fin {w1:World} {G:Gs} {σ:Mt} {c i g c2 j g2:Nat} {u v:Int} (hb:Below w.heap.size w w1) (h:StO B w1 G σ) (hP:Plc w1 G σ c i g u) (hP2:Plc w1 G σ c2 j g2 v):DoP B w G (some (swpT σ c i c2 j)) (.returned (.int .i64 0)) ((w1.setCell ⟨g,i,none⟩ (.int .i64 v)).setCell ⟨g2,j,none⟩ (.int .i64 u)):=by
 refine DoP.step hb ⟨rfl,G,?_⟩
 have h1:=hP.set h v
 obtain ⟨l,hl,_⟩:=hP2.lt
 obtain ⟨l',hl'⟩:=setM_some (c:=c) (i:=i) (x:=v) hl
 obtain ⟨v2,hv,hg⟩:=hP2.it
 have h2:=h1.o.place (i:=j) hl' hv hg u
 unfold swpT
 rw [hP.get,hP2.get]
 exact h1.trans h2 (fun _=>nine_any) (fun _=>nine_any)
theorem exe_sw (h:XpH B w G σ f T x) (hk:x.kind=43) (A:Option Addr) (cap:Nat) (hK:NdsAt w A x.kids) :
  Calls Tryz.prog 141 #[.pointer (some ⟨G.SB,0,none⟩),.agg (ndC x A cap)] w (DoP B w G (basicT f.env x.kind x σ)):=by
 obtain ⟨p,hp,hpP,_,hu⟩:=basic_kids h.st (by omega)
 obtain ⟨y,hy,hyE⟩:=hu hk
 obtain ⟨e,l,b,t,hE,hl,hb,_,_,hll⟩:=h.plc hp hpP
 obtain ⟨e2,l2,b2,t2,hE2,hl2,hb2,_,_,hll2⟩:=h.plc hy hyE
 have hpF:=h.fit.kid hp
 have hyF:=h.fit.kid hy
 have hL:=lk_of (B:=B) h.last h.len
 have hln1:1<x.kids.length:=(List.getElem?_eq_some_iff.1 hy).1
 obtain ⟨bk,ok,A0,c0,hA,hbk,k0,k1,k2,k3,hKK⟩:=hK.kid (k:=0) (by omega)
 rw [(List.getElem?_eq_some_iff.1 hp).2] at k0 k1 k2 k3 hKK
 rw [Nat.zero_mul,Nat.add_zero] at k0 k1 k2 k3
 obtain ⟨bk',ok',A1,c1,hA',_,m0,m1,m2,m3,hKK1⟩:=hK.kid hln1
 rw [(List.getElem?_eq_some_iff.1 hy).2] at m0 m1 m2 m3 hKK1
 obtain ⟨rfl,rfl⟩:bk'=bk∧ok'=ok:=by rw [hA] at hA';cases hA';exact ⟨rfl,rfl⟩
 rw [Nat.one_mul] at m0 m1 m2 m3
 subst hA
 have HB:=kp (blb w (Obj.cells (ndC x (some ⟨bk',ok',none⟩) cap) 26))
 have HRX:=kp (bxn w (ndC x (some ⟨bk',ok',none⟩) cap) 26)
 have HST:=kp (fun (Y:World) (hY:Below w.heap.size w Y)=>h.o.below hY)
 have HIX:=kp (fun (Y:World) (hY:Below w.heap.size w Y)=>evIndex_any hL hpP hpF A0 c0 Y (h.o.below hY) (hKK.mono hY))
 have HEX:=kp (fun (Y:World) (hY:Below w.heap.size w Y)=>evIndex_any hL hyE hyF A1 c1 Y (h.o.below hY) (hKK1.mono hY))
 have HCE:=kp (fun (Y:World) (hY:Below w.heap.size w Y)=>cell_any (h.o.below hY) h.last hE hb)
 have HJ:=kp (fun (Y:World) (hY:Below w.heap.size w Y)=>And.intro (blc hY k0) (And.intro (blc hY k1) (And.intro (blc hY k2) (blc hY k3))))
 have HJ1:=kp (fun (Y:World) (hY:Below w.heap.size w Y)=>And.intro (blc hY m0) (And.intro (blc hY m1) (And.intro (blc hY m2) (blc hY m3))))
 have HC2:=kp (fun (Y:World) (hY:Below w.heap.size w Y)=>cell_any (h.o.below hY) h.last hE2 hb2)
 have HE:=kp (And.intro hl hb)
 have HE2:=kp (And.intro hl2 hb2)
 have hbd:=sw_bind hk hp hy hE hl hE2 hl2
 generalize indexT (look f.env σ.mem) p=ov at *
 generalize indexT (look f.env σ.mem) y=rv at *
 generalize basicT f.env x.kind x σ=o at *
 have HO:=kp hbd
 have q43:((x.kind:Int) == 43)=true:=by rw [hk];rfl
 have q40:((x.kind:Int) == 40)=false:=beqF (b:=40) (by omega)
 have q41:((x.kind:Int) == 41)=false:=beqF (b:=41) (by omega)
 have q42:((x.kind:Int) == 42)=false:=beqF (b:=42) (by omega)
 have HX:=kp h.hB
 have r0:(0:Int)<x.kids.length:=by omega
 have r1:(1:Int)<x.kids.length:=by omega
 clear h hu hE hl hb hpF hpP hL hK k0 k1 k2 k3 hKK hp m0 m1 m2 m3 hKK1 hyF hyE hy hbd hA' hk hE2 hl2 hb2
 skip
 all_goals
  go_enter Tryz.func141,Tryz.ntmps141
  go_upto_region 1 with fail
  generalize w.alloc _=W at HB HRX ⊢
  have HS:=kp (fun (Y:World) (hY:Below W.heap.size W Y)=>And.intro (HRX.out.below hY).four (And.intro (HJ.out Y (bl2 HB.out hY)) (And.intro (HJ1.out Y (bl2 HB.out hY)) (HRX.out.below hY).lt)))
  obtain ⟨⟨a0,a1,a2,a3,_⟩,⟨k0,k1,k2,k3⟩,⟨m0,m1,m2,m3⟩,hla⟩:=HS.out W (Below.refl _ _)
  have hlk:=block_lt_of_cell k0
  go_wp2_with fail
  refine (HIX.out W HB.out).mono ?_
  rintro e1 w1 h1
  have HZ:=kp h1
  clear h1
  cases ov with
  | none=>
    obtain ⟨a,er,her,rfl⟩:=HZ.out.1
    have HN:=kp (show o=none from HO.out)
    have HF:=kp HZ.out.2
    have her2:(er != 0)=true:=by simpa using her
    clear HZ
    go_wp2_with fail
    go_ret
    rw [HN.out]
    exact dop_none HB.out HF.out her
  | some iv=>
    obtain rfl:=HZ.out.1
    have HB1:=kp HZ.out.2
    clear HZ a0 a1 a2 a3 k0 k1 k2 k3 m0 m1 m2 m3 hla hlk
    obtain ⟨⟨a0,a1,a2,a3,_⟩,⟨k0,k1,k2,k3⟩,⟨m0,m1,m2,m3⟩,hla⟩:=HS.out w1 HB1.out
    have hlk:=block_lt_of_cell k0
    have HO1:=kp (show o=rv.bind fun r=>if 0≤iv∧iv<l.length then (if 0≤r∧r<l2.length then some (swpT σ e.c iv.toNat e2.c r.toNat) else none) else none from HO.out)
    go_wp2_with fail
    refine (HEX.out w1 (bl2 HB.out HB1.out)).mono ?_
    rintro e2 w2 h2
    have HZ:=kp h2
    clear h2
    cases rv with
    | none=>
      obtain ⟨a,er,her,rfl⟩:=HZ.out.1
      have HN:=kp (show o=none from HO1.out)
      have HF:=kp (bl2 HB1.out HZ.out.2)
      have her2:(er != 0)=true:=by simpa using her
      clear HZ
      go_wp2_with fail
      go_ret
      rw [HN.out]
      exact dop_none HB.out HF.out her
    | some r=>
      obtain rfl:=HZ.out.1
      have HB2:=kp (bl2 HB1.out HZ.out.2)
      clear HZ a0 a1 a2 a3 k0 k1 k2 k3 m0 m1 m2 m3 hla hlk
      obtain ⟨⟨a0,a1,a2,a3,_⟩,⟨k0,k1,k2,k3⟩,⟨m0,m1,m2,m3⟩,hla⟩:=HS.out w2 HB2.out
      have hlk:=block_lt_of_cell k0
      have HO2:=kp (show o=if 0≤iv∧iv<l.length then (if 0≤r∧r<l2.length then some (swpT σ e.c iv.toNat e2.c r.toNat) else none) else none from HO1.out)
      go_wp2_with fail
      refine (HCE.out w2 (bl2 HB.out HB2.out)).mono ?_
      rintro e3 w3 ⟨rfl,hb3⟩
      have HB3:=kp (bl2 HB2.out hb3)
      clear hb3 a0 a1 a2 a3 k0 k1 k2 k3 m0 m1 m2 m3 hla hlk
      obtain ⟨⟨a0,a1,a2,a3,_⟩,⟨k0,k1,k2,k3⟩,⟨m0,m1,m2,m3⟩,hla⟩:=HS.out w3 HB3.out
      have hlk:=block_lt_of_cell k0
      by_cases hin:0≤iv∧iv<l.length
      ·rw [if_pos hin] at HO2
       obtain ⟨n,rfl⟩:∃ n:Nat,iv=(n:Int):=⟨iv.toNat,by omega⟩
       have hn:n<l.length:=by omega
       obtain ⟨b',g,cp,hb',hbox,hP⟩:=(HST.out w3 (bl2 HB.out HB3.out)).plc HE.out.1 (List.getElem?_eq_getElem hn)
       obtain rfl:b'=b:=Option.some.inj (hb'.symm.trans HE.out.2)
       have hlb:=block_lt_of_cell hbox
       have y1:=hP.cell
       have f1:=hP.free
       have hlg:=hP.block
       have HP:=kp hP
       generalize l[n]=u at *
       have r2:(0:Int)≤n:=by omega
       have r3:(n:Int)<l.length:=by omega
       have d1:decide ((n:Int)<0)=false:=decide_eq_false (by omega)
       have d2:decide ((l.length:Int)≤n)=false:=decide_eq_false (by omega)
       clear hP hb' hin
       go_wp2_with fail
       refine (HC2.out w3 (bl2 HB.out HB3.out)).mono ?_
       rintro e4 w4 ⟨rfl,hb4⟩
       have HB4:=kp (bl2 HB3.out hb4)
       have HP4:=kp (HP.out.step ((HST.out w3 (bl2 HB.out HB3.out)).same hb4 (fun _=>False)) id rfl)
       clear hb4 hbox hlb y1 f1 hlg a0 a1 a2 a3 k0 k1 k2 k3 m0 m1 m2 m3 hla hlk
       obtain ⟨⟨a0,a1,a2,a3,_⟩,⟨k0,k1,k2,k3⟩,⟨m0,m1,m2,m3⟩,hla⟩:=HS.out w4 HB4.out
       have hlk:=block_lt_of_cell k0
       have y1:=HP4.out.cell
       have f1:=HP4.out.free
       have hlg:=HP4.out.block
       by_cases hin:0≤r∧r<l2.length
       ·rw [if_pos hin] at HO2
        obtain ⟨m,rfl⟩:∃ m:Nat,r=(m:Int):=⟨r.toNat,by omega⟩
        have hm:m<l2.length:=by omega
        obtain ⟨b'',g2,cp2,hb'',hbox,hP2⟩:=(HST.out w4 (bl2 HB.out HB4.out)).plc HE2.out.1 (List.getElem?_eq_getElem hm)
        obtain rfl:b''=b2:=Option.some.inj (hb''.symm.trans HE2.out.2)
        have hlb:=block_lt_of_cell hbox
        have y2:=hP2.cell
        have f2:=hP2.free
        have hlg2:=hP2.block
        have HP2:=kp hP2
        generalize l2[m]=v at *
        have r4:(0:Int)≤m:=by omega
        have r5:(m:Int)<l2.length:=by omega
        have d3:decide ((m:Int)<0)=false:=decide_eq_false (by omega)
        have d4:decide ((l2.length:Int)≤m)=false:=decide_eq_false (by omega)
        have hD4:=bl2 (bl2 HB.out HB4.out) (bld (Below.refl w4.heap.size w4))
        have hD:=(HST.out w4 (bl2 HB.out HB4.out)).same (bld (Below.refl w4.heap.size w4)) (fun _=>False)
        have HM:=kp (swp_fin hD4 hD.o (HP4.out.step hD id rfl) (HP2.out.step hD id rfl))
        have HO3:=kp (show o=some (swpT σ e.c n e2.c m) from by rw [HO2.out,Int.toNat_natCast,Int.toNat_natCast])
        clear hP2 hb'' hin HO2 hD hD4
        go_upto_region 30 with fail
        by_cases hgg:g=g2
        ·subst hgg
         by_cases hnm:n=m
         ·subst hnm
          obtain rfl:v=u:=by rw [y1] at y2;simpa using y2.symm
          go_region
          all_goals
           go_wp2_with fail
           go_ret
           rw [HO3.out]
           exact HM.out
         ·have hnm2:¬ m=n:=fun e=>hnm e.symm
          go_region
          all_goals
           go_wp2_with fail
           go_ret
           rw [HO3.out]
           exact HM.out
        ·have hgg2:¬ g2=g:=fun e=>hgg e.symm
         go_region
         all_goals
          go_wp2_with fail
          go_ret
          rw [HO3.out]
          exact HM.out
       ·rw [if_neg hin] at HO2
        obtain ⟨A9,c9,hbox⟩:=(HST.out w4 (bl2 HB.out HB4.out)).boxv HE2.out.1 HE2.out.2
        have hlb:=block_lt_of_cell hbox
        have HN:=kp HO2.out
        clear HO2
        by_cases hneg:r<0
        ·clear hin
         have d3:decide (r<0)=true:=decide_eq_true hneg
         go_wp2_with fail
         go_ret
         rw [HN.out]
         exact dop_none HB.out HB4.out (by omega)
        ·have d3:decide (r<0)=false:=decide_eq_false hneg
         have hge:(l2.length:Int)≤r:=by omega
         have d4:decide ((l2.length:Int)≤r)=true:=decide_eq_true hge
         clear hin
         go_wp2_with fail
         go_ret
         rw [HN.out]
         exact dop_none HB.out HB4.out (by omega)
      ·rw [if_neg hin] at HO2
       obtain ⟨A9,c9,hbox⟩:=(HST.out w3 (bl2 HB.out HB3.out)).boxv HE.out.1 HE.out.2
       have hlb:=block_lt_of_cell hbox
       have HN:=kp HO2
       clear HO2
       by_cases hneg:iv<0
       ·clear hin
        have d1:decide (iv<0)=true:=decide_eq_true hneg
        go_wp2_with fail
        go_ret
        rw [HN.out]
        exact dop_none HB.out HB3.out (by omega)
       ·have d1:decide (iv<0)=false:=decide_eq_false hneg
        have hge:(l.length:Int)≤iv:=by omega
        have d2:decide ((l.length:Int)≤iv)=true:=decide_eq_true hge
        clear hin
        go_wp2_with fail
        go_ret
        rw [HN.out]
        exact dop_none HB.out HB3.out (by omega)
end
section
variable {B:Nat} {w:World} {G:Gs} {σ:Mt} {f:Fm} {T:List (Nat × Int)} {x:Nd}
theorem XpH.below (h:XpH B w G σ f T x) {w':World} (hb:Below w.heap.size w w'):XpH B w' G σ f T x:=
 ⟨h.o.below hb,h.last,h.ty,h.mem,Nat.le_trans h.hB hb.size,h.cl,h.st,h.fit⟩
theorem exe_any (h:XpH B w G σ f T x) (hk:40≤x.kind∧x.kind≤49) (A:Option Addr) (cap:Nat) (hK:NdsAt w A x.kids) :
  Calls Tryz.prog 141 #[.pointer (some ⟨G.SB,0,none⟩),.agg (ndC x A cap)] w (DoP B w G (basicT f.env x.kind x σ)):=by
 by_cases h1:x.kind=40∨x.kind=41∨x.kind=42
 ·exact exe_up h h1 A cap hK
 by_cases h2:x.kind=43
 ·exact exe_sw h h2 A cap hK
 by_cases h3:x.kind=44∨x.kind=45
 ·exact exe_mv h h3 A cap hK
 ·exact exe_tr h (by omega) A cap hK
theorem do_any (h:XpH B w G σ f T x) (hk:40≤x.kind∧x.kind≤49) (hsz:szT x≤1000000) (A:Option Addr) (cap:Nat) (hK:NdsAt w A x.kids) :
  Calls Tryz.prog 104 #[.pointer (some ⟨G.SB,0,none⟩),.agg (ndC x A cap)] w (DoP B w G (basicT f.env x.kind x σ)):=by
 have HB:=kp (blb w (Obj.cells (ndC x A cap) 26))
 have HRX:=kp (bxn w (ndC x A cap) 26)
 have HSM:=kp (fun (Y:World) (hY:Below w.heap.size w Y)=>isStmt_any x h.fit A cap Y (hK.mono hY))
 rw [h.st] at HSM
 have HEX:=kp (fun (Y:World) (hY:Below w.heap.size w Y)=>exe_any (h.below hY) hk A cap (hK.mono hY))
 generalize basicT f.env x.kind x σ=o at *
 have HCU:=kp (fun (Y:World) (hY:Below w.heap.size w Y)=>show ∃ fb fo,Calls Tryz.prog 134 #[.pointer (some ⟨G.SB,0,none⟩)] Y (fun e w'=>e=.returned (.pointer (some ⟨fb,fo,none⟩))∧Y=w')∧∀ Z:World,Below Y.heap.size Y Z→Calls Tryz.prog 140 #[.pointer (some ⟨fb,fo,none⟩),.agg (ndC x A cap)] Z fun e w'=>e=.returned (.int .i64 0)∧Below Z.heap.size Z w' from by
  obtain ⟨fb,fo,f',hc⟩:=(h.o.below hY).cur
  obtain rfl:f'=f:=Option.some.inj (hc.last.symm.trans h.last)
  refine ⟨fb,fo,current_any (h.o.below hY) hc,fun Z hZ=>?_⟩
  obtain ⟨A1,c1,ev,hv,hlen,_⟩:=(h.o.below hY).flen h.last
  have y0:=hc.loc.c0
  rw [ev] at y0
  exact sfault_any (vis:=f'.env.map (·.v)) (by rw [List.length_map];exact hlen) fb fo A1 c1 _ x (Nat.le_refl _) hsz h.cl A cap Z (by rw [List.length_map];exact blc hZ y0) (hv.mono hZ) (hK.mono (bl2 hY hZ)))
 have HBK:=kp (fun (Y:World)=>basic_any x.kind Y)
 rw [show basK x.kind=true by unfold basK;simp;omega] at HBK
 have q56:((x.kind:Int) == 56)=false:=beqF (b:=56) (by omega)
 clear h hk hK hsz
 go_enter Tryz.func104,Tryz.ntmps104
 go_upto_region 1 with fail
 generalize w.alloc _=W at HB HRX ⊢
 obtain ⟨a0,a1,a2,a3,_⟩:=HRX.out.four
 have hla:=HRX.out.lt
 go_wp2_with fail
 refine (HSM.out W HB.out).mono ?_
 rintro e1 w1 ⟨rfl,hb1⟩
 have HB1:=kp hb1
 have HR1:=kp (HRX.out.below hb1)
 clear hb1 a0 a1 a2 a3 hla
 obtain ⟨a0,a1,a2,a3,_⟩:=HR1.out.four
 have hla:=HR1.out.lt
 go_wp2_with fail
 refine (HBK.out w1).mono ?_
 rintro e2 w2 ⟨rfl,rfl⟩
 obtain ⟨fb,fo,hcu,hfa⟩:=HCU.out w1.drew (bl2 (bl2 HB.out HB1.out) (bld (Below.refl _ _)))
 have HCU2:=kp hcu
 have HFA:=kp hfa
 have hbP:=Below.refl w1.heap.size w1
 clear hcu hfa
 go_upto_region 9 with fail
 go_region_law (first
  | (go_simp;go_at_call 134;(with_reducible refine Calls.mono HCU2.out ?_);rintro e5 w5 ⟨rfl,rfl⟩;dsimp only)
  | (go_simp;go_at_call 140;(with_reducible refine Calls.mono (HFA.out _ (Below.refl _ _)) ?_);rintro e6 w6 ⟨rfl,hb6⟩;have HB6:=kp (bl2 (W:=w1) (bld hbP) hb6);clear hb6;dsimp only)
  | fail)
 all_goals
  have HR6:=kp (HR1.out.below HB6.out)
  clear a0 a1 a2 a3 hla
  obtain ⟨a0,a1,a2,a3,_⟩:=HR6.out.four
  have hla:=HR6.out.lt
  go_wp2_with fail
  refine (HEX.out w6 (bl2 (bl2 HB.out HB1.out) HB6.out)).mono ?_
  intro e7 w7 h7
  have HM:=kp (DoP.step (bl2 (bl2 HB.out HB1.out) HB6.out) h7)
  obtain ⟨er,rfl⟩:=h7.er
  clear h7
  go_wp2_with fail
  go_ret
  exact HM.out
end
def undN (x:Nd):Nd:=.mk (invK x.kind) x.num x.name x.kids
theorem invK_rng {k:Nat} (h:40≤k∧k≤49):40≤invK k∧invK k≤49:=by
 have:k=40∨k=41∨k=42∨k=43∨k=44∨k=45∨k=46∨k=47∨k=48∨k=49:=by omega
 rcases this with rfl | rfl | rfl | rfl | rfl | rfl | rfl | rfl | rfl | rfl<;>decide
theorem isStK_inv {x:Nd} (h:40≤x.kind∧x.kind≤49) (bl:List Bool):isStK (undN x) bl=isStK x bl:=by
 have hk:x.kind=40∨x.kind=41∨x.kind=42∨x.kind=43∨x.kind=44∨x.kind=45∨x.kind=46∨x.kind=47∨x.kind=48∨x.kind=49:=by omega
 have e1:(undN x).kind=invK x.kind:=rfl
 have e2:(undN x).kids=x.kids:=rfl
 have e3:plainB (undN x)=plainB x:=rfl
 have e4:namedB (undN x)=namedB x:=rfl
 have e5:∀ i,kid (undN x) i=kid x i:=fun _=>rfl
 unfold isStK
 rw [e1,e2,e3,e4,e5,e5]
 rcases hk with e | e | e | e | e | e | e | e | e | e<;>rw [e]<;>rfl
theorem isStT_und {x:Nd} (h:40≤x.kind∧x.kind≤49):isStT (undN x)=isStT x:=by
 rw [isStT_eq,isStT_eq,isStK_inv h];rfl
theorem clnT_und {vis:List Vd} {x:Nd} (h:40≤x.kind∧x.kind≤49):clnT vis (undN x)=clnT vis x:=by
 have hk:x.kind=40∨x.kind=41∨x.kind=42∨x.kind=43∨x.kind=44∨x.kind=45∨x.kind=46∨x.kind=47∨x.kind=48∨x.kind=49:=by omega
 rw [clnT_eq,clnT_eq]
 have e1:(undN x).kind=invK x.kind:=rfl
 have e2:(undN x).kids=x.kids:=rfl
 have e3:(undN x).name=x.name:=rfl
 rw [e1,e2,e3]
 rcases hk with e | e | e | e | e | e | e | e | e | e<;>rw [e]<;>rfl
section
variable {B:Nat} {w:World} {G:Gs} {σ:Mt} {f:Fm} {T:List (Nat × Int)} {x:Nd}
theorem XpH.und (h:XpH B w G σ f T x) (hk:40≤x.kind∧x.kind≤49):XpH B w G σ f T (undN x):=
 ⟨h.o,h.last,h.ty,h.mem,h.hB,by rw [clnT_und hk];exact h.cl,by rw [isStT_und hk];exact h.st,by
  have hf:=h.fit.facts
  exact .mk (by have:=invK_rng hk;show invK x.kind<256;omega) hf.2.1 hf.2.2.1 hf.2.2.2 fun k y hy=>h.fit.kid hy⟩
theorem undo_any (h:XpH B w G σ f T x) (hk:40≤x.kind∧x.kind≤49) (hsz:szT x≤1000000) (A:Option Addr) (cap:Nat) (hK:NdsAt w A x.kids) :
  Calls Tryz.prog 103 #[.pointer (some ⟨G.SB,0,none⟩),.agg (ndC x A cap)] w (DoP B w G (basicT f.env (invK x.kind) x σ)):=by
 have HB:=kp (blb w (Obj.cells (ndC x A cap) 26))
 have HRX:=kp (bxn w (ndC x A cap) 26)
 have HDO:=kp (fun (Y:World) (hY:Below w.heap.size w Y)=>show Calls Tryz.prog 104 #[.pointer (some ⟨G.SB,0,none⟩),.agg #[.int .u8 (invK x.kind),.int .i64 x.num,.string x.name,.slice A x.kids.length cap]] Y (DoP B Y G (basicT f.env (invK x.kind) x σ)) from
  do_any ((h.und hk).below hY) (invK_rng hk) (by rw [szT_eq] at hsz ⊢;exact hsz) A cap (hK.mono hY))
 generalize basicT f.env _ x σ=o at *
 have HIV:=kp (fun (Y:World)=>sinv_any x.kind Y)
 generalize invK x.kind=ik at *
 clear h hk hK hsz
 go_enter Tryz.func103,Tryz.ntmps103
 go_upto_region 1 with fail
 generalize w.alloc _=W at HB HRX ⊢
 obtain ⟨a0,a1,a2,a3,f0,f1,f2,f3⟩:=HRX.out.four
 have hla:=HRX.out.lt
 go_wp2_with fail
 refine (HIV.out W).mono ?_
 rintro e1 w1 ⟨rfl,rfl⟩
 have HB2:=kp ((HB.out.setCell (p:=⟨w.heap.size,0,none⟩) (Nat.le_refl _) (.int .u8 ik)))
 have HD2:=kp (HDO.out _ HB2.out)
 go_wp2_with fail
 refine HD2.out.mono ?_
 intro e7 w7 h7
 have HM:=kp (DoP.step HB2.out h7)
 obtain ⟨er,rfl⟩:=h7.er
 clear h7
 go_wp2_with fail
 go_ret
 exact HM.out
end
theorem info_cp:(Tryz.prog.info? 113).map (fun i=>(i.zero,i.size,i.bytes))=some (some (.pointer none),1,8):=by kernel_rfl
structure RwX (B:Nat) (T:TypeId) (s:Nat) (w:World) (v:Value) (n:Nat) (xs:List Value) (w':World) (v':Value):Prop where
 own:w'.ownsRow B T s v' n xs
 fr:Fr w w' (fun k=>some k=v.ownBlock)
 at_:v'.ownBlock=v.ownBlock∨∃ g,v'.ownBlock=some g∧w.heap.size≤g
theorem rwx_of {B n:Nat} {T:TypeId} {s:Nat} {w w0 w9:World} {v v':Value} {xs:List Value} (hb:Below w.heap.size w w0) (hx:w9.ownsRow B T s v' n xs) (hg:w0.grownBy w9 v.ownBlock) (ha:v'.ownBlock=v.ownBlock∨v'.ownBlock=some w0.heap.size):RwX B T s w v n xs w9 v':=by
 refine ⟨hx,(Fr.of_below hb _).trans ⟨hg.os,hg.tape,hg.output,hg.size,fun k hk hn=>hg.block k hk fun e=>hn e⟩ fun _ _ e=>e,?_⟩
 rcases ha with h | h
 ·exact .inl h
 ·exact .inr ⟨_,h,hb.size⟩
def AddP (B:Nat) (w:World) (fb fo n:Nat) (vV cV:Value) (xs ys:List Value) (w':World):Prop:=
 ∃ w0 w1 vV' w2 w3 cV',Below w.heap.size w w0∧RwX B 62 3 w0 vV n xs w1 vV'∧Below (w1.setCell ⟨fb,fo,none⟩ vV').heap.size (w1.setCell ⟨fb,fo,none⟩ vV') w2∧RwX B 113 1 w2 cV n ys w3 cV'∧w'=w3.setCell ⟨fb,fo+1,none⟩ cV'
theorem rwx_keep {B n:Nat} {T:TypeId} {s:Nat} {w w9:World} {v v':Value} {xs:List Value} (h:RwX B T s w v n xs w9 v') {b j:Nat} {u:Value} (hv:v.ownBlock≠some b) (hc:w.cell? ⟨b,j,none⟩=some u) (hz:w.frozen? ⟨b,j,none⟩=false):w9.cell? ⟨b,j,none⟩=some u∧w9.frozen? ⟨b,j,none⟩=false:=
 ⟨h.fr.cell hc fun e=>hv e.symm,frz_fr h.fr (block_lt_of_cell hc) (fun e=>hv e.symm) hz⟩
theorem add_mid {B n:Nat} {T1 T2:TypeId} {s1 s2:Nat} {w w1:World} {v v' c:Value} {fb fo:Nat} {xs ys:List Value} {n2:Nat} (h:RwX B T1 s1 w v n xs w1 v') (hv:v.ownBlock≠some fb) (hvc:∀ g,v.ownBlock=some g→c.ownBlock≠some g) (hc:w.ownsRow B T2 s2 c n2 ys) (y:w.cell? ⟨fb,fo+1,none⟩=some c) (f:w.frozen? ⟨fb,fo+1,none⟩=false) (hcf:c.ownBlock≠some fb) :
  (w1.setCell ⟨fb,fo,none⟩ v').ownsRow B T2 s2 c n2 ys∧(w1.setCell ⟨fb,fo,none⟩ v').cell? ⟨fb,fo+1,none⟩=some c∧(w1.setCell ⟨fb,fo,none⟩ v').frozen? ⟨fb,fo+1,none⟩=false∧w.heap.size≤(w1.setCell ⟨fb,fo,none⟩ v').heap.size:=by
 obtain ⟨k1,k2⟩:=rwx_keep h hv y f
 have h1:w1.ownsRow B T2 s2 c n2 ys:=h.fr.own hc fun g hg e=>hvc g e.symm hg
 refine ⟨(Fr.of_set w1 ⟨fb,fo,none⟩ v').own h1 fun g hg e=>hcf (by rw [hg,show g=fb from e]),?_,?_,by have:=h.fr.size;simpa using this⟩
 ·rw [World.cell?_setCell_other _ _ _ _ (by simp)];exact k1
 ·rw [World.frozen?_setCell];exact k2
theorem add_any {B:Nat} {w:World} {fb fo n:Nat} {vV cV:Value} {xs ys:List Value} (hv:w.ownsRow B 62 3 vV n xs) (hc:w.ownsRow B 113 1 cV n ys) (h0:w.cell? ⟨fb,fo,none⟩=some vV) (h1:w.cell? ⟨fb,fo+1,none⟩=some cV) (z0:w.frozen? ⟨fb,fo,none⟩=false) (z1:w.frozen? ⟨fb,fo+1,none⟩=false)
  (hnv:vV.ownBlock≠some fb) (hnc:cV.ownBlock≠some fb) (hvc:∀ g,vV.ownBlock=some g→cV.ownBlock≠some g) (hB:B≤w.heap.size) (hn:n≤100000) (v:Vd) (b:Nat) :
  Calls Tryz.prog 60 #[.pointer (some ⟨fb,fo,none⟩),v.val,.pointer (some ⟨b,0,none⟩)] w fun e w'=>e=.returned (.tuple #[])∧AddP B w fb fo (n+1) vV cV (xs++v.cs) (ys++[.pointer (some ⟨b,0,none⟩)]) w':=by
 have HB:=kp (blb w (Obj.cells #[.string v.name,.int .u8 v.kind,.int .i64 v.len] 62))
 have HRX:=kp (bxn w #[.string v.name,.int .u8 v.kind,.int .i64 v.len] 62)
 obtain ⟨A,cap,ev,hcap,_⟩:=ofb hv
 obtain ⟨A2,cap2,ec,hcap2,_⟩:=ofb hc
 subst ev ec
 obtain ⟨i0,hi0,hz0,hz1,hz2⟩:=info_parts info_vd
 obtain ⟨i1,hj0,hj1,hj2,hj3⟩:=info_parts info_cp
 have HI:=kp (And.intro hi0 (And.intro hz0 (And.intro hz1 hz2)))
 have HJ:=kp (And.intro hj0 (And.intro hj1 (And.intro hj2 hj3)))
 have HW:=kp (And.intro (obl hv HB.out) (And.intro (obl hc HB.out) (And.intro hnv (And.intro hnc hvc))))
 have y0:=blc HB.out h0
 have y1:=blc HB.out h1
 have f0:=frz_fr (Fr.of_below HB.out fun _=>False) (block_lt_of_cell h0) id z0
 have f1:=frz_fr (Fr.of_below HB.out fun _=>False) (block_lt_of_cell h0) id z1
 have hlb:=Nat.lt_of_lt_of_le (block_lt_of_cell h0) HB.out.size
 have hBW:=Nat.le_trans hB HB.out.size
 clear hi0 hz0 hz1 hz2 hj0 hj1 hj2 hj3 hv hc h0 h1 z0 z1 hnv hnc hvc hcap hcap2 hB
 unfold Vd.val
 go_enter Tryz.func60,Tryz.ntmps60
 go_upto_region 1 with fail
 generalize w.alloc _=W at HB HRX HW y0 y1 f0 f1 hlb hBW ⊢
 obtain ⟨a0,a1,a2,_⟩:=HRX.out.three
 have hla:=HRX.out.lt
 go_cut [0] (fun q wc=>q=.pointer (some ⟨fb,fo,none⟩)∧∃ w1 vV',Hid (RwX B 62 3 W (.slice A n cap) (n+1) (xs++v.cs) w1 vV')∧wc=w1.setCell ⟨fb,fo,none⟩ vV')
 case first=>
  go_region_law (first
   | (refine step_app _ (by rfl) (.tmp 10) (.tmp 12) 22 (by rfl) B 62 i0 (.agg #[.string ⟨#[]⟩,.int .u8 0,.int .i64 0]) 3 32 Tryz.underlying22 HI.out.1 HI.out.2.1 HI.out.2.2.1 HI.out.2.2.2 rfl (by decide) (.slice A n cap) n xs (by first | (simp [Act.eval];done) | (simp [Act.eval,Act.put];done)) (obl HW.out.1 (below_da W _ _)) (some ⟨W.heap.size,0,none⟩) 1 1 v.cs (by first | (simp [Act.eval];done) | (simp [Act.eval,Act.put];done)) rfl (cnu W.drew rfl v.cs _) (fun u hu=>by simp [Vd.cs] at hu;rcases hu with rfl | rfl | rfl<;>rfl) (by unfold maxLen;omega) (by omega) (by simp;omega) ?_;intro v' w9 hown hgrow hat;have HM:=kp (rwx_of (v:=.slice A n cap) (below_da W _ _) hown hgrow hat);obtain ⟨x0,x1⟩:=rwx_keep HM.out HW.out.2.2.1 y0 f0;have hl9:=block_lt_of_cell x0;obtain ⟨A9,c9,rfl,hc9,hqq⟩:=ofb hown;clear hqq hown hgrow hat)
   | fail)
  all_goals
   go_wp2_with fail
   go_meet
   exact ⟨rfl,_,_,HM,rfl⟩
 case rest=>
  obtain ⟨rfl,w1,vV',HM,hw⟩:=hcut
  have HX:=kp (add_mid HM.out HW.out.2.2.1 HW.out.2.2.2.2 HW.out.2.1 y1 f1 HW.out.2.2.2.1)
  rw [← hw] at HX
  have HW2:=kp hw
  clear y0 y1 f0 f1 hlb a0 a1 a2 hla hw
  have y1:=HX.out.2.1
  have f1:=HX.out.2.2.1
  have hlb:=block_lt_of_cell y1
  have hsz:=HX.out.2.2.2
  have hBW2:B≤wc.heap.size:=Nat.le_trans hBW hsz
  go_wp2_with (at_builtin;go_loud (refine wpList_app _ rfl _ _ 106 rfl B 113 i1 (.pointer none) 1 8 Tryz.underlying106 HJ.out.1 HJ.out.2.1 HJ.out.2.2.1 HJ.out.2.2.2 rfl (by decide) (.slice A2 n cap2) n ys rfl (obl HX.out.1 (blb wc _)) (some ⟨wc.heap.size,0,none⟩) 1 1 [.pointer (some ⟨b,0,none⟩)] rfl rfl (cnu wc rfl [.pointer (some ⟨b,0,none⟩)] _) (fun u hu=>by simp at hu;rw [hu];rfl) (by unfold maxLen;omega) (by omega) (by simp;omega) ?_;intro v' w9 hown hgrow hat;have HN:=kp (rwx_of (v:=.slice A2 n cap2) (blb wc _) hown hgrow hat);obtain ⟨x0,x1⟩:=rwx_keep HN.out HW.out.2.2.2.1 y1 f1;have hl9:=block_lt_of_cell x0;obtain ⟨A9,c9,rfl,hc9,hqq⟩:=ofb hown;have HF:=kp (show AddP B w fb fo (n+1) (.slice A n cap) (.slice A2 n cap2) (xs++v.cs) (ys++[.pointer (some ⟨b,0,none⟩)]) _ from ⟨W,w1,vV',wc,w9,_,HB.out,HM.out,by rw [← HW2.out];exact Below.refl _ _,HN.out,rfl⟩);clear hqq hown hgrow hat))
  go_end0
  exact ⟨rfl,HF.out⟩
theorem own_setN {w:World} {B g n j s:Nat} {e:TypeId} {v u:Value} {xs:List Value} (h:w.ownsRow B e s v n xs) (hg:v.ownBlock=some g):(w.setCell ⟨g,j,none⟩ u).ownsRow B e s v n (xs.set j u):=by
 rcases id h.2 with ⟨hv,_⟩ | ⟨g',cap,cur,hv,hB,hh,hn,hc,h1,h2⟩
 ·rw [hv] at hg;cases hg
 ·obtain rfl:g'=g:=by rw [hv] at hg;cases hg;rfl
  refine ⟨by rw [List.length_set];exact h.1,.inr ⟨g',cap,cur.setIfInBounds j u,hv,hB,row_setCell hh j u,hn,hc,by simpa using h1,?_⟩⟩
  rw [Array.toList_setIfInBounds,List.take_set,h2]
theorem frCs_set {l:List Fm} {i:Nat} {f f':Fm} (hi:l[i]?=some f) {j:Nat} {u:Value} (hj:j<3) (e:f'.cs=f.cs.set j u):frCs (l.set i f')=(frCs l).set (i*3+j) u:=by
 induction l generalizing i with
 | nil=>simp at hi
 | cons x r ih=>
   unfold frCs
   cases i with
   | zero=>
     simp only [List.getElem?_cons_zero,Option.some.injEq] at hi
     subst hi
     rw [List.set_cons_zero,List.flatMap_cons,List.flatMap_cons,e,Nat.zero_mul,Nat.zero_add,List.set_append_left _ _ (by simpa [Fm.cs] using hj)]
   | succ i=>
     rw [List.set_cons_succ,List.flatMap_cons,List.flatMap_cons,List.set_append_right _ _ (by simp [Fm.cs];omega)]
     have:=ih (i:=i) (by simpa using hi)
     unfold frCs at this
     rw [this]
     congr 2
     simp [Fm.cs];omega
structure LocO (B:Nat) (w:World) (R:Nat→Ro) (G:Gs) (fs:List Fm):Prop where
 sto:∃ f0,fs[0]?=some f0∧BoxR w R (1,0) G.SB #[f0.vV,f0.cV,.int .i64 f0.loc,G.cv,.pointer (some ⟨G.TB,0,none⟩)]
 cal:RowR w R (5,0) B 108 3 G.cv (fs.length - 1) (frCs (fs.drop 1))
theorem LocO.fr {B:Nat} {w w':World} {R R':Nat→Ro} {G:Gs} {fs:List Fm} (h:LocO B w R G fs) {m:Nat→Prop} (hf:Fr w w' m) (hm:∀ k,k<w.heap.size→R k=(1,0)∨R k=(5,0)→¬ m k) (hR:∀ k,k<w.heap.size→R' k=R k):LocO B w' R' G fs:=by
 obtain ⟨f0,h1,h2⟩:=h.sto
 exact ⟨⟨f0,h1,h2.fr hf (fun k hk e=>hm k hk (.inl e)) hR⟩,h.cal.fr hf (fun k hk e=>hm k hk (.inr e)) hR⟩
def AtL (R:Nat→Ro) (G:Gs) (fs:List Fm) (fb fo:Nat):Prop:=(fs.length=1∧fb=G.SB∧fo=0)∨(1<fs.length∧R fb=(5,0)∧fo=(fs.length - 2)*3∧∃ n c,G.cv=.slice (some ⟨fb,0,none⟩) n c)
theorem LocO.set {B:Nat} {w:World} {R:Nat→Ro} {G:Gs} {fs:List Fm} (h:LocO B w R G fs) {fb fo:Nat} (ha:AtL R G fs fb fo) {f f':Fm} (hf:fs[fs.length - 1]?=some f) {j:Nat} {u:Value} (hj:j<3) (e:f'.cs=f.cs.set j u):LocO B (w.setCell ⟨fb,fo+j,none⟩ u) R G (fs.set (fs.length - 1) f'):=by
 obtain ⟨f0,h1,h2,h3⟩:=h.sto
 have hfr:=Fr.of_set w ⟨fb,fo+j,none⟩ u
 rcases ha with ⟨a1,rfl,rfl⟩ | ⟨a1,a2,rfl,n,c,a4⟩
 ·rw [a1] at hf
  obtain rfl:f0=f:=Option.some.inj (h1.symm.trans hf)
  refine ⟨⟨f',by rw [a1];exact List.getElem?_set_self (by omega),?_,h3⟩,?_⟩
  ·have:=h2.set (0+j) u
   have hc:(#[f0.vV,f0.cV,.int .i64 f0.loc,G.cv,.pointer (some ⟨G.TB,0,none⟩)]:Array Value).setIfInBounds (0+j) u=#[f'.vV,f'.cV,.int .i64 f'.loc,G.cv,.pointer (some ⟨G.TB,0,none⟩)]:=by
    have h3:j=0∨j=1∨j=2:=by omega
    rcases h3 with rfl | rfl | rfl<;>(simp [Fm.cs] at e;obtain ⟨q1,q2,q3⟩:=e;simp [q1,q2,← q3])
    all_goals (try (rw [q3]))
   rw [hc] at this
   exact this
  ·have e0:frCs ((fs.set (fs.length - 1) f').drop 1)=frCs (fs.drop 1):=by
    rw [a1,show 1 - 1=0 from rfl]
    cases fs with
    | nil=>rfl
    | cons x r=>rfl
   rw [e0,List.length_set]
   exact h.cal.fr hfr (fun k _ e1 e2=>by
    have e2':k=G.SB:=e2
    rw [e2',h3] at e1;simp at e1) fun _ _=>rfl
 ·have hown:G.cv.ownBlock=some fb:=by rw [a4];rfl
  refine ⟨⟨f0,by rw [List.getElem?_set_ne (by omega)];exact h1,h2.fr hfr (fun e2=>by
   have e2':G.SB=fb:=e2
   rw [e2',a2] at h3;simp at h3),h3⟩,?_⟩
  have hd:(fs.drop 1)[fs.length - 2]?=some f:=by rw [List.getElem?_drop,show 1+(fs.length - 2)=fs.length - 1 by omega];exact hf
  have e0:(fs.set (fs.length - 1) f').drop 1=(fs.drop 1).set (fs.length - 2) f':=by
   rw [List.drop_set,if_neg (by omega),show fs.length - 1 - 1=fs.length - 2 by omega]
  rw [e0,List.length_set,frCs_set hd hj e]
  exact ⟨own_setN h.cal.1 hown,h.cal.2⟩
theorem StO.locO {B:Nat} {w:World} {G:Gs} {σ:Mt} (h:StO B w G σ):LocO B w G.R G G.fs:=⟨h.sto,h.cal⟩
theorem StO.frUpd {B:Nat} {w w':World} {G:Gs} {σ:Mt} (h:StO B w G σ) {m:Nat→Prop} (hf:Fr w w' m) (hm:∀ k,k<w.heap.size→m k→G.R k=(1,0)∨G.R k=(5,0)∨G.R k=(6,G.fs.length - 1)∨G.R k=(7,G.fs.length - 1)) {R':Nat→Ro} (hR:∀ k,k<w.heap.size→R' k=G.R k) (hge:∀ k,R' k≠(0,0)→B≤k∧k<w'.heap.size)
  {f':Fm} (hl:LocO B w' R' G (G.fs.set (G.fs.length - 1) f')) (hv:RowR w' R' (6,G.fs.length - 1) B 62 3 f'.vV f'.env.length (vdCs (f'.env.map (·.v)))) (hc:RowR w' R' (7,G.fs.length - 1) B 113 1 f'.cV f'.env.length (ptrs G.cb f'.env)) (henv:∀ e∈f'.env,e.c<σ.mem.length) :
  StO B w' { G with fs:=G.fs.set (G.fs.length - 1) f',R:=R' } σ:=by
 have hp:=h.fpos
 have key:∀ (r:Ro),r≠(1,0)→r≠(5,0)→r≠(6,G.fs.length - 1)→r≠(7,G.fs.length - 1)→∀ k,k<w.heap.size→G.R k=r→¬ m k:=fun r h0 h1 h2 h3 k hk e hmk=>by
  rcases hm k hk hmk with q | q | q | q
  ·exact h0 (e.symm.trans q)
  ·exact h1 (e.symm.trans q)
  ·exact h2 (e.symm.trans q)
  ·exact h3 (e.symm.trans q)
 refine ⟨hl.sto,by simpa using hl.cal,h.tap.fr hf (key _ (by simp) (by simp) (by simp) (by simp)) hR,h.inn.fr hf (key _ (by simp) (by simp) (by simp) (by simp)) hR,h.out.fr hf (key _ (by simp) (by simp) (by simp) (by simp)) hR,?_,?_,h.lcb,h.lit,?_,?_,?_,hge⟩
 ·intro i b' hb'
  obtain ⟨v,e1,hv⟩:=h.cel i b' hb'
  exact ⟨v,e1,hv.fr hf (key _ (by simp) (by simp) (by simp) (by simp)) hR⟩
 ·intro i c' hc'
  obtain ⟨v,e1,hv⟩:=h.itm i c' hc'
  exact ⟨v,e1,hv.fr hf (key _ (by simp) (by simp) (by simp) (by simp)) hR⟩
 ·intro i g hi
  by_cases e:i=G.fs.length - 1
  ·subst e
   have hi':(G.fs.set (G.fs.length - 1) f')[G.fs.length - 1]?=some g:=hi
   rw [List.getElem?_set_self (by omega)] at hi'
   cases hi'
   exact hv
  ·have hi':(G.fs.set (G.fs.length - 1) f')[i]?=some g:=hi
   rw [List.getElem?_set_ne (Ne.symm e)] at hi'
   exact (h.frv i g hi').fr hf (key _ (by simp) (by simp) (by simpa using e) (by simp)) hR
 ·intro i g hi
  by_cases e:i=G.fs.length - 1
  ·subst e
   have hi':(G.fs.set (G.fs.length - 1) f')[G.fs.length - 1]?=some g:=hi
   rw [List.getElem?_set_self (by omega)] at hi'
   cases hi'
   exact hc
  ·have hi':(G.fs.set (G.fs.length - 1) f')[i]?=some g:=hi
   rw [List.getElem?_set_ne (Ne.symm e)] at hi'
   exact (h.frc i g hi').fr hf (key _ (by simp) (by simp) (by simp) (by simpa using e)) hR
 ·intro i g e hi he
  by_cases e':i=G.fs.length - 1
  ·subst e'
   have hi':(G.fs.set (G.fs.length - 1) f')[G.fs.length - 1]?=some g:=hi
   rw [List.getElem?_set_self (by omega)] at hi'
   cases hi'
   exact henv e he
  ·have hi':(G.fs.set (G.fs.length - 1) f')[i]?=some g:=hi
   rw [List.getElem?_set_ne (Ne.symm e')] at hi'
   exact h.env i g e hi' he
theorem CurL.uniq {w w':World} {G G':Gs} {fb fo fb' fo':Nat} {f f':Fm} (h:CurL w G fb fo f) (h':CurL w' G' fb' fo' f') (h1:G'.SB=G.SB) (h2:G'.cv=G.cv) (h3:G'.fs.length=G.fs.length):fb'=fb∧fo'=fo:=by
 rcases h.at_ with ⟨a1,a2,a3⟩ | ⟨a1,a2,a3,n,c,a4⟩<;>rcases h'.at_ with ⟨b1,b2,b3⟩ | ⟨b1,b2,b3,n',c',b4⟩
 ·exact ⟨by rw [a2,b2,h1],by rw [a3,b3]⟩
 ·omega
 ·omega
 ·rw [h2,a4] at b4
  cases b4
  exact ⟨rfl,by rw [a3,b3,h3]⟩
theorem vdCs_push (env:List Ev) (e:Ev):vdCs ((env++[e]).map (·.v))=vdCs (env.map (·.v))++e.v.cs:=by rw [List.map_append];exact vdCs_snoc _ _
theorem ptrs_push (cb:List Nat) (env:List Ev) (e:Ev) {b:Nat} (hb:cb[e.c]?=some b):ptrs cb (env++[e])=ptrs cb env++[.pointer (some ⟨b,0,none⟩)]:=by
 unfold ptrs;rw [List.map_append];simp [hb]
theorem CurL.role {B:Nat} {w w2:World} {G:Gs} {σ:Mt} (h:StO B w G σ) {fb fo:Nat} {f:Fm} (hc:CurL w2 G fb fo f):G.R fb=(1,0)∨G.R fb=(5,0):=by
 rcases hc.at_ with ⟨_,e,_⟩ | ⟨_,e,_⟩
 ·obtain ⟨_,_,h2⟩:=h.sto
  exact .inl (e▸h2.2)
 ·exact .inr e
theorem StO.addStep {B:Nat} {w w':World} {G:Gs} {σ:Mt} (h:StO B w G σ) {fb fo:Nat} {f:Fm} (hc:CurL w G fb fo f) {v:Vd} {c b:Nat} (hb:G.cb[c]?=some b)
  (ha:AddP B w fb fo (f.env.length+1) f.vV f.cV (vdCs (f.env.map (·.v))++v.cs) (ptrs G.cb f.env++[.pointer (some ⟨b,0,none⟩)]) w') :
  ∃ vV' cV' R',StO B w' { G with fs:=G.fs.set (G.fs.length - 1) ⟨f.env++[⟨v,c⟩],f.loc,vV',cV'⟩,R:=R' } σ∧(∀ k,k<w.heap.size→R' k=G.R k)∧Fr w w' (fun k=>anyS (G.R k)):=by
 obtain ⟨w0,w1,vV',w2,w3,cV',hb0,hx1,hb2,hx2,rfl⟩:=ha
 have hrv:=h.frv _ f hc.last
 have hrc:=h.frc _ f hc.last
 have hrf:=CurL.role h hc
 have hfl:=hc.loc.lt
 have hvlt:∀ g,f.vV.ownBlock=some g→g<w.heap.size:=fun g hg=>(hrv.1.lt g hg).2
 have hclt:∀ g,f.cV.ownBlock=some g→g<w.heap.size:=fun g hg=>(hrc.1.lt g hg).2
 have hnv:f.vV.ownBlock≠some fb:=fun e=>by
  have:=hrv.2 fb e
  rcases hrf with q | q<;>rw [q] at this<;>simp at this
 have hnc:f.cV.ownBlock≠some fb:=fun e=>by
  have:=hrc.2 fb e
  rcases hrf with q | q<;>rw [q] at this<;>simp at this
 have hvc:∀ g,f.vV.ownBlock=some g→f.cV.ownBlock≠some g:=fun g hg e=>by
  have h1:=hrv.2 g hg
  rw [hrc.2 g e] at h1;simp at h1
 have hs1:w.heap.size≤w1.heap.size:=Nat.le_trans hb0.size hx1.fr.size
 have hs2:w1.heap.size≤w2.heap.size:=by have:=hb2.size;simpa using this
 have hs3:w2.heap.size≤w3.heap.size:=hx2.fr.size
 -- the new rows
 have hv'lt:∀ g,vV'.ownBlock=some g→g<w1.heap.size:=fun g hg=>(hx1.own.lt g hg).2
 have hv'fb:vV'.ownBlock≠some fb:=fun e=>by
  rcases hx1.at_ with q | ⟨g,q,hg⟩
  ·exact hnv (q▸e)
  ·rw [q] at e;cases e;have:=hb0.size;omega
 have hc'fb:cV'.ownBlock≠some fb:=fun e=>by
  rcases hx2.at_ with q | ⟨g,q,hg⟩
  ·exact hnc (q▸e)
  ·rw [q] at e;cases e;omega
 have hcv':∀ g,vV'.ownBlock=some g→f.cV.ownBlock≠some g:=fun g hg e=>by
  rcases hx1.at_ with q | ⟨g',q,hg'⟩
  ·exact hvc g (q▸hg) e
  ·rw [q] at hg;cases hg;have:=hclt g e;have:=hb0.size;omega
 have hc'v':∀ g,vV'.ownBlock=some g→cV'.ownBlock≠some g:=fun g hg e=>by
  rcases hx2.at_ with q | ⟨g',q,hg'⟩
  ·exact hcv' g hg (q▸e)
  ·rw [q] at e;cases e;have:=hv'lt g hg;omega
 -- the roles
 have hR1:∀ k,k<w.heap.size→putRo G.R vV'.ownBlock (6,G.fs.length - 1) k=G.R k:=putRo_old fun g hg=>by
  rcases hx1.at_ with q | ⟨g',q,hg'⟩
  ·exact .inr (hrv.2 g (q▸hg))
  ·rw [q] at hg;cases hg;exact .inl (Nat.le_trans hb0.size hg')
 have hR:∀ k,k<w.heap.size→putRo (putRo G.R vV'.ownBlock (6,G.fs.length - 1)) cV'.ownBlock (7,G.fs.length - 1) k=G.R k:=fun k hk=>by
  rw [← hR1 k hk]
  refine putRo_old (n:=w.heap.size) (fun g hg=>?_) k hk
  rcases hx2.at_ with q | ⟨g',q,hg'⟩
  ·have hg2:f.cV.ownBlock=some g:=q▸hg
   exact .inr (by rw [hR1 g (hclt g hg2)];exact hrc.2 g hg2)
  ·rw [q] at hg;cases hg;exact .inl (by omega)
 have hfs:w3.heap.size=(w3.setCell ⟨fb,fo+1,none⟩ cV').heap.size:=by simp
 have hge:∀ k,putRo (putRo G.R vV'.ownBlock (6,G.fs.length - 1)) cV'.ownBlock (7,G.fs.length - 1) k≠(0,0)→B≤k∧k<(w3.setCell ⟨fb,fo+1,none⟩ cV').heap.size:=by
  refine putRo_ge (n:=w1.heap.size) (putRo_ge h.ge hs1 fun g hg=>⟨obg hx1.own g hg,hv'lt g hg⟩) (by omega) fun g hg=>⟨obg hx2.own g hg,by have:=(hx2.own.lt g hg).2;omega⟩
 -- what has turned
 have hf1:Fr w w1 (fun k=>some k=f.vV.ownBlock):=(Fr.of_below hb0 _).trans hx1.fr fun _ _ e=>e
 have hf3:Fr (w1.setCell ⟨fb,fo,none⟩ vV') w3 (fun k=>some k=f.cV.ownBlock):=(Fr.of_below hb2 _).trans hx2.fr fun _ _ e=>e
 have hf:Fr w (w3.setCell ⟨fb,fo+1,none⟩ cV') (fun k=>k=fb∨some k=f.vV.ownBlock∨some k=f.cV.ownBlock):=
  (((hf1.mono fun k _ e=>.inr (.inl e)).trans (Fr.of_set w1 ⟨fb,fo,none⟩ vV') fun k _ e=>.inl e).trans hf3 fun k _ e=>.inr (.inr e)).trans (Fr.of_set w3 ⟨fb,fo+1,none⟩ cV') fun k _ e=>.inl e
 have hm:∀ k,k<w.heap.size→(k=fb∨some k=f.vV.ownBlock∨some k=f.cV.ownBlock)→G.R k=(1,0)∨G.R k=(5,0)∨G.R k=(6,G.fs.length - 1)∨G.R k=(7,G.fs.length - 1):=fun k _ e=>by
  rcases e with rfl | e | e
  ·exact hrf.imp id .inl
  ·exact .inr (.inr (.inl (hrv.2 k e.symm)))
  ·exact .inr (.inr (.inr (hrc.2 k e.symm)))
 -- the header
 have hl1:=h.locO.fr (R':=putRo (putRo G.R vV'.ownBlock (6,G.fs.length - 1)) cV'.ownBlock (7,G.fs.length - 1)) hf1 (fun k _ e1 e2=>by
  have:=hrv.2 k e2.symm
  rcases e1 with q | q<;>rw [q] at this<;>simp at this) hR
 have hat:AtL (putRo (putRo G.R vV'.ownBlock (6,G.fs.length - 1)) cV'.ownBlock (7,G.fs.length - 1)) G G.fs fb fo:=by
  rcases hc.at_ with a | ⟨a1,a2,a3⟩
  ·exact .inl a
  ·exact .inr ⟨a1,by rw [hR fb hfl];exact a2,a3⟩
 have hl2:=hl1.set hat hc.last (j:=0) (u:=vV') (f':={ f with vV:=vV' }) (by omega) rfl
 have hl3:=hl2.fr (R':=putRo (putRo G.R vV'.ownBlock (6,G.fs.length - 1)) cV'.ownBlock (7,G.fs.length - 1)) hf3 (fun k _ e1 e2=>by
  have h1:=hrc.2 k e2.symm
  rw [hR k (hclt k e2.symm),h1] at e1
  rcases e1 with q | q<;>simp at q) fun _ _=>rfl
 have hlen:(G.fs.set (G.fs.length - 1) { f with vV:=vV' }).length=G.fs.length:=List.length_set
 have hl4:=hl3.set (fb:=fb) (fo:=fo) (by unfold AtL at hat ⊢;rw [hlen];exact hat) (f:={ f with vV:=vV' }) (by rw [hlen];exact List.getElem?_set_self (by have:=h.fpos;omega)) (j:=1) (u:=cV') (f':=⟨f.env++[⟨v,c⟩],f.loc,vV',cV'⟩) (by omega) rfl
 rw [hlen,List.set_set] at hl4
 have hlt:c<σ.mem.length:=by rw [← h.lcb];exact (List.getElem?_eq_some_iff.1 hb).1
 refine ⟨vV',cV',_,h.frUpd hf hm hR hge hl4 ?_ ?_ ?_,hR,hf.mono fun k hk e=>?_⟩
 ·refine ⟨?_,fun g hg=>?_⟩
  ·rw [vdCs_push,List.length_append]
   have h1:=(Fr.of_set w1 ⟨fb,fo,none⟩ vV').own hx1.own fun g hg e=>hv'fb (by rw [hg,show g=fb from e])
   have h2:=hf3.own h1 fun g hg e=>hcv' g hg e.symm
   exact (Fr.of_set w3 ⟨fb,fo+1,none⟩ cV').own h2 fun g hg e=>hv'fb (by rw [hg,show g=fb from e])
  ·rw [pro (hc'v' g hg)];exact prs hg
 ·refine ⟨?_,fun g hg=>prs hg⟩
  rw [ptrs_push _ _ _ hb,List.length_append]
  exact (Fr.of_set w3 ⟨fb,fo+1,none⟩ cV').own hx2.own fun g hg e=>hc'fb (by rw [hg,show g=fb from e])
 ·intro e he
  rcases List.mem_append.1 he with he | he
  ·exact h.env _ f e hc.last he
  ·simp at he;rw [he];exact hlt
 ·rcases hm k hk e with q | q | q | q<;>rw [q]<;>exact ⟨by simp,by simp⟩
end Go.Proofs.YtgbomnibedefoaaGreatDoor
