import Derived.Test.YtgbomnibedefoaaGreatDoorQa46
set_option maxRecDepth 100000
set_option maxHeartbeats 8000000
namespace Go.Proofs.YtgbomnibedefoaaGreatDoor
open Go.ChangeShapes Go.WideShapes Go.ChangeAt Go.RowKit Go.Sort
structure LwH (P:Pg) (S:Sg) (Av Ap Am Ac Ai Ao:Option Addr) (cv:Nat) (w:World):Prop where
 pf:PgFit P
 sf:SgFit S
 sr:SgRng S
 pa:PgAt w Av Ap Am P
 sa:SgAt w Ac Ai Ao S
 sl:SlOk Av P.vars.length cv
 sy:SymW w
theorem LwH.mono {P:Pg} {S:Sg} {Av Ap Am Ac Ai Ao:Option Addr} {cv:Nat} {w w':World} (h:LwH P S Av Ap Am Ac Ai Ao cv w) (hb:Below w.heap.size w w'):LwH P S Av Ap Am Ac Ai Ao cv w':=⟨h.pf,h.sf,h.sr,h.pa.mono hb,h.sa.mono hb,h.sl,h.sy.below hb⟩
structure LwQ (P Q:Pg) (S:Sg) (Av Ap Am Ac Ai Ao:Option Addr) (cv cp cm c1 c2 c3:Nat) (w:World) (b0 b3 b7:Nat) (wc:World):Prop where
 b:Below w.heap.size w wc
 p:Bx wc b0 (pgC P Av Ap Am cv cp cm)
 s:Bx wc b3 (sgC S Ac Ai Ao c1 c2 c3)
 h:LwH P S Av Ap Am Ac Ai Ao cv wc
 q:∃ A6 c6,Bx wc b7 (pgC Q Av Ap A6 cv cp c6)∧LwH Q S Av Ap A6 Ac Ai Ao cv wc
theorem dbl_made {P:Pg} {S:Sg} {Av Ap Am Ac Ai Ao A6:Option Addr} {cv cp cm c1 c2 c3 c6 b0 b3:Nat} {w W4 w10:World} {cs1 cs2:List Value} (h:LwH P S Av Ap Am Ac Ai Ao cv w) (hok:PgOk P) (hb4:Below w.heap.size w W4) (hp:Bx W4 b0 (pgC P Av Ap Am cv cp cm)) (hs:Bx W4 b3 (sgC S Ac Ai Ao c1 c2 c3)) (h1:RwNd W4 cs1 P.main.kids) (h2:RwNd W4 cs2 (invT P.main).kids) (hl1:cs1.length=P.main.kids.length*4)
  (hb10:Below W4.heap.size W4 w10) (h7:Bx w10 W4.heap.size (pgC P Av Ap Am cv cp cm)) (hown:w10.ownsRow (W4.heap.size+1) 26 4 (.slice A6 (P.main.kids.length+(invT P.main).kids.length) c6) (P.main.kids.length+(invT P.main).kids.length) (cs1++cs2)) :
  LwQ P (dblPg P) S Av Ap Am Ac Ai Ao cv cp cm c1 c2 c3 w b0 b3 W4.heap.size ((((w10.setCell ⟨W4.heap.size,2,none⟩ (.int .u8 57)).setCell ⟨W4.heap.size,3,none⟩ (.int .i64 0)).setCell ⟨W4.heap.size,4,none⟩ (.string ⟨#[]⟩)).setCell ⟨W4.heap.size,5,none⟩ (.slice A6 (P.main.kids.length+(invT P.main).kids.length) c6)):=by
 have hf:Fr w10 ((((w10.setCell ⟨W4.heap.size,2,none⟩ (.int .u8 57)).setCell ⟨W4.heap.size,3,none⟩ (.int .i64 0)).setCell ⟨W4.heap.size,4,none⟩ (.string ⟨#[]⟩)).setCell ⟨W4.heap.size,5,none⟩ (.slice A6 (P.main.kids.length+(invT P.main).kids.length) c6)) (fun k=>k=W4.heap.size):=
  (((Fr.of_set w10 ⟨W4.heap.size,2,none⟩ _).trans (Fr.of_set _ ⟨W4.heap.size,3,none⟩ _) fun _ _ e=>e).trans (Fr.of_set _ ⟨W4.heap.size,4,none⟩ _) fun _ _ e=>e).trans (Fr.of_set _ ⟨W4.heap.size,5,none⟩ _) fun _ _ e=>e
 have hN:=h7.set 2 (.int .u8 57)
 have hN:=hN.set 3 (.int .i64 0)
 have hN:=hN.set 4 (.string ⟨#[]⟩)
 have hN:=hN.set 5 (.slice A6 (P.main.kids.length+(invT P.main).kids.length) c6)
 have hlen:(dblPg P).main.kids.length=P.main.kids.length+(invT P.main).kids.length:=List.length_append
 have hN:Bx ((((w10.setCell ⟨W4.heap.size,2,none⟩ (.int .u8 57)).setCell ⟨W4.heap.size,3,none⟩ (.int .i64 0)).setCell ⟨W4.heap.size,4,none⟩ (.string ⟨#[]⟩)).setCell ⟨W4.heap.size,5,none⟩ (.slice A6 (P.main.kids.length+(invT P.main).kids.length) c6)) W4.heap.size (pgC (dblPg P) Av Ap A6 cv cp c6):=by
  unfold pgC
  rw [hlen]
  exact hN
 generalize (((w10.setCell ⟨W4.heap.size,2,none⟩ (.int .u8 57)).setCell ⟨W4.heap.size,3,none⟩ (.int .i64 0)).setCell ⟨W4.heap.size,4,none⟩ (.string ⟨#[]⟩)).setCell ⟨W4.heap.size,5,none⟩ (.slice A6 (P.main.kids.length+(invT P.main).kids.length) c6)=wc at hf hN ⊢
 have hb:Below W4.heap.size W4 wc:=hf.toBelow hb10 hb10.size fun k e=>by have e':k=W4.heap.size:=e;omega
 have hbw:=bls hb4 hb4.size hb
 have hh:=h.mono hbw
 have hown':=hf.own hown fun g hg e=>by have e':g=W4.heap.size:=e;have:=obg hown g hg;omega
 have hn:=(nds_rw (l:=(dblPg P).main.kids) hlen.symm hown' ((h1.append h2 hl1).mono hb)).1
 have hbn:=(val_bnd hok.v).m
 exact ⟨hbw,hp.below hb,hs.below hb,hh,A6,c6,hN,⟨dbl_fit h.pf hbn.s hbn.b,h.sf,h.sr,⟨hh.pa.v,hh.pa.p,hn⟩,hh.sa,h.sl,hh.sy⟩⟩
def RnBk (S:Sg) (z:Int) (w:World) (e:Ending) (w':World):Prop:=∃ A1 k1 A2 k2 A3 k3,e=.returned (.agg #[.slice A1 S.cells.length k1,.slice A2 S.inp.length k2,.slice A3 S.out.length k3,.int .i64 z,.int .i64 0])∧SgAt w' A1 A2 A3 S∧Below w.heap.size w w'
def RnFst (r:Rs) (w:World) (e:Ending) (w':World):Prop:=∃ A1 n1 k1 A2 n2 k2 A3 n3 k3,∃ z er:Int,e=.returned (.agg #[.slice A1 n1 k1,.slice A2 n2 k2,.slice A3 n3 k3,.int .i64 z,.int .i64 er])∧(er=0→∃ s,r=.ok s∧z=s.k)∧Below w.heap.size w w'
theorem fwq_run {w w':World} {S:Sg} {k:Nat} {e:Ending} (h:FwQ w (.ok ⟨k,⟨S.cells,S.inp,S.out⟩⟩) e w'):RnBk S (k:Nat) w e w':=by
 obtain ⟨Ac,ca,Ai,ci,Ao,co,h1,h2,h3⟩:=h
 exact ⟨Ac,ca,Ai,ci,Ao,co,h1,h2 w' (Fr.refl _ _),h3⟩
theorem fwq_first {w w':World} {r:Rs} {e:Ending} (h:FwQ w r e w'):RnFst r w e w':=by
 cases r with
 | ok s=>
   obtain ⟨Ac,ca,Ai,ci,Ao,co,h1,_,h3⟩:=h
   exact ⟨Ac,_,ca,Ai,_,ci,Ao,_,co,_,_,h1,fun _=>⟨s,rfl,rfl⟩,h3⟩
 | bad=>
   obtain ⟨A1,n1,c1,A2,n2,c2,A3,n3,c3,er,h0,h1,h2⟩:=h
   exact ⟨A1,n1,c1,A2,n2,c2,A3,n3,c3,_,er,h1,fun e=>absurd e h0,h2⟩
 | deep=>exact h.elim
theorem first_run {P:Pg} {S:Sg} {Av Ap Am Ac Ai Ao:Option Addr} {cv cp cm c1 c2 c3 d:Nat} {w:World} (h:LwH P S Av Ap Am Ac Ai Ao cv w) (hok:PgOk P) (hfit:fitsB P.vars S=true) (hd:ex P.procs 2000 d (.bl (ordK false P.main.kids)) 0 (glE P.vars) false ⟨0,⟨S.cells,S.inp,S.out⟩⟩≠.deep) :
  Calls Tryz.prog 7 #[.agg (pgC P Av Ap Am cv cp cm),.agg (sgC S Ac Ai Ao c1 c2 c3),.int .i64 2000] w (RnFst (ex P.procs 2000 d (.bl (ordK false P.main.kids)) 0 (glE P.vars) false ⟨0,⟨S.cells,S.inp,S.out⟩⟩) w):=
 (forward_any P hok h.pf S h.sf h.sr hfit 2000 (by omega) d hd Av Ap Am cv cp cm Ac Ai Ao c1 c2 c3 w h.pa h.sl h.sa).mono fun _ _ hq=>fwq_first hq
theorem second_fwd {P:Pg} {S:Sg} {Av Ap Am Ac Ai Ao:Option Addr} {cv cp cm c1 c2 c3 d k:Nat} {w:World} (h:LwH P S Av Ap Am Ac Ai Ao cv w) (hok:PgOk P) (hfit:fitsB P.vars S=true) (hd:ex P.procs 4000 d (.bl (ordK false P.main.kids)) 0 (glE P.vars) false ⟨0,⟨S.cells,S.inp,S.out⟩⟩=.ok ⟨k,⟨S.cells,S.inp,S.out⟩⟩) :
  Calls Tryz.prog 7 #[.agg (pgC P Av Ap Am cv cp cm),.agg (sgC S Ac Ai Ao c1 c2 c3),.int .i64 4000] w (RnBk S (k:Nat) w):=by
 have hf:=forward_any P hok h.pf S h.sf h.sr hfit 4000 (by omega) d (by rw [hd];simp) Av Ap Am cv cp cm Ac Ai Ao c1 c2 c3 w h.pa h.sl h.sa
 rw [hd] at hf
 exact hf.mono fun _ _ hq=>fwq_run hq
theorem second_bwd {P:Pg} {S:Sg} {Av Ap Am Ac Ai Ao:Option Addr} {cv cp cm c1 c2 c3 d k:Nat} {w:World} (h:LwH P S Av Ap Am Ac Ai Ao cv w) (hok:PgOk P) (hfit:fitsB P.vars S=true) (hd:ex P.procs 4000 d (.bl (ordK true P.main.kids)) 0 (glE P.vars) true ⟨0,⟨S.cells,S.inp,S.out⟩⟩=.ok ⟨k,⟨S.cells,S.inp,S.out⟩⟩) :
  Calls Tryz.prog 8 #[.agg (pgC P Av Ap Am cv cp cm),.agg (sgC S Ac Ai Ao c1 c2 c3),.int .i64 4000] w (RnBk S (k:Nat) w):=by
 have hf:=backward_any P hok h.pf S h.sf h.sr hfit 4000 (by omega) d (by rw [hd];simp) Av Ap Am cv cp cm Ac Ai Ao c1 c2 c3 w h.pa h.sl h.sa
 rw [hd] at hf
 exact hf.mono fun _ _ hq=>fwq_run hq
theorem law_any {P:Pg} {S:Sg} {Av Ap Am Ac Ai Ao:Option Addr} {cv cp cm c1 c2 c3:Nat} {w:World} (h:LwH P S Av Ap Am Ac Ai Ao cv w) :
  Calls Tryz.prog 3 #[.agg (pgC P Av Ap Am cv cp cm),.agg (sgC S Ac Ai Ao c1 c2 c3)] w fun e w'=>e=.returned (.bool true)∧Below w.heap.size w w':=by
 have HT:=kp (tw2 w (pgC P Av Ap Am cv cp cm) (sgC S Ac Ai Ao c1 c2 c3) 28 32)
 have HH:=kp (h.mono HT.out.1)
 have HAW:=kp (fun (Y:World) (hY:SymW Y)=>awakeRun_any hY)
 have HUS:=kp (fun (Y:World) (hY:LwH P S Av Ap Am Ac Ai Ao cv Y)=>usable_any P hY.pf S hY.sf Av Ap Am Ac Ai Ao cv cp cm c1 c2 c3 Y hY.pa hY.sl hY.sa)
 obtain ⟨i0,hi0,hz0,hz1,hz2⟩:=info_parts info_nd
 have HI0:=kp (And.intro hi0 (And.intro hz0 (And.intro hz1 hz2)))
 have H0:=kp h
 clear h hi0 hz0 hz1 hz2
 go_enter Tryz.func3,Tryz.ntmps3
 go_upto_region 1 with fail
 generalize (w.alloc _).alloc _=W at HT HH ⊢
 go_wp2_with fail
 refine (HAW.out W HH.out.sy).mono ?_
 rintro e W1 ⟨rfl,hb⟩
 have HB1:=kp (bls HT.out.1 HT.out.1.size hb)
 have HP1:=kp (HT.out.2.1.below hb)
 have HS1:=kp (HT.out.2.2.below hb)
 have HH1:=kp (HH.out.mono hb)
 clear hb
 obtain ⟨a0,a1,a2,a3,a4,a5⟩:=HP1.out.six1
 obtain ⟨s0,s1,s2,_⟩:=HS1.out.three
 have hla:=HP1.out.lt
 have hls:=HS1.out.lt
 go_wp2_with fail
 refine (HUS.out W1 HH1.out).mono ?_
 rintro e W2 ⟨b,rfl,hok,hb⟩
 have HB2:=kp (bls HB1.out HB1.out.size hb)
 have HP2:=kp (HP1.out.below hb)
 have HS2:=kp (HS1.out.below hb)
 have HH2:=kp (HH1.out.mono hb)
 clear hb a0 a1 a2 a3 a4 a5 hla s0 s1 s2 hls
 cases b with
 | false=>
   clear hok
   go_wp2_with fail
   refine (HAW.out W2 HH2.out.sy).mono ?_
   rintro e W3 ⟨rfl,hb⟩
   have HB3:=kp (bls HB2.out HB2.out.size hb)
   clear hb
   go_wp2_with fail
   go_ret
   exact ⟨rfl,HB3.out⟩
 | true=>
   have HOK:=kp (hok rfl)
   clear hok
   have HBN:=kp (val_bnd HOK.out.1.v).m
   have HST:=kp (istmt_any P.main (by have:=HBN.out.s;omega) HBN.out.b HH2.out.pf.m Am cm W2 HH2.out.pa.m)
   obtain ⟨a0,a1,a2,a3,a4,a5⟩:=HP2.out.six1
   have hla:=HP2.out.lt
   go_wp2_with fail
   refine HST.out.mono ?_
   rintro e W3 ⟨Ai2,ci2,rfl,hn3,hb⟩
   have HB3x:=kp hb
   have HB3:=kp (bls HB2.out HB2.out.size hb)
   have HP3:=kp (HP2.out.below hb)
   have HS3:=kp (HS2.out.below hb)
   have HN3:=kp hn3
   have HL:=kp (show P.main.kids.length≤2000∧(invT P.main).kids.length≤2000 from by
    have h1:=szL_len P.main.kids
    have h2:=szT_eq P.main
    have h3:=HBN.out.s
    rw [invT_block _ HBN.out.b]
    show _∧(List.reverse _).length≤_
    rw [List.length_reverse,List.length_map]
    omega)
   clear hb hn3 a0 a1 a2 a3 a4 a5 hla
   go_upto_region 4 with fail
   have HB4:=kp (blb W3 (Obj.cells (ndC (invT P.main) Ai2 ci2) 26))
   have HX4:=kp (bxn W3 (ndC (invT P.main) Ai2 ci2) 26)
   generalize W3.alloc _=W4 at HB4 HX4 ⊢
   have HP4:=kp (HP3.out.below HB4.out)
   have HS4:=kp (HS3.out.below HB4.out)
   have HN4:=kp (HN3.out.mono HB4.out)
   have HBW:=kp (bls HB3.out HB3.out.size HB4.out)
   obtain ⟨a0,a1,a2,a3,a4,a5⟩:=HP4.out.six1
   have hla:=HP4.out.lt
   go_upto_region 5 with fail
   have HB5:=kp (blb W4 (Obj.cells (pgC P Av Ap Am cv cp cm) 28))
   have HX5:=kp (bxn W4 (pgC P Av Ap Am cv cp cm) 28)
   have hz5:(W4.alloc (Obj.cells (pgC P Av Ap Am cv cp cm) 28)).heap.size=W4.heap.size+1:=by simp
   generalize W4.alloc _=W5 at HB5 HX5 hz5 ⊢
   have HZ5:=kp hz5
   clear hz5 a0 a1 a2 a3 a4 a5 hla
   have HP5:=kp (HP4.out.below HB5.out)
   have HX45:=kp (HX4.out.below HB5.out)
   obtain ⟨cs1,hc1,hl1,ho1,hr1⟩:=nds_row (HH2.out.pa.m.mono (bls (bls HB3x.out HB3x.out.size HB4.out) (bls HB3x.out HB3x.out.size HB4.out).size (Below.refl _ _)))
   obtain ⟨cs2,hc2,hl2,ho2,hr2⟩:=nds_row HN4.out
   have HC1:=kp (And.intro hc1 (And.intro hl1 (And.intro ho1 hr1)))
   have HC2:=kp (And.intro hc2 (And.intro hl2 (And.intro ho2 hr2)))
   clear hc1 hl1 ho1 hr1 hc2 hl2 ho2 hr2
   have HMD:=kp (fun (w10:World) (A6:Option Addr) (c6:Nat) (hb:Below W4.heap.size W4 w10) (h7:Bx w10 W4.heap.size (pgC P Av Ap Am cv cp cm)) (ho:w10.ownsRow (W4.heap.size+1) 26 4 (.slice A6 (P.main.kids.length+(invT P.main).kids.length) c6) (P.main.kids.length+(invT P.main).kids.length) (cs1++cs2))=>dbl_made (b0:=w.heap.size) (b3:=w.heap.size+1) (c1:=c1) (c2:=c2) (c3:=c3) (S:=S) (Ac:=Ac) (Ai:=Ai) (Ao:=Ao) H0.out HOK.out.1 HBW.out HP4.out HS4.out HC1.out.2.2.2 HC2.out.2.2.2 HC1.out.2.1 hb h7 ho)
   generalize hd:dblPg P=Q at HMD
   have HQD:=kp hd
   clear hd
   have HE1:=kp (show (W5.drew.alloc (Obj.cells #[] 26)).ownsRow (W4.heap.size+1) 26 4 (.slice (some ⟨W5.heap.size,0,none⟩) 0 0) 0 [] from own_emptyU (W:=W5.drew) rfl (by have:=HZ5.out;show W4.heap.size+1≤W5.heap.size;omega) _)
   have HE2:=kp (show ((W5.alloc (Obj.cells #[] 26)).drew).ownsRow (W4.heap.size+1) 26 4 (.slice (some ⟨W5.heap.size,0,none⟩) 0 0) 0 [] from (own_emptyU (W:=W5) rfl (by have:=HZ5.out;show W4.heap.size+1≤W5.heap.size;omega) _).drew)
   have HV1:=kp (show Below W5.heap.size W5 (W5.drew.alloc (Obj.cells #[] 26)) from (bld (Below.refl W5.heap.size W5)).alloc (bld (Below.refl W5.heap.size W5)).size _)
   have HV2:=kp (show Below W5.heap.size W5 (W5.alloc (Obj.cells #[] 26)).drew from bld (blb W5 _))
   obtain ⟨a0,a1,a2,a3,a4,a5⟩:=HP5.out.six1
   have hla:=HP5.out.lt
   obtain ⟨x0,x1,x2,x3,_⟩:=HX45.out.four
   have hlx:=HX45.out.lt
   clear a0 a1 a2 a3 a4 x0 x1 x2
   go_cut [] (fun wc=>Hid (LwQ P Q S Av Ap Am Ac Ai Ao cv cp cm c1 c2 c3 w w.heap.size (w.heap.size+1) W4.heap.size wc))
   case first=>
    go_region_law (first
     | (refine step_app _ (by rfl) (.tmp 27) (.tmp 30) 24 (by rfl) (W4.heap.size+1) 26 i0 (.agg #[.int .u8 0,.int .i64 0,.string ⟨#[]⟩,.slice none 0 0]) 4 56 Tryz.underlying24 HI0.out.1 HI0.out.2.1 HI0.out.2.2.1 HI0.out.2.2.2 rfl (by decide) (.slice (some ⟨W5.heap.size,0,none⟩) 0 0) 0 [] (by first | (simp [Act.eval];done) | (simp [Act.eval,Act.put];done)) (by first | exact HE1.out | exact HE2.out) Am P.main.kids.length cm cs1 (by first | (simp [Act.eval];done) | (simp [Act.eval,Act.put];done)) HC1.out.2.1 (by first | exact (HC1.out.1.mono HB5.out).mono HV1.out | exact (HC1.out.1.mono HB5.out).mono HV2.out) HC1.out.2.2.1 (by have:=HL.out.1;unfold maxLen;omega) (by have:=HL.out.1;omega) (by have:=HZ5.out;simp;omega) ?_;intro v5 w9 hown5 hgrow5 hat5;rw [Nat.zero_add,List.nil_append] at hown5;have HB9:=kp (show Below W5.heap.size W5 w9 from by first | exact (Fr.of_grown hgrow5).toBelow HV1.out HV1.out.size (fun g hg=>by have:=obg HE1.out g hg.symm;have:=HZ5.out;omega) | exact (Fr.of_grown hgrow5).toBelow HV2.out HV2.out.size (fun g hg=>by have:=obg HE2.out g hg.symm;have:=HZ5.out;omega));have HO9:=kp hown5;obtain ⟨A5,c5,rfl,hc5,hqq⟩:=ofb hown5;clear hqq hc5 hown5 hgrow5 hat5;have x3:=blc HB9.out x3;have hlx:=block_lt_of_cell x3)
     | (refine step_app _ (by rfl) (.tmp 31) (.tmp 33) 24 (by rfl) (W4.heap.size+1) 26 i0 (.agg #[.int .u8 0,.int .i64 0,.string ⟨#[]⟩,.slice none 0 0]) 4 56 Tryz.underlying24 HI0.out.1 HI0.out.2.1 HI0.out.2.2.1 HI0.out.2.2.2 rfl (by decide) (.slice A5 P.main.kids.length c5) P.main.kids.length cs1 (by first | (simp [Act.eval];done) | (simp [Act.eval,Act.put];done)) HO9.out Ai2 (invT P.main).kids.length ci2 cs2 (by first | (simp [Act.eval];done) | (simp [Act.eval,Act.put];done)) HC2.out.2.1 ((HC2.out.1.mono HB5.out).mono HB9.out) HC2.out.2.2.1 (by have:=HL.out;unfold maxLen;omega) (by have:=HL.out;omega) (by have:=HZ5.out;have:=HB9.out.size;omega) ?_;intro v6 w10 hown6 hgrow6 hat6;have HB10:=kp ((Fr.of_grown hgrow6).toBelow HB9.out HB9.out.size (fun g hg=>by have:=obg HO9.out g hg.symm;have:=HZ5.out;omega));have HX10:=kp (HX5.out.below HB10.out);obtain ⟨A6,c6,rfl,hc6,hqq⟩:=ofb hown6;have HM:=kp (HMD.out w10 A6 c6 (bls HB5.out HB5.out.size HB10.out) HX10.out hown6);obtain ⟨⟨z0,z1,z2,z3,z4,z5⟩,g0,g1,g2,g3,g4,g5⟩:=HX10.out.six;have hlz:=HX10.out.lt;clear z0 z1 g0 g1;clear hqq hc6 hown6 hgrow6 hat6)
     | fail)
    all_goals
     go_simp
     go_wp2_with fail
     go_meet
     exact HM
   case rest=>
    obtain ⟨A6,c6,hq7,hq8⟩:=hcut.out.q
    have HQ7:=kp hq7
    have HQ8:=kp hq8
    have HU2:=kp (usable_any Q hq8.pf S hq8.sf Av Ap A6 Ac Ai Ao cv cp c6 c1 c2 c3 wc hq8.pa hq8.sl hq8.sa)
    have hs3:=hcut.out.s
    have HP6:=kp hcut.out.p
    have HS6:=kp hs3
    have HB6:=kp hcut.out.b
    have HH6:=kp hcut.out.h
    obtain ⟨a0,a1,a2,a3,a4,a5⟩:=hq7.six1
    have hla:=hq7.lt
    obtain ⟨s0,s1,s2,_⟩:=hs3.three
    have hls:=hs3.lt
    clear hq7 hq8 hs3 hcut HMD HE1 HE2 HV1 HV2 HC1 HC2
    go_wp2_with fail
    refine HU2.out.mono ?_
    rintro e W7 ⟨b,rfl,hok2,hb⟩
    have HBc:=kp hb
    have HB7:=kp (bls HB6.out HB6.out.size hb)
    clear hb a0 a1 a2 a3 a4 a5 hla s0 s1 s2 hls
    cases b with
    | false=>
      clear hok2
      go_wp2_with fail
      go_ret
      exact ⟨rfl,HB7.out⟩
    | true=>
      have HOK2:=kp (hok2 rfl).1
      clear hok2
      obtain ⟨d,hnd,hrun⟩:=law_runs HOK.out.1 HH6.out.pf HH6.out.sr HOK.out.2
      have HRN:=kp hrun
      have HP7:=kp (HP6.out.below HBc.out)
      have HS7:=kp (HS6.out.below HBc.out)
      have HQ9:=kp (HQ7.out.below HBc.out)
      have HFR:=kp (first_run (cp:=cp) (cm:=cm) (c1:=c1) (c2:=c2) (c3:=c3) (HH6.out.mono HBc.out) HOK.out.1 HOK.out.2 hnd)
      have HQA:=kp (HQ8.out.mono HBc.out)
      clear hnd hrun
      generalize ex P.procs 2000 d (.bl (ordK false P.main.kids)) 0 (glE P.vars) false ⟨0,⟨S.cells,S.inp,S.out⟩⟩=r at HRN HFR
      obtain ⟨a0,a1,a2,a3,a4,a5⟩:=HP7.out.six1
      have hla:=HP7.out.lt
      obtain ⟨s0,s1,s2,_⟩:=HS7.out.three
      have hls:=HS7.out.lt
      go_wp2_with fail
      refine HFR.out.mono ?_
      rintro e W8 ⟨A1,n1,k1,A2,n2,k2,A3,n3,k3,z,er,rfl,hz,hb⟩
      have HB8:=kp (bls HB7.out HB7.out.size hb)
      have HS8:=kp (HS7.out.below hb)
      have HQ10:=kp (HQ9.out.below hb)
      have HQB:=kp (HQA.out.mono hb)
      have HZE:=kp hz
      clear hb hz a0 a1 a2 a3 a4 a5 hla s0 s1 s2 hls
      go_upto_region 9 with fail
      have HBX:=kp (blb W8 (Obj.cells #[.slice A1 n1 k1,.slice A2 n2 k2,.slice A3 n3 k3,.int .i64 z,.int .i64 er] 39))
      have HRX:=kp (bxn W8 #[.slice A1 n1 k1,.slice A2 n2 k2,.slice A3 n3 k3,.int .i64 z,.int .i64 er] 39)
      generalize W8.alloc _=W9 at HBX HRX ⊢
      have HB9:=kp (bls HB8.out HB8.out.size HBX.out)
      have HS9:=kp (HS8.out.below HBX.out)
      have HQ11:=kp (HQ10.out.below HBX.out)
      have HQC:=kp (HQB.out.mono HBX.out)
      obtain ⟨⟨x0,x1,x2,x3,x4⟩,_⟩:=HRX.out.fiveF
      have hlx:=HRX.out.lt
      have hne:=bne_int er 0
      by_cases h0:er=0
      rotate_left
      ·rw [decide_eq_false h0] at hne
       clear h0
       go_wp2_with fail
       go_ret
       exact ⟨rfl,HB9.out⟩
      ·obtain ⟨s,hs1,hs2⟩:=HZE.out h0
       obtain ⟨hsk,hdbl⟩:=HRN.out s hs1
       rw [HQD.out] at hdbl
       obtain ⟨d1,hd1⟩:=hdbl false
       obtain ⟨d2,hd2⟩:=hdbl true
       have hv:Q.vars=P.vars:=by rw [← HQD.out];rfl
       have HF2:=kp (second_fwd (cp:=cp) (cm:=c6) (c1:=c1) (c2:=c2) (c3:=c3) HQC.out HOK2.out (by rw [hv];exact HOK.out.2) hd1)
       have HF3:=kp (fun (Y:World) (hY:LwH Q S Av Ap A6 Ac Ai Ao cv Y)=>second_bwd (cp:=cp) (cm:=c6) (c1:=c1) (c2:=c2) (c3:=c3) hY HOK2.out (by rw [hv];exact HOK.out.2) hd2)
       obtain ⟨y,hy⟩:∃ y,2*z=y:=⟨_,rfl⟩
       have hw:IntKind.i64.wrap (2*z)=y:=by rw [IntKind.wrap_i64];omega
       have hzz:((2*s.k:Nat):Int)=y:=by rw [← hy,hs2];omega
       rw [hzz] at HF2 HF3
       rw [decide_eq_true h0] at hne
       clear h0 hs1 hs2 hsk hdbl hd1 hd2 hv hzz hy
       have HX9:=kp HRX.out
       clear x0 x1 x2 x3
       obtain ⟨a0,a1,a2,a3,a4,a5⟩:=HQ11.out.six1
       have hla:=HQ11.out.lt
       obtain ⟨s0,s1,s2,_⟩:=HS9.out.three
       have hls:=HS9.out.lt
       go_wp2_with fail
       refine HF2.out.mono ?_
       rintro e W10 ⟨B1,j1,B2,j2,B3,j3,rfl,hsg,hb⟩
       have HB10:=kp (bls HB9.out HB9.out.size hb)
       have HS10:=kp (HS9.out.below hb)
       have HQ12:=kp (HQ11.out.below hb)
       have HQD2:=kp (HQC.out.mono hb)
       have HX10:=kp (HX9.out.below hb)
       have HG10:=kp hsg
       clear hb hsg a0 a1 a2 a3 a4 a5 hla s0 s1 s2 hls x4 hlx
       go_upto_region 12 with fail
       have HBY:=kp (blb W10 (Obj.cells #[.slice B1 S.cells.length j1,.slice B2 S.inp.length j2,.slice B3 S.out.length j3,.int .i64 y,.int .i64 0] 39))
       have HRY:=kp (bxn W10 #[.slice B1 S.cells.length j1,.slice B2 S.inp.length j2,.slice B3 S.out.length j3,.int .i64 y,.int .i64 0] 39)
       generalize W10.alloc _=W11 at HBY HRY ⊢
       have HB11:=kp (bls HB10.out HB10.out.size HBY.out)
       have HS11:=kp (HS10.out.below HBY.out)
       have HQ13:=kp (HQ12.out.below HBY.out)
       have HQD3:=kp (HQD2.out.mono HBY.out)
       have HX11:=kp (HX10.out.below HBY.out)
       have HG11:=kp (HG10.out.mono HBY.out)
       have HF4:=kp (HF3.out W11 HQD3.out)
       obtain ⟨a0,a1,a2,a3,a4,a5⟩:=HQ13.out.six1
       have hla:=HQ13.out.lt
       obtain ⟨s0,s1,s2,_⟩:=HS11.out.three
       have hls:=HS11.out.lt
       go_wp2_with fail
       refine HF4.out.mono ?_
       rintro e W12 ⟨C1,l1,C2,l2,C3,l3,rfl,hsg,hb⟩
       have HB12:=kp (bls HB11.out HB11.out.size hb)
       have HS12:=kp (HS11.out.below hb)
       have HSA12:=kp (HQD3.out.sa.mono hb)
       have HX12:=kp (HX11.out.below hb)
       have HY12:=kp (HRY.out.below hb)
       have HG12:=kp (HG11.out.mono hb)
       have HK12:=kp hsg
       clear hb hsg a0 a1 a2 a3 a4 a5 hla s0 s1 s2 hls
       go_upto_region 13 with fail
       have HBZ:=kp (blb W12 (Obj.cells #[.slice C1 S.cells.length l1,.slice C2 S.inp.length l2,.slice C3 S.out.length l3,.int .i64 y,.int .i64 0] 39))
       have HRZ:=kp (bxn W12 #[.slice C1 S.cells.length l1,.slice C2 S.inp.length l2,.slice C3 S.out.length l3,.int .i64 y,.int .i64 0] 39)
       generalize W12.alloc _=W13 at HBZ HRZ ⊢
       have HB13:=kp (bls HB12.out HB12.out.size HBZ.out)
       have HS13:=kp (HS12.out.below HBZ.out)
       have HX13:=kp (HX12.out.below HBZ.out)
       have HY13:=kp (HY12.out.below HBZ.out)
       have HE1:=kp (show Calls Tryz.prog 9 #[.agg #[.slice B1 S.cells.length j1,.slice B2 S.inp.length j2,.slice B3 S.out.length j3],.agg (sgC S Ac Ai Ao c1 c2 c3)] W13 (fun e w'=>e=.returned (.bool true)∧Below W13.heap.size W13 w') from by
        have:=stEqual_any S S HH6.out.sf B1 B2 B3 Ac Ai Ao j1 j2 j3 c1 c2 c3 W13 (HG12.out.mono HBZ.out) (HSA12.out.mono HBZ.out)
        rwa [sg_eq] at this)
       have HE2:=kp (fun (Y:World) (hY:Below W13.heap.size W13 Y)=>show Calls Tryz.prog 9 #[.agg #[.slice C1 S.cells.length l1,.slice C2 S.inp.length l2,.slice C3 S.out.length l3],.agg (sgC S Ac Ai Ao c1 c2 c3)] Y (fun e w'=>e=.returned (.bool true)∧Below Y.heap.size Y w') from by
        have:=stEqual_any S S HH6.out.sf C1 C2 C3 Ac Ai Ao l1 l2 l3 c1 c2 c3 Y ((HK12.out.mono HBZ.out).mono hY) ((HSA12.out.mono HBZ.out).mono hY)
        rwa [sg_eq] at this)
       obtain ⟨⟨x0,x1,x2,x3,x4⟩,_⟩:=HX13.out.fiveF
       have hlx:=HX13.out.lt
       obtain ⟨⟨y0,y1,y2,y3,y4⟩,_⟩:=HY13.out.fiveF
       have hly:=HY13.out.lt
       obtain ⟨⟨z0,z1,z2,z3,z4⟩,_⟩:=HRZ.out.fiveF
       have hlz:=HRZ.out.lt
       obtain ⟨s0,s1,s2,_⟩:=HS13.out.three
       have hls:=HS13.out.lt
       clear x0 x1 x2 x4
       go_wp2_with fail
       refine HE1.out.mono ?_
       rintro e W14 ⟨rfl,hb⟩
       have HB14:=kp (bls HB13.out HB13.out.size hb)
       have HS14:=kp (HS13.out.below hb)
       have HX14:=kp (HX13.out.below hb)
       have HZ14:=kp (HRZ.out.below hb)
       have HE3:=kp (HE2.out W14 hb)
       clear hb x3 hlx y0 y1 y2 y3 y4 hly z0 z1 z2 z3 z4 hlz s0 s1 s2 hls
       obtain ⟨⟨x0,x1,x2,x3,x4⟩,_⟩:=HX14.out.fiveF
       have hlx:=HX14.out.lt
       obtain ⟨⟨z0,z1,z2,z3,z4⟩,_⟩:=HZ14.out.fiveF
       have hlz:=HZ14.out.lt
       obtain ⟨s0,s1,s2,_⟩:=HS14.out.three
       have hls:=HS14.out.lt
       clear x0 x1 x2 x4
       go_wp2_with fail
       refine HE3.out.mono ?_
       rintro e W15 ⟨rfl,hb⟩
       have HB15:=kp (bls HB14.out HB14.out.size hb)
       clear hb x3 hlx z0 z1 z2 z3 z4 hlz s0 s1 s2 hls
       go_wp2_with fail
       go_ret
       exact ⟨rfl,HB15.out⟩
end Go.Proofs.YtgbomnibedefoaaGreatDoor
