import Derived.Test.YtgbomnibedefoaaGreatDoorQa34
import Derived.Test.YtgbomnibedefoaaGreatDoorQa45
set_option maxRecDepth 100000
set_option maxHeartbeats 8000000
namespace Go.Proofs.YtgbomnibedefoaaGreatDoor
open Go.ChangeShapes Go.WideShapes Go.ChangeAt Go.RowKit Go.Sort
def numSg (n:Int):Sg:=⟨[[n]],[],[]⟩
def NumP (n:Int) (w:World) (e:Ending) (w':World):Prop:=∃ A,e=.returned (.agg #[.slice A 1 1,.slice none 0 0,.slice none 0 0])∧SgAt w' A none none (numSg n)∧Below w.heap.size w w'
theorem num_sg {w W:World} {n:Int} {g h:Nat} (h1:W.cell? ⟨h,0,none⟩=some (.slice (some ⟨g,0,none⟩) 1 1)) (h2:W.cell? ⟨g,0,none⟩=some (.int .i64 n)) (hb:Below w.heap.size w W):NumP n w (.returned (.agg #[.slice (some ⟨h,0,none⟩) 1 1,.slice none 0 0,.slice none 0 0])) W:=by
 refine ⟨_,rfl,⟨fun k c hk=>?_,fun k x hk=>(nomatch hk),fun k x hk=>(nomatch hk)⟩,hb⟩
 match k,hk with
 | 0,hk=>
   cases hk
   refine ⟨h,0,some ⟨g,0,none⟩,1,rfl,h1,fun j x hj=>?_⟩
   match j,hj with
   | 0,hj=>cases hj;exact ⟨g,0,rfl,h2⟩
   | j+1,hj=>simp at hj
 | k+1,hk=>simp [numSg] at hk
theorem snumber_any (n:Int) (w:World):Calls Tryz.prog 11 #[.int .i64 n] w (NumP n w):=by
 have HB:=kp (blb w (Obj.cells #[.slice none 0 0,.slice none 0 0,.slice none 0 0] 32))
 have HR:=kp (bxn w #[.slice none 0 0,.slice none 0 0,.slice none 0 0] 32)
 go_enter Tryz.func11,Tryz.ntmps11
 go_upto_region 1 with fail
 generalize w.alloc _=V at HB HR ⊢
 obtain ⟨r0,r1,r2,f0,f1,f2⟩:=HR.out.three
 have hlr:=HR.out.lt
 have HQ:=kp (HR.out.set3 (.slice (some ⟨V.heap.size+1,0,none⟩) 1 1) (.slice none 0 0) (.slice none 0 0))
 have HF:=kp (below_set3 HB.out (b:=w.heap.size) (Nat.le_refl _) (.slice (some ⟨V.heap.size+1,0,none⟩) 1 1) (.slice none 0 0) (.slice none 0 0))
 have HZ:=kp (show (((V.setCell ⟨w.heap.size,0,none⟩ (.slice (some ⟨V.heap.size+1,0,none⟩) 1 1)).setCell ⟨w.heap.size,1,none⟩ (.slice none 0 0)).setCell ⟨w.heap.size,2,none⟩ (.slice none 0 0)).heap.size=V.heap.size from by simp)
 go_wp2_with fail
 generalize ((V.setCell _ _).setCell _ _).setCell _ _=U at HQ HF HZ ⊢
 have hz:=HZ.out
 rw [← hz]
 rw [← hz] at HQ
 have hq2:=HQ.out.below (two_box U (Obj.cells #[.int .i64 n] 3) (Obj.cells #[.slice (some ⟨U.heap.size,0,none⟩) 1 1] 30))
 have hn1:=(bxn U #[.int .i64 n] 3).below (blb _ (Obj.cells #[.slice (some ⟨U.heap.size,0,none⟩) 1 1] 30))
 have hn2:=bxn (U.alloc (Obj.cells #[.int .i64 n] 3)) #[.slice (some ⟨U.heap.size,0,none⟩) 1 1] 30
 have hbb:=bls HF.out HF.out.size (two_box U (Obj.cells #[.int .i64 n] 3) (Obj.cells #[.slice (some ⟨U.heap.size,0,none⟩) 1 1] 30))
 rw [World.size_alloc] at hn2
 generalize (U.alloc _).alloc _=WF at hq2 hn1 hn2 hbb ⊢
 obtain ⟨q0,q1,q2,_⟩:=hq2.three
 exact bodyPost_ret (v:=.agg #[.slice (some ⟨U.heap.size+1,0,none⟩) 1 1,.slice none 0 0,.slice none 0 0]) (by simp [results,Tryz.results11,go_sem,q0,q1,q2]) rfl (num_sg (hn2.cell rfl) (hn1.cell rfl) hbb)
def UsP (P:Pg) (S:Sg) (w:World) (e:Ending) (w':World):Prop:=∃ b:Bool,e=.returned (.bool b)∧(b=true→PgOk P∧fitsB P.vars S=true)∧Below w.heap.size w w'
abbrev sgC (S:Sg) (Ac Ai Ao:Option Addr) (c1 c2 c3:Nat):Array Value:=#[.slice Ac S.cells.length c1,.slice Ai S.inp.length c2,.slice Ao S.out.length c3]
theorem usable_any (P:Pg) (hf:PgFit P) (S:Sg) (hS:SgFit S) (Av Ap Am Ac Ai Ao:Option Addr) (cv cp cm c1 c2 c3:Nat) (w:World) (hK:PgAt w Av Ap Am P) (hSl:SlOk Av P.vars.length cv) (hC:SgAt w Ac Ai Ao S) :
  Calls Tryz.prog 5 #[.agg (pgC P Av Ap Am cv cp cm),.agg (sgC S Ac Ai Ao c1 c2 c3)] w (UsP P S w):=by
 have HT:=kp (tw2 w (pgC P Av Ap Am cv cp cm) (sgC S Ac Ai Ao c1 c2 c3) 28 32)
 have HK:=kp (And.intro (hK.mono HT.out.1) (hC.mono HT.out.1))
 have HG:=kp (fun (V:World) (h1:PgAt V Av Ap Am P) (h2:SgAt V Ac Ai Ao S)=>Great17_any P hf S hS Av Ap Am Ac Ai Ao cv cp cm c1 c2 c3 V h1 h2)
 have HO:=kp (fun (V:World) (h1:PgAt V Av Ap Am P)=>ok_any P hf Av Ap Am cv cp cm V h1 hSl)
 have HF:=kp (fun (V:World) (h1:PgAt V Av Ap Am P) (h2:SgAt V Ac Ai Ao S)=>fits_any P.vars S hf.lv hS Av cv Ac Ai Ao c1 c2 c3 V h1.v h2)
 clear hf hS hK hSl hC
 go_enter Tryz.func5,Tryz.ntmps5
 go_upto_region 1 with fail
 generalize (w.alloc _).alloc _=W at HT HK ⊢
 obtain ⟨a0,a1,a2,a3,a4,a5⟩:=HT.out.2.1.six1
 obtain ⟨s0,s1,s2,_⟩:=HT.out.2.2.three
 have hla:=HT.out.2.1.lt
 have hls:=HT.out.2.2.lt
 go_wp2_with fail
 refine (HG.out W HK.out.1 HK.out.2).mono ?_
 rintro e W1 ⟨he,hb⟩
 have HB1:=kp (bls HT.out.1 HT.out.1.size hb)
 have HP1:=kp (HT.out.2.1.below hb)
 have HS1:=kp (HT.out.2.2.below hb)
 have HK1:=kp (And.intro (HK.out.1.mono hb) (HK.out.2.mono hb))
 clear hb a0 a1 a2 a3 a4 a5 hla s0 s1 s2 hls
 obtain ⟨a0,a1,a2,a3,a4,a5⟩:=HP1.out.six1
 obtain ⟨s0,s1,s2,_⟩:=HS1.out.three
 have hla:=HP1.out.lt
 have hls:=HS1.out.lt
 rcases he with rfl | rfl
 rotate_left
 ·go_wp2_with fail
  go_ret
  exact ⟨false,rfl,no_tt,HB1.out⟩
 ·go_wp2_with fail
  refine (HO.out W1 HK1.out.1).mono ?_
  rintro e W2 ⟨b,rfl,hok,hb⟩
  have HB2:=kp (bls HB1.out HB1.out.size hb)
  have HP2:=kp (HP1.out.below hb)
  have HS2:=kp (HS1.out.below hb)
  have HK2:=kp (And.intro (HK1.out.1.mono hb) (HK1.out.2.mono hb))
  clear hb a0 a1 a2 a3 a4 a5 hla s0 s1 s2 hls
  obtain ⟨a0,a1,a2,a3,a4,a5⟩:=HP2.out.six1
  obtain ⟨s0,s1,s2,_⟩:=HS2.out.three
  have hla:=HP2.out.lt
  have hls:=HS2.out.lt
  cases b with
  | false=>
    clear hok
    go_wp2_with fail
    go_ret
    exact ⟨false,rfl,no_tt,HB2.out⟩
  | true=>
    have HOK:=kp (hok rfl)
    clear hok
    go_wp2_with fail
    refine (HF.out W2 HK2.out.1 HK2.out.2).mono ?_
    rintro e W3 ⟨rfl,hb⟩
    have HB3:=kp (bls HB2.out HB2.out.size hb)
    have HZ:=kp (show UsP P S w (.returned (.bool (fitsB P.vars S))) W3 from ⟨_,rfl,fun h=>⟨HOK.out,h⟩,HB3.out⟩)
    clear hb
    generalize fitsB P.vars S=f at HZ
    go_wp2_with fail
    go_ret
    exact HZ.out
theorem awOk:PgOk awPg where
 v:=by decide +kernel
 c:=by decide +kernel
 r:=fun b hb=>by
  rcases hb with rfl | ⟨p,hp,_⟩
  ·decide +kernel
  ·cases hp
theorem fit_mk {x:Nd} (hk:x.kind<256) (hn:-9223372036854775808≤x.num∧x.num≤9223372036854775807) (hs:x.name.size≤9223372036854775807) (hl:x.kids.length≤9223372036854775807) (h:∀ y∈x.kids,NdFit y):NdFit x:=.mk hk hn hs hl fun _ _ hy=>h _ (List.mem_of_getElem? hy)
theorem awFit:PgFit awPg where
 lv:=by decide
 lp:=by decide
 v:=fun v hv=>by
  rw [List.mem_singleton.1 hv]
  exact ⟨by decide,by decide,by decide⟩
 p:=fun p hp=>by cases hp
 m:=fit_mk (by decide) (by decide) (by decide) (by decide) fun y hy=>by
  rw [List.mem_singleton.1 hy]
  refine fit_mk (by decide) (by decide) (by decide) (by decide) fun z hz=>?_
  rcases List.mem_cons.1 hz with rfl | hz
  ·exact fit_mk (by decide) (by decide) (by decide) (by decide) fun z hz=>by cases hz
  ·rw [List.mem_singleton.1 hz]
   exact fit_mk (by decide) (by decide) (by decide) (by decide) fun z hz=>by cases hz
theorem num_fit (n:Int):SgFit (numSg n):=⟨by simp [numSg],by simp [numSg],by simp [numSg],fun c hc=>by rw [List.mem_singleton.1 hc];simp⟩
theorem num_rng {n:Int} (h:InR n):SgRng (numSg n):=⟨fun c hc x hx=>by rw [List.mem_singleton.1 hc] at hx;rw [List.mem_singleton.1 hx];exact h,fun x hx=>(nomatch hx),fun x hx=>(nomatch hx)⟩
theorem awFits:fitsB awPg.vars (numSg 4)=true:=by decide +kernel
theorem awEx1:ex awPg.procs 10 12 (.bl (ordK false awPg.main.kids)) 0 (glE awPg.vars) false ⟨0,⟨(numSg 4).cells,(numSg 4).inp,(numSg 4).out⟩⟩=.ok ⟨1,⟨[[7]],[],[]⟩⟩:=by kernel_rfl
theorem awEx2:ex awPg.procs 10 12 (.bl (ordK true awPg.main.kids)) 0 (glE awPg.vars) true ⟨0,⟨(numSg 4).cells,(numSg 4).inp,(numSg 4).out⟩⟩=.ok ⟨1,⟨[[1]],[],[]⟩⟩:=by kernel_rfl
def AwR (n:Int) (w:World) (e:Ending) (w':World):Prop:=∃ Ac ca Ai ci Ao co,e=.returned (.agg #[.slice Ac 1 ca,.slice Ai 0 ci,.slice Ao 0 co,.int .i64 1,.int .i64 0])∧(∀ w'':World,Fr w' w'' (fun k=>k<w.heap.size)→SgAt w'' Ac Ai Ao (numSg n))∧Below w.heap.size w w'
theorem awFwd {w:World} {Av Am A:Option Addr} {cv cm:Nat} (hK:PgAt w Av none Am awPg) (hSl:SlOk Av awPg.vars.length cv) (hs:SgAt w A none none (numSg 4)) :
  Calls Tryz.prog 7 #[.agg (pgC awPg Av none Am cv 0 cm),.agg #[.slice A 1 1,.slice none 0 0,.slice none 0 0],.int .i64 10] w (AwR 7 w):=by
 have h:=forward_any awPg awOk awFit (numSg 4) (num_fit 4) (num_rng (by unfold InR;omega)) awFits 10 (by omega) 12 (by rw [awEx1];simp) Av none Am cv 0 cm A none none 1 0 0 w hK hSl hs
 rw [awEx1] at h
 exact h
theorem awBwd {w:World} {Av Am A:Option Addr} {cv cm:Nat} (hK:PgAt w Av none Am awPg) (hSl:SlOk Av awPg.vars.length cv) (hs:SgAt w A none none (numSg 4)) :
  Calls Tryz.prog 8 #[.agg (pgC awPg Av none Am cv 0 cm),.agg #[.slice A 1 1,.slice none 0 0,.slice none 0 0],.int .i64 10] w (AwR 1 w):=by
 have h:=backward_any awPg awOk awFit (numSg 4) (num_fit 4) (num_rng (by unfold InR;omega)) awFits 10 (by omega) 12 (by rw [awEx2];simp) Av none Am cv 0 cm A none none 1 0 0 w hK hSl hs
 rw [awEx2] at h
 exact h
def AwB (n:Int) (w0 W:World) (b:Nat):Prop:=∃ Ac ca Ai ci Ao co,Bx W b #[.slice Ac 1 ca,.slice Ai 0 ci,.slice Ao 0 co,.int .i64 1,.int .i64 0]∧SgAt W Ac Ai Ao (numSg n)∧Below w0.heap.size w0 W
abbrev rs0:Array Value:=#[.slice none 0 0,.slice none 0 0,.slice none 0 0,.int .i64 0,.int .i64 0]
theorem aw_set {n:Int} {w0 w9:World} {b N:Nat} {Ac Ai Ao:Option Addr} {ca ci co:Nat} (hsg:∀ w'':World,Fr w9 w'' (fun k=>k<N)→SgAt w'' Ac Ai Ao (numSg n)) (hb:Below w0.heap.size w0 w9) (hx:Bx w9 b rs0) (h1:b<N) (h2:w0.heap.size≤b) :
  AwB n w0 (((((w9.setCell ⟨b,0,none⟩ (.slice Ac 1 ca)).setCell ⟨b,1,none⟩ (.slice Ai 0 ci)).setCell ⟨b,2,none⟩ (.slice Ao 0 co)).setCell ⟨b,3,none⟩ (.int .i64 1)).setCell ⟨b,4,none⟩ (.int .i64 0)) b:=by
 have hf:=Fr.set5 w9 b (.slice Ac 1 ca) (.slice Ai 0 ci) (.slice Ao 0 co) (.int .i64 1) (.int .i64 0)
 exact ⟨Ac,ca,Ai,ci,Ao,co,hx.set5 _ _ _ _ _,hsg _ (hf.mono fun k _ e=>by have e':k=b:=e;omega),hf.toBelow hb hb.size fun k e=>by have e':k=b:=e;omega⟩
theorem aw_alloc {n:Int} {w0 w9:World} {N:Nat} {Ac Ai Ao:Option Addr} {ca ci co:Nat} (hsg:∀ w'':World,Fr w9 w'' (fun k=>k<N)→SgAt w'' Ac Ai Ao (numSg n)) (hb:Below w0.heap.size w0 w9) (T:TypeId) :
  AwB n w0 (w9.alloc (Obj.cells #[.slice Ac 1 ca,.slice Ai 0 ci,.slice Ao 0 co,.int .i64 1,.int .i64 0] T)) w9.heap.size:=
 ⟨Ac,ca,Ai,ci,Ao,co,bxn w9 _ T,hsg _ (Fr.of_below (blb w9 _) _),bls hb hb.size (blb w9 _)⟩
theorem Bx.fiveF {w:World} {b:Nat} {u0 u1 u2 u3 u4:Value} (h:Bx w b #[u0,u1,u2,u3,u4]):(w.cell? ⟨b,0,none⟩=some u0∧w.cell? ⟨b,1,none⟩=some u1∧w.cell? ⟨b,2,none⟩=some u2∧w.cell? ⟨b,3,none⟩=some u3∧w.cell? ⟨b,4,none⟩=some u4)∧w.frozen? ⟨b,0,none⟩=false∧w.frozen? ⟨b,1,none⟩=false∧w.frozen? ⟨b,2,none⟩=false∧w.frozen? ⟨b,3,none⟩=false∧w.frozen? ⟨b,4,none⟩=false:=
 ⟨⟨h.cell rfl,h.cell rfl,h.cell rfl,h.cell rfl,h.cell rfl⟩,h.free 0,h.free 1,h.free 2,h.free 3,h.free 4⟩
theorem AwB.below {n:Int} {w0 W:World} {b:Nat} (h:AwB n w0 W b):Below w0.heap.size w0 W:=by
 obtain ⟨_,_,_,_,_,_,_,_,h⟩:=h
 exact h
theorem awakeRun_any {w:World} (hs:SymW w):Calls Tryz.prog 4 #[] w fun e w'=>e=.returned (.bool true)∧Below w.heap.size w w':=by
 have HP:=kp (awParsed hs)
 clear hs
 go_enter Tryz.func4,Tryz.ntmps4
 go_wp2_with fail
 refine HP.out.mono ?_
 rintro e W1 ⟨Av,cv,Am,cm,rfl,hD,hS,hb⟩
 have HB1:=kp hb
 have HD1:=kp hD.at_
 have HSL:=kp hS
 clear hD hS hb
 go_upto_region 2 with fail
 have HB2:=kp (bls HB1.out HB1.out.size (blb W1 (Obj.cells (pgC awPg Av none Am cv 0 cm) 28)))
 have HX2:=kp (bxn W1 (pgC awPg Av none Am cv 0 cm) 28)
 have HD2:=kp (HD1.out.mono (blb W1 (Obj.cells (pgC awPg Av none Am cv 0 cm) 28)))
 generalize W1.alloc _=V at HB2 HX2 HD2 ⊢
 go_cut [2] (fun v wc=>∃ b,v=.pointer (some ⟨b,0,none⟩)∧Hid (AwB 7 V wc b))
 case first=>
  obtain ⟨p0,p1,p2,p3,p4,p5⟩:=HX2.out.six1
  have hlp:=HX2.out.lt
  have HFW:=kp (fun (Y:World) (hY:Below V.heap.size V Y) (A:Option Addr) (h:SgAt Y A none none (numSg 4))=>awFwd (cv:=cv) (cm:=cm) (HD2.out.mono hY) HSL.out h)
  have HVD:=kp (bld (Below.refl V.heap.size V))
  have HVA:=kp (bld (blb V (Obj.cells rs0 39)))
  go_region_law (first
   | (go_simp;go_at_call 11;(with_reducible refine Calls.mono (snumber_any 4 V.drew) ?_);rintro e w8 ⟨A8,rfl,hs8,hb8⟩;have H8:=kp (And.intro hs8 (bls HVD.out HVD.out.size hb8));obtain ⟨p0,p1,p2,p3,p4,p5⟩:=(HX2.out.below H8.out.2).six1;have hlp:=(HX2.out.below H8.out.2).lt;clear hs8;clear hb8;dsimp only)
   | (go_simp;go_at_call 11;(with_reducible refine Calls.mono (snumber_any 4 (V.alloc _).drew) ?_);rintro e w8 ⟨A8,rfl,hs8,hb8⟩;have H8:=kp (And.intro hs8 (bls HVA.out HVA.out.size hb8));obtain ⟨p0,p1,p2,p3,p4,p5⟩:=(HX2.out.below H8.out.2).six1;have hlp:=(HX2.out.below H8.out.2).lt;clear hs8;have HXA:=kp ((show Bx (V.alloc (Obj.cells rs0 39)).drew V.heap.size rs0 from bxn V rs0 39).below hb8);clear hb8;dsimp only)
   | (go_simp;go_at_call 7;(with_reducible refine Calls.mono (HFW.out w8 H8.out.2 A8 H8.out.1) ?_);rintro e w9 ⟨Ac,ca,Ai,ci,Ao,co,rfl,hsg,hb9⟩;have H9:=kp (bls H8.out.2 H8.out.2.size hb9);have HXB:=kp (HXA.out.below hb9);obtain ⟨⟨z0,z1,z2,z3,z4⟩,g0,g1,g2,g3,g4⟩:=HXB.out.fiveF;have hlz:=HXB.out.lt;have HM:=kp (aw_set (ca:=ca) (ci:=ci) (co:=co) hsg H9.out HXB.out HXA.out.lt (Nat.le_refl _));clear hsg hb9;dsimp only)
   | (go_simp;go_at_call 7;(with_reducible refine Calls.mono (HFW.out (w8.alloc _) (H8.out.2.alloc H8.out.2.size _) A8 (H8.out.1.mono (blb _ _))) ?_);rintro e w9 ⟨Ac,ca,Ai,ci,Ao,co,rfl,hsg,hb9⟩;have H9:=kp (bls (H8.out.2.alloc H8.out.2.size _) (H8.out.2.alloc H8.out.2.size _).size hb9);have HXB:=kp ((bxn w8 rs0 39).below hb9);obtain ⟨⟨z0,z1,z2,z3,z4⟩,g0,g1,g2,g3,g4⟩:=HXB.out.fiveF;have hlz:=HXB.out.lt;have HM:=kp (aw_set (ca:=ca) (ci:=ci) (co:=co) hsg H9.out HXB.out (by simp) H8.out.2.size);clear hsg hb9;dsimp only)
   | (go_simp;go_at_call 7;(with_reducible refine Calls.mono (HFW.out w8 H8.out.2 A8 H8.out.1) ?_);rintro e w9 ⟨Ac,ca,Ai,ci,Ao,co,rfl,hsg,hb9⟩;have H9:=kp (bls H8.out.2 H8.out.2.size hb9);have HM:=kp (aw_alloc (n:=7) (w0:=V) (ca:=ca) (ci:=ci) (co:=co) hsg H9.out 39);clear hsg hb9;dsimp only)
   | fail)
  all_goals
   go_simp
   go_wp2_with fail
   go_meet
   exact ⟨_,rfl,HM⟩
 case rest=>
  obtain ⟨b,rfl,HA⟩:=hcut
  obtain ⟨wo,rfl⟩:∃ y,y=wc:=⟨_,rfl⟩
  have HX3:=kp (HX2.out.below HA.out.below)
  have HD3:=kp (HD2.out.mono HA.out.below)
  have HB3:=kp (bls HB2.out HB2.out.size HA.out.below)
  go_upto_region 3 with fail
  go_cut [3] (fun v wd=>∃ c,v=.pointer (some ⟨c,0,none⟩)∧Hid (AwB 1 wo wd c))
  case first=>
   obtain ⟨p0,p1,p2,p3,p4,p5⟩:=HX3.out.six1
   have hlp:=HX3.out.lt
   have HFW:=kp (fun (Y:World) (hY:Below wo.heap.size wo Y) (A:Option Addr) (h:SgAt Y A none none (numSg 4))=>awBwd (cv:=cv) (cm:=cm) (HD3.out.mono hY) HSL.out h)
   have HVD:=kp (bld (Below.refl wo.heap.size wo))
   have HVA:=kp (bld (blb wo (Obj.cells rs0 39)))
   go_region_law (first
    | (go_simp;go_at_call 11;(with_reducible refine Calls.mono (snumber_any 4 wo.drew) ?_);rintro e w8 ⟨A8,rfl,hs8,hb8⟩;have H8:=kp (And.intro hs8 (bls HVD.out HVD.out.size hb8));obtain ⟨p0,p1,p2,p3,p4,p5⟩:=(HX3.out.below H8.out.2).six1;have hlp:=(HX3.out.below H8.out.2).lt;clear hs8;clear hb8;dsimp only)
    | (go_simp;go_at_call 11;(with_reducible refine Calls.mono (snumber_any 4 (wo.alloc _).drew) ?_);rintro e w8 ⟨A8,rfl,hs8,hb8⟩;have H8:=kp (And.intro hs8 (bls HVA.out HVA.out.size hb8));obtain ⟨p0,p1,p2,p3,p4,p5⟩:=(HX3.out.below H8.out.2).six1;have hlp:=(HX3.out.below H8.out.2).lt;clear hs8;have HXA:=kp ((show Bx (wo.alloc (Obj.cells rs0 39)).drew wo.heap.size rs0 from bxn wo rs0 39).below hb8);clear hb8;dsimp only)
    | (go_simp;go_at_call 8;(with_reducible refine Calls.mono (HFW.out w8 H8.out.2 A8 H8.out.1) ?_);rintro e w9 ⟨Ac,ca,Ai,ci,Ao,co,rfl,hsg,hb9⟩;have H9:=kp (bls H8.out.2 H8.out.2.size hb9);have HXB:=kp (HXA.out.below hb9);obtain ⟨⟨z0,z1,z2,z3,z4⟩,g0,g1,g2,g3,g4⟩:=HXB.out.fiveF;have hlz:=HXB.out.lt;have HM:=kp (aw_set (ca:=ca) (ci:=ci) (co:=co) hsg H9.out HXB.out HXA.out.lt (Nat.le_refl _));clear hsg hb9;dsimp only)
    | (go_simp;go_at_call 8;(with_reducible refine Calls.mono (HFW.out (w8.alloc _) (H8.out.2.alloc H8.out.2.size _) A8 (H8.out.1.mono (blb _ _))) ?_);rintro e w9 ⟨Ac,ca,Ai,ci,Ao,co,rfl,hsg,hb9⟩;have H9:=kp (bls (H8.out.2.alloc H8.out.2.size _) (H8.out.2.alloc H8.out.2.size _).size hb9);have HXB:=kp ((bxn w8 rs0 39).below hb9);obtain ⟨⟨z0,z1,z2,z3,z4⟩,g0,g1,g2,g3,g4⟩:=HXB.out.fiveF;have hlz:=HXB.out.lt;have HM:=kp (aw_set (ca:=ca) (ci:=ci) (co:=co) hsg H9.out HXB.out (by simp) H8.out.2.size);clear hsg hb9;dsimp only)
    | (go_simp;go_at_call 8;(with_reducible refine Calls.mono (HFW.out w8 H8.out.2 A8 H8.out.1) ?_);rintro e w9 ⟨Ac,ca,Ai,ci,Ao,co,rfl,hsg,hb9⟩;have H9:=kp (bls H8.out.2 H8.out.2.size hb9);have HM:=kp (aw_alloc (n:=1) (w0:=wo) (ca:=ca) (ci:=ci) (co:=co) hsg H9.out 39);clear hsg hb9;dsimp only)
    | fail)
   all_goals
    go_simp
    go_wp2_with fail
    go_meet
    exact ⟨_,rfl,HM⟩
  case rest=>
   obtain ⟨c,rfl,HC⟩:=hcut
   obtain ⟨Ac,ca,Ai,ci,Ao,co,hbx,hsg,_⟩:=HA.out
   obtain ⟨Bc,da,Bi,di,Bo,dk,hcx,htg,hbw⟩:=HC.out
   have HBX:=kp (hbx.below hbw)
   have HCX:=kp hcx
   have HB4:=kp (bls HB3.out HB3.out.size hbw)
   have HE1:=kp (fun (Y:World) (hY:Below wc.heap.size wc Y) (A:Option Addr) (h:SgAt Y A none none (numSg 7))=>show Calls Tryz.prog 9 #[.agg #[.slice Ac 1 ca,.slice Ai 0 ci,.slice Ao 0 co],.agg #[.slice A 1 1,.slice none 0 0,.slice none 0 0]] Y (fun e w'=>e=.returned (.bool true)∧Below Y.heap.size Y w') from (stEqual_any (numSg 7) (numSg 7) (num_fit 7) Ac Ai Ao A none none ca ci co 1 0 0 Y ((hsg.mono hbw).mono hY) h).mono fun e w' ⟨h1,h2⟩=>⟨h1,h2⟩)
   have HE2:=kp (fun (Y:World) (hY:Below wc.heap.size wc Y) (A:Option Addr) (h:SgAt Y A none none (numSg 1))=>show Calls Tryz.prog 9 #[.agg #[.slice Bc 1 da,.slice Bi 0 di,.slice Bo 0 dk],.agg #[.slice A 1 1,.slice none 0 0,.slice none 0 0]] Y (fun e w'=>e=.returned (.bool true)∧Below Y.heap.size Y w') from (stEqual_any (numSg 1) (numSg 1) (num_fit 1) Bc Bi Bo A none none da di dk 1 0 0 Y (htg.mono hY) h).mono fun e w' ⟨h1,h2⟩=>⟨h1,h2⟩)
   clear hbx hsg hcx htg hbw
   go_upto_region 4 with fail
   have HVD:=kp (bld (Below.refl wc.heap.size wc))
   obtain ⟨b0,b1,b2,b3,b4⟩:=HBX.out.fiveF.1
   obtain ⟨c0,c1,c2,c3,c4⟩:=HCX.out.fiveF.1
   have hlb:=HBX.out.lt
   have hlc:=HCX.out.lt
   go_region_law (first
    | (go_simp;go_at_call 11;(with_reducible refine Calls.mono (snumber_any 7 wc.drew) ?_);rintro e w5 ⟨A5,rfl,hs5,hb5⟩;have H5:=kp (And.intro hs5 (bls HVD.out HVD.out.size hb5));clear hs5 hb5;obtain ⟨b0,b1,b2,b3,b4⟩:=(HBX.out.below H5.out.2).fiveF.1;obtain ⟨c0,c1,c2,c3,c4⟩:=(HCX.out.below H5.out.2).fiveF.1;have hlb:=(HBX.out.below H5.out.2).lt;have hlc:=(HCX.out.below H5.out.2).lt;dsimp only)
    | (go_simp;go_at_call 9;(with_reducible refine Calls.mono (HE1.out w5 H5.out.2 A5 H5.out.1) ?_);rintro e w6 ⟨rfl,hb6⟩;have H6:=kp (bls H5.out.2 H5.out.2.size hb6);clear hb6;obtain ⟨b0,b1,b2,b3,b4⟩:=(HBX.out.below H6.out).fiveF.1;obtain ⟨c0,c1,c2,c3,c4⟩:=(HCX.out.below H6.out).fiveF.1;have hlb:=(HBX.out.below H6.out).lt;have hlc:=(HCX.out.below H6.out).lt;dsimp only)
    | (go_simp;go_at_call 11;(with_reducible refine Calls.mono (snumber_any 1 w6) ?_);rintro e w7 ⟨A7,rfl,hs7,hb7⟩;have H7:=kp (And.intro hs7 (bls H6.out H6.out.size hb7));clear hs7 hb7;obtain ⟨b0,b1,b2,b3,b4⟩:=(HBX.out.below H7.out.2).fiveF.1;obtain ⟨c0,c1,c2,c3,c4⟩:=(HCX.out.below H7.out.2).fiveF.1;have hlb:=(HBX.out.below H7.out.2).lt;have hlc:=(HCX.out.below H7.out.2).lt;dsimp only)
    | (go_simp;go_at_call 9;(with_reducible refine Calls.mono (HE2.out w7 H7.out.2 A7 H7.out.1) ?_);rintro e w8 ⟨rfl,hb8⟩;have H8:=kp (bls H7.out.2 H7.out.2.size hb8);clear hb8;dsimp only)
    | fail)
   all_goals
    go_simp
    go_wp2_with fail
    go_ret
    exact ⟨rfl,bls HB4.out HB4.out.size H8.out⟩
def RwNd (w:World) (cs:List Value) (l:List Nd):Prop:=∀ (i:Nat) (y:Nd),l[i]?=some y→∃ A c,cs[i*4]?=some (.int .u8 y.kind)∧cs[i*4+1]?=some (.int .i64 y.num)∧cs[i*4+2]?=some (.string y.name)∧cs[i*4+3]?=some (.slice A y.kids.length c)∧NdsAt w A y.kids
theorem RwNd.mono {w w':World} {cs:List Value} {l:List Nd} (h:RwNd w cs l) (hb:Below w.heap.size w w'):RwNd w' cs l:=fun i y hi=>by
 obtain ⟨A,c,h0,h1,h2,h3,h4⟩:=h i y hi
 exact ⟨A,c,h0,h1,h2,h3,h4.mono hb⟩
theorem RwNd.append {w:World} {cs cs':List Value} {l l':List Nd} (h:RwNd w cs l) (h':RwNd w cs' l') (hl:cs.length=l.length*4):RwNd w (cs++cs') (l++l'):=fun i y hi=>by
 rcases Nat.lt_or_ge i l.length with hlt | hge
 ·rw [List.getElem?_append_left hlt] at hi
  obtain ⟨A,c,h0,h1,h2,h3,h4⟩:=h i y hi
  refine ⟨A,c,?_,?_,?_,?_,h4⟩<;>rw [List.getElem?_append_left (by omega)]<;>assumption
 ·rw [List.getElem?_append_right hge] at hi
  obtain ⟨A,c,h0,h1,h2,h3,h4⟩:=h' _ y hi
  have e:∀ j,i*4+j - cs.length=(i - l.length)*4+j:=fun j=>by omega
  have e0:i*4 - cs.length=(i - l.length)*4:=by omega
  refine ⟨A,c,?_,?_,?_,?_,h4⟩
  ·rw [List.getElem?_append_right (by omega),e0];exact h0
  ·rw [List.getElem?_append_right (by omega),e];exact h1
  ·rw [List.getElem?_append_right (by omega),e];exact h2
  ·rw [List.getElem?_append_right (by omega),e];exact h3
theorem nds_row0 {w:World} {b:Nat}:∀ (l:List Nd) (o:Nat),(∀ k x,l[k]?=some x→NdO w b (o+k*4) x)→∃ cs,(∀ (j:Nat) (u:Value),cs[j]?=some u→w.cell? ⟨b,o+j,none⟩=some u)∧cs.length=l.length*4∧(∀ u∈cs,u.oneCell'=true)∧RwNd w cs l
 | [],o,_=>⟨[],fun j u hj=>by simp at hj,rfl,fun u hu=>(nomatch hu),fun i y hi=>by simp at hi⟩
 | x::r,o,h=>by
   obtain ⟨cs,h1,h2,h3,h4⟩:=nds_row0 r (o+4) fun k y hk=>by
    have:=h (k+1) y (by simpa using hk)
    rwa [show o+(k+1)*4=o+4+k*4 by omega] at this
   have hx:=h 0 x rfl
   rw [Nat.zero_mul,Nat.add_zero] at hx
   obtain ⟨A,c,c0,c1,c2,c3,c4⟩:=hx.open_
   refine ⟨[.int .u8 x.kind,.int .i64 x.num,.string x.name,.slice A x.kids.length c]++cs,fun j u hj=>?_,by rw [List.length_append,h2,List.length_cons];simp;omega,fun u hu=>?_,?_⟩
   ·match j,hj with
    | 0,hj=>cases hj;exact c0
    | 1,hj=>cases hj;exact c1
    | 2,hj=>cases hj;exact c2
    | 3,hj=>cases hj;exact c3
    | j+4,hj=>
      have:=h1 j u (by simpa using hj)
      rwa [show o+4+j=o+(j+4) by omega] at this
   ·rcases List.mem_append.1 hu with hu | hu
    ·simp at hu;rcases hu with rfl | rfl | rfl | rfl<;>rfl
    ·exact h3 u hu
   ·exact RwNd.append (l:=[x]) (fun i y hi=>by
     match i,hi with
     | 0,hi=>cases hi;exact ⟨A,c,rfl,rfl,rfl,rfl,c4⟩
     | i+1,hi=>simp at hi) h4 rfl
theorem nds_row {w:World} {A:Option Addr} {l:List Nd} (h:NdsAt w A l):∃ cs,CellsAt w A cs∧cs.length=l.length*4∧(∀ u∈cs,u.oneCell'=true)∧RwNd w cs l:=by
 cases l with
 | nil=>exact ⟨[],fun j u hj=>by simp at hj,rfl,fun u hu=>(nomatch hu),fun i y hi=>by simp at hi⟩
 | cons x r=>
   obtain ⟨b,o,e,_⟩:=h 0 x rfl
   obtain ⟨cs,h1,h2,h3,h4⟩:=nds_row0 (b:=b) (x::r) o fun k y hk=>by
    obtain ⟨b',o',e',h'⟩:=h k y hk
    rw [e] at e'
    injection e' with e'
    injection e' with q1 q2
    subst q1 q2
    exact h'
   exact ⟨cs,fun j u hj=>⟨b,o,e,h1 j u hj⟩,h2,h3,h4⟩
theorem nds_rw {w:World} {base:Nat} {A:Option Addr} {c n:Nat} {l:List Nd} {cs:List Value} (hn:n=l.length) (h:w.ownsRow base 26 4 (.slice A n c) n cs) (hr:RwNd w cs l):NdsAt w A l∧n≤c:=by
 obtain ⟨A',c',e,hc⟩:=cells_of_own h
 injection e with e1 e2 e3
 subst e1 e3
 refine ⟨fun k x hk=>?_,?_⟩
 ·obtain ⟨A2,c2,h0,h1,h2,h3,h4⟩:=hr k x hk
  obtain ⟨b,o,e0,d0⟩:=hc _ _ h0
  have dd:∀ (j:Nat) (u:Value),cs[j]?=some u→w.cell? ⟨b,o+j,none⟩=some u:=fun j u hu=>by
   obtain ⟨b',o',e',d'⟩:=hc _ _ hu
   rw [e0] at e'
   injection e' with e'
   injection e' with q1 q2
   subst q1 q2
   exact d'
  refine ⟨b,o,e0,NdO.mk (A:=A2) (cap:=c2) (b':=(A2.getD ⟨0,0,none⟩).block) (o':=(A2.getD ⟨0,0,none⟩).off) d0 (by rw [Nat.add_assoc];exact dd _ _ h1) (by rw [Nat.add_assoc];exact dd _ _ h2) (by rw [Nat.add_assoc];exact dd _ _ h3) (fun hp=>?_) fun kk y hy=>?_⟩
  ·obtain ⟨b',o',e',_⟩:=h4.at_ hp
   rw [e'];rfl
  ·obtain ⟨b',o',e',h'⟩:=h4 kk y hy
   rw [e'];exact h'
 ·rcases h.2 with ⟨e,h0⟩ | ⟨g,cap,cur,e,hg,hh,hc1,hc2,hc3,hc4⟩
  ·omega
  ·injection e with e1 e2 e3
   omega
theorem exK_lt {k:Nat} (h:k<256):exK k<256:=by
 unfold exK invK
 repeat' split
 all_goals omega
theorem swap_mem {l:List Nd} {y:Nd} (h:y∈swapFL l):y∈l:=by
 unfold swapFL at h
 split at h
 ·next a b ha hb=>
  rcases List.mem_or_eq_of_mem_set h with h | rfl
  ·rcases List.mem_or_eq_of_mem_set h with h | rfl
   ·exact h
   ·exact List.mem_of_getLast? hb
  ·exact List.mem_of_head? ha
 ·exact h
theorem swap_len (l:List Nd):(swapFL l).length=l.length:=by
 unfold swapFL
 split
 ·simp
 ·rfl
theorem fit_inv:∀ (N:Nat) (x:Nd),SizeOf.sizeOf x≤N→NdFit x→NdFit (invT x):=by
 intro N
 induction N with
 | zero=>intro x hx;exfalso;cases x;simp at hx
 | succ N ih=>
   intro x hx hf
   obtain ⟨h1,h2,h3,h4⟩:=hf.facts
   have hkid:∀ (b:Bool) (y:Nd),y∈x.kids.map (invK1 b)→NdFit y:=fun b y hy=>by
    obtain ⟨z,hz,rfl⟩:=List.mem_map.1 hy
    obtain ⟨i,hi⟩:=List.getElem?_of_mem hz
    have:=Nd.kid_lt hi
    unfold invK1
    split
    ·exact ih z (by omega) (hf.kid hi)
    ·exact hf.kid hi
   rw [invT_eq]
   split
   ·exact fit_mk h1 h2 h3 (by show (List.reverse _).length≤_;rw [List.length_reverse,List.length_map];exact h4) fun y hy=>hkid true y (List.mem_reverse.1 hy)
   ·split
    ·exact fit_mk h1 h2 h3 (by show (swapFL _).length≤_;rw [swap_len,List.length_map];exact h4) fun y hy=>hkid false y (swap_mem hy)
    ·exact fit_mk (exK_lt h1) h2 h3 (by show (List.map _ _).length≤_;rw [List.length_map];exact h4) fun y hy=>hkid false y hy
def dblPg (P:Pg):Pg:=⟨P.vars,P.procs,.mk 57 0 ⟨#[]⟩ (P.main.kids++(invT P.main).kids)⟩
theorem dbl_fit {P:Pg} (h:PgFit P) (hs:szT P.main≤2000) (hb:isBlT P.main=true):PgFit (dblPg P) where
 lv:=h.lv
 lp:=h.lp
 v:=h.v
 p:=h.p
 m:=by
  have hl:=szL_len P.main.kids
  have hz:=szT_eq P.main
  have hi:(invT P.main).kids=(P.main.kids.map invT).reverse:=by rw [invT_block _ hb];rfl
  refine fit_mk (by show 57<256;omega) (show (-9223372036854775808:Int)≤0∧(0:Int)≤9223372036854775807 from by decide) (by show (0:Nat)≤_;omega) ?_ fun y hy=>?_
  ·show (P.main.kids++(invT P.main).kids).length≤_
   rw [List.length_append,hi,List.length_reverse,List.length_map];omega
  ·rcases List.mem_append.1 (show y∈P.main.kids++(invT P.main).kids from hy) with e | e
   ·obtain ⟨i,hi⟩:=List.getElem?_of_mem e
    exact h.m.kid hi
   ·obtain ⟨i,hi⟩:=List.getElem?_of_mem e
    exact (fit_inv _ P.main (Nat.le_refl _) h.m).kid hi
theorem sg_eq (S:Sg):eqSg S S=true:=by unfold eqSg;simp
theorem law_runs {P:Pg} (hok:PgOk P) (hf:PgFit P) {S:Sg} (hR:SgRng S) (hfit:fitsB P.vars S=true) :
  ∃ d,ex P.procs 2000 d (.bl (ordK false P.main.kids)) 0 (glE P.vars) false ⟨0,⟨S.cells,S.inp,S.out⟩⟩≠.deep∧
    ∀ s,ex P.procs 2000 d (.bl (ordK false P.main.kids)) 0 (glE P.vars) false ⟨0,⟨S.cells,S.inp,S.out⟩⟩=.ok s→s.k≤2000∧∀ b,∃ d2,ex (dblPg P).procs 4000 d2 (.bl (ordK b (dblPg P).main.kids)) 0 (glE (dblPg P).vars) b ⟨0,⟨S.cells,S.inp,S.out⟩⟩=.ok ⟨2*s.k,⟨S.cells,S.inp,S.out⟩⟩:=by
 obtain ⟨d,h1,_⟩:=ex_ends P.procs 2000 (.bl (ordK false P.main.kids)) 0 (glE P.vars) false ⟨0,⟨S.cells,S.inp,S.out⟩⟩
 refine ⟨d,h1,fun s hs=>?_⟩
 have hbn:=(val_bnd hok.v).m
 have hk:s.k≤2000:=ex_cap P.procs 2000 d _ _ _ _ ⟨0,⟨S.cells,S.inp,S.out⟩⟩ (Nat.zero_le _) s hs
 refine ⟨hk,fun b=>?_⟩
 have hi:(invT P.main).kids=(P.main.kids.map invT).reverse:=by rw [invT_block _ hbn.b];rfl
 have:=there_back (σ:=⟨0,⟨S.cells,S.inp,S.out⟩⟩) (hok.pok hf) (l:=P.main.kids) (env:=glE P.vars) (by rw [glE_vs];exact hok.main hf) (blT_kids hbn.b) (glE_ok hok.names) ((fit_h hfit).mok hR) rfl hs 4000 (by omega) b
 rw [← hi] at this
 exact this
end Go.Proofs.YtgbomnibedefoaaGreatDoor
