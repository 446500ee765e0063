import Derived.Deep.LoopGhost
import Derived.Test.YtgbomnibedefoaaGreatDoorQa41
set_option maxRecDepth 100000
set_option maxHeartbeats 8000000
namespace Go.Proofs.YtgbomnibedefoaaGreatDoor
open Go.ChangeShapes Go.WideShapes Go.ChangeAt Go.RowKit Go.Sort
section
variable {C:Rc} {w w1:World} {G G1:Gs} {s s1:St} {env:List Ev} {loc dep:Nat} {T:List (Nat × Int)}
theorem exK_from {P:List Pc} {F d dep:Nat} {env:List Ev} {back:Bool} {n:Nd} {s:St} (hk:n.kind=53):ex P F (d+1) (.st n) dep env back s=if testO F env (fstK n back) s=some true then ex P F d (.hd n) dep env back ⟨s.k+1,s.m⟩ else .bad:=by
 rw [ex_succ]
 simp only [exB]
 rw [if_neg (by omega),if_pos hk,testT_O]
 cases testO F env (fstK n back) s with
 | none=>simp
 | some b=>cases b<;>simp
theorem exK_ck {P:List Pc} {F d dep:Nat} {env:List Ev} {back:Bool} {n:Nd} {s:St}:ex P F (d+1) (.ck n) dep env back s=match testO F env (lstK n back) s with
  | none=>.bad
  | some true=>.ok ⟨s.k+1,s.m⟩
  | some false=>(ex P F d (.bl (ordK back (kid n 2).kids)) dep env back ⟨s.k+1,s.m⟩).andThen fun s2=>if testO F env (fstK n back) s2=some false then ex P F d (.hd n) dep env back ⟨s2.k+1,s2.m⟩ else .bad:=by
 rw [ex_succ]
 simp only [exB]
 rw [testT_O]
 cases testO F env (lstK n back) s with
 | none=>rfl
 | some b=>
   cases b with
   | true=>rfl
   | false=>
     show (ex P F d _ dep env back _).andThen _=(ex P F d _ dep env back _).andThen _
     congr 1
     funext s2
     rw [testT_O]
     cases testO F env (fstK n back) s2 with
     | none=>simp
     | some b2=>cases b2<;>simp
structure LpR (C:Rc) (w:World) (G:Gs) (env:List Ev) (loc dep:Nat) (T:List (Nat × Int)) (n:Nd) (back:Bool) (L:List (Nat × Array Value)) (R:Ending→World→Prop) (k:Nat) (wr:World) (G':Gs) (s':St):Prop where
 rs:RuS C w G wr G' s'
 rh:RuH C wr G' s' env loc dep T
 bx:Bxs C wr G' L
 nd:ex C.P.procs C.F k (.hd n) dep env back s'≠.deep
 hr:R=RunP C w G (ex C.P.procs C.F k (.hd n) dep env back s')
def PnR (R:Ending→World→Prop) (e:Ending) (w':World):Prop:=∃ r,e=.panicked r∧R e w'
def LpA (C:Rc) (w:World) (G:Gs) (env:List Ev) (loc dep:Nat) (T:List (Nat × Int)) (n:Nd) (back:Bool) (L:List (Nat × Array Value)) (R:Ending→World→Prop) (k:Nat) (x:Nd) (Ax:Option Addr) (cx:Nat) (e:Ending) (w':World):Prop:=
 PnR R e w'∨(e=.returned (.tuple #[])∧∃ G',Bxs C w' G' L∧Calls Tryz.prog 131 #[.pointer (some ⟨C.RB,0,none⟩),.agg (ndC x Ax cx),.bool false] w' fun e2 w2=>PnR R e2 w2∨(e2=.returned (.tuple #[])∧∃ k' G2 s2,k'<k∧LpR C w G env loc dep T n back L R k' w2 G2 s2))
def LpH (C:Rc) (w:World) (G:Gs) (env:List Ev) (loc dep:Nat) (T:List (Nat × Int)) (n:Nd) (back:Bool) (L:List (Nat × Array Value)) (R:Ending→World→Prop) (k:Nat) (x:Nd) (Ax:Option Addr) (cx:Nat) (b2:Nd) (A2:Option Addr) (c2:Nat) (e:Ending) (w':World):Prop:=
 PnR R e w'∨(e=.returned (.bool true)∧R (.returned (.tuple #[])) w')∨(e=.returned (.bool false)∧Kep C w'∧∃ G',Bxs C w' G' L∧Calls Tryz.prog 42 #[.pointer (some ⟨C.RB,0,none⟩),.agg (ndC b2 A2 c2),.bool back] w' (LpA C w G env loc dep T n back L R k x Ax cx))
theorem lop_round (hC:RcOk C) {d:Nat} {n x y b c:Nd} {back:Bool} {L:List (Nat × Array Value)} {R:Ending→World→Prop} {k:Nat} {wr:World} {G':Gs} {s':St} (h:LpR C w G env loc dep T n back L R k wr G' s') (hkd:k≤d) (hB:∀ d',d'≤d→∀ b,BlkC C d' b) (hlo:loc≤env.length)
  (hx:fstK n back=x) (hy:lstK n back=y) (e1:n.kids[1]?=some b) (e2:n.kids[2]?=some c) (b1H:BlH C.P (env.map (·.v)) b) (b2H:BlH C.P (env.map (·.v)) c) (ex1:isExT x=true∧NdFit x) (ey1:isExT y=true∧NdFit y) {Ax Ay A1 A2:Option Addr} (kx:NdsAt C.W0 Ax x.kids) (ky:NdsAt C.W0 Ay y.kids) (k1:NdsAt C.W0 A1 b.kids) (k2:NdsAt C.W0 A2 c.kids) (cx cy c1 c2:Nat) :
  Calls Tryz.prog 42 #[.pointer (some ⟨C.RB,0,none⟩),.agg (ndC b A1 c1),.bool back] wr fun e w'=>
   PnR R e w'∨(e=.returned (.tuple #[])∧∃ G1,Bxs C w' G1 L∧Calls Tryz.prog 130 #[.pointer (some ⟨C.RB,0,none⟩),.agg (ndC y Ay cy)] w' (LpH C w G env loc dep T n back L R k x Ax cx c A2 c2)):=by
 subst hx hy
 have hnd:=h.nd
 have hrr:=h.hr
 cases k with
 | zero=>exact absurd rfl hnd
 | succ d1=>
   have hE:ex C.P.procs C.F (d1+1) (.hd n) dep env back s'=(ex C.P.procs C.F d1 (.bl (ordK back (kid n 1).kids)) dep env back s').andThen fun σ1=>ex C.P.procs C.F d1 (.ck n) dep env back σ1:=rfl
   rw [hE,kid_eq e1] at hnd hrr
   refine (hB d1 (by omega) b env loc dep T wr G' s' back A1 c1 h.rh b1H hlo k1 (andThen_deep hnd)).mono fun e w' he=>?_
   cases hc:ex C.P.procs C.F d1 (.bl (ordK back b.kids)) dep env back s' with
   | deep=>rw [hc] at he;exact he.elim
   | bad=>
     rw [hc] at he hrr
     obtain ⟨er,g1,g2,g3⟩:=he
     exact .inl ⟨_,g2,by rw [hrr];exact ⟨er,g1,g2,g3⟩⟩
   | ok s1=>
     rw [hc] at he hrr hnd
     obtain ⟨rfl,G1,h1⟩:=he
     have hr1:=h.rh.after hC h1 (b1H.tok back) hc
     have hrs1:=h.rs.trans h1
     have hnd1:ex C.P.procs C.F d1 (.ck n) dep env back s1≠.deep:=hnd
     have hrr1:R=RunP C w G (ex C.P.procs C.F d1 (.ck n) dep env back s1):=hrr
     refine .inr ⟨rfl,G1,h.bx.step h1,(holds_any hr1 hC.fuel ey1.1 ey1.2 ky cy).mono fun e w2 he=>?_⟩
     cases d1 with
     | zero=>exact absurd rfl hnd1
     | succ d2=>
       rw [exK_ck] at hnd1 hrr1
       cases hto:testO C.F env (lstK n back) s1 with
       | none=>
         rw [hto] at he hrr1
         obtain ⟨er,g1,g2,g3⟩:=he
         exact .inl ⟨_,g2,by rw [hrr1];exact ⟨er,g1,g2,g3⟩⟩
       | some bb=>
         rw [hto] at he hrr1 hnd1
         obtain ⟨rfl,G2,h2⟩:=he
         have hrs2:=hrs1.trans h2
         have hr2:=hr1.step h2 hr1.mem
         cases bb with
         | true=>
           exact .inr (.inl ⟨rfl,by rw [hrr1];exact ⟨rfl,_,hrs2⟩⟩)
         | false=>
           have hnd2:(ex C.P.procs C.F d2 (.bl (ordK back (kid n 2).kids)) dep env back ⟨s1.k+1,s1.m⟩).andThen (fun s2=>if testO C.F env (fstK n back) s2=some false then ex C.P.procs C.F d2 (.hd n) dep env back ⟨s2.k+1,s2.m⟩ else .bad)≠.deep:=hnd1
           have hrr2:R=RunP C w G ((ex C.P.procs C.F d2 (.bl (ordK back (kid n 2).kids)) dep env back ⟨s1.k+1,s1.m⟩).andThen (fun s2=>if testO C.F env (fstK n back) s2=some false then ex C.P.procs C.F d2 (.hd n) dep env back ⟨s2.k+1,s2.m⟩ else .bad)):=hrr1
           rw [kid_eq e2] at hnd2 hrr2
           refine .inr (.inr ⟨rfl,h2.o.bw,G2,(h.bx.step h1).step h2,?_⟩)
           refine (hB d2 (by omega) c env loc dep T w2 G2 _ back A2 c2 hr2 b2H hlo k2 (andThen_deep hnd2)).mono fun e w3 he=>?_
           cases hc2:ex C.P.procs C.F d2 (.bl (ordK back c.kids)) dep env back ⟨s1.k+1,s1.m⟩ with
           | deep=>rw [hc2] at he;exact he.elim
           | bad=>
             rw [hc2] at he hrr2
             obtain ⟨er,g1,g2,g3⟩:=he
             exact .inl ⟨_,g2,by rw [hrr2];exact ⟨er,g1,g2,g3⟩⟩
           | ok s3=>
             rw [hc2] at he hrr2 hnd2
             obtain ⟨rfl,G3,h3⟩:=he
             have hr3:=hr2.after hC h3 (b2H.tok back) hc2
             have hrs3:=hrs2.trans h3
             have hrr3:R=RunP C w G (if testO C.F env (fstK n back) s3=some false then ex C.P.procs C.F d2 (.hd n) dep env back ⟨s3.k+1,s3.m⟩ else .bad):=hrr2
             have hnd3:(if testO C.F env (fstK n back) s3=some false then ex C.P.procs C.F d2 (.hd n) dep env back ⟨s3.k+1,s3.m⟩ else .bad)≠.deep:=hnd2
             refine .inr ⟨rfl,G3,((h.bx.step h1).step h2).step h3,(assert_any hr3 hC.fuel ex1.1 ex1.2 kx cx false).mono fun e w4 he=>?_⟩
             unfold AsrP at he
             by_cases ht:testO C.F env (fstK n back) s3=some false
             ·rw [if_pos ht] at he hrr3 hnd3
              obtain ⟨rfl,G4,h4⟩:=he
              exact .inr ⟨rfl,d2,G4,_,by omega,hrs3.trans h4,hr3.step h4 hr3.mem,(((h.bx.step h1).step h2).step h3).step h4,hnd3,hrr3⟩
             ·rw [if_neg ht] at he hrr3
              obtain ⟨er,g1,g2,g3⟩:=he
              exact .inl ⟨_,g2,by rw [hrr3];exact ⟨er,g1,g2,g3⟩⟩
theorem loop_any (hC:RcOk C) (d:Nat) (n:Nd) (hk:n.kind=53) (hB:∀ d',d'≤d→∀ b,BlkC C d' b):StmF 96 C (d+1) n:=fun env loc dep T w G s back A cap h hn hlo hK hd=>by
 obtain ⟨a,b,c,dd,h4⟩:=st_four hn.st (.inr hk)
 have hl4:n.kids.length=3+1:=by rw [h4.kids];rfl
 have e0:n.kids[0]?=some a:=by rw [h4.kids];rfl
 have e1:n.kids[1]?=some b:=by rw [h4.kids];rfl
 have e2:n.kids[2]?=some c:=by rw [h4.kids];rfl
 have e3:n.kids[3]?=some dd:=by rw [h4.kids];rfl
 have hxy:isExT (fstK n back)=true∧isExT (lstK n back)=true∧NdFit (fstK n back)∧NdFit (lstK n back):=by
  obtain ⟨q0,q3⟩:=four_ex hn.st (.inr hk)
  have f0:=hn.fit.kid e0
  have f3:=hn.fit.kid e3
  rw [← kid_eq e0] at f0
  rw [← kid_eq e3] at f3
  unfold fstK lstK
  rw [hl4]
  cases back with
  | false=>exact ⟨q0,q3,f0,f3⟩
  | true=>exact ⟨q3,q0,f3,f0⟩
 obtain ⟨Ax,cx,Ay,cy,kx,ky,hen⟩:=ends_of h.o hK hl4 (by omega) cap back
 obtain ⟨b0,o0,A1,c1,rfl,n1,k1⟩:=hK.n4 e1
 obtain ⟨b2,o2,A2,c2,eA,n2,k2⟩:=hK.n4 e2
 cases eA
 have b1H:=hn.kid e1 h4.b1 (by omega) (innerT_low (by omega) 1 _) (Nat.le_succ _)
 have b2H:=hn.kid e2 h4.b2 (by omega) (innerT_low (by omega) 2 _) (Nat.le_succ _)
 rw [exK_from hk] at hd ⊢
 have HAS:=kp (fun (Y:World) (hY:Below w.heap.size w Y)=>assert_any (h.below hY) hC.fuel hxy.1 hxy.2.2.1 kx cx true)
 have HEN:=kp hen
 have HB:=kp (blb w (Obj.cells (ndC n (some ⟨b0,o0,none⟩) cap) 26))
 have HRX:=kp (bxn w (ndC n (some ⟨b0,o0,none⟩) cap) 26)
 have HO:=kp h
 have HN1:=kp (And.intro n1 n2)
 have r1:(1:Int)<n.kids.length:=by omega
 have r2:(2:Int)<n.kids.length:=by omega
 obtain ⟨R,hR⟩:∃ R:Ending→World→Prop,R=RunP C w G (if testO C.F env (fstK n back) s=some true then ex C.P.procs C.F d (.hd n) dep env back ⟨s.k+1,s.m⟩ else .bad):=⟨_,rfl⟩
 rw [← hR]
 have HAF:=kp (fun (W2 w3:World) (hb:Below w.heap.size w W2) (L:List (Nat × Array Value)) (hL:Bxs C W2 G L) (e:Ending) (he:AsrP C W2 G s (testO C.F env (fstK n back) s) true e w3)=>show PnR R e w3∨(e=.returned (.tuple #[])∧∃ G' s',LpR C w G env loc dep T n back L R d w3 G' s') from by
  unfold AsrP at he
  by_cases ht:testO C.F env (fstK n back) s=some true
  ·rw [if_pos ht] at he hR hd
   obtain ⟨rfl,G4,h4⟩:=he
   exact .inr ⟨rfl,G4,_,h4.pre hb,(h.below hb).step h4 h.mem,hL.step h4,hd,hR⟩
  ·rw [if_neg ht] at he hR
   obtain ⟨er,g1,g2,g3⟩:=he
   exact .inl ⟨_,g2,by rw [hR];exact ⟨er,g1,g2,g3⟩⟩)
 have HRD:=kp (fun (L:List (Nat × Array Value)) (k:Nat) (wr:World) (G':Gs) (s':St) (hL:LpR C w G env loc dep T n back L R k wr G' s') (hkd:k≤d)=>lop_round hC hL hkd hB hlo rfl rfl e1 e2 b1H b2H ⟨hxy.1,hxy.2.2.1⟩ ⟨hxy.2.1,hxy.2.2.2⟩ kx ky k1 k2 cx cy c1 c2)
 clear hd hen h4 hl4 e0 e1 e2 e3 hxy n1 n2 k1 k2 kx ky b1H b2H hK hn h hlo hB hk hC hR
 generalize fstK n back=x at *
 generalize lstK n back=y at *
 go_enter Tryz.func96,Tryz.ntmps96
 go_upto_region 1 with fail
 generalize w.alloc _=W at HB HRX ⊢
 obtain ⟨a0,a1,a2,a3,_⟩:=HRX.out.four
 have hla:=HRX.out.lt
 go_wp2_with fail
 refine (HEN.out W HB.out).mono ?_
 rintro e1 w1 ⟨rfl,hb1⟩
 have HB1:=kp (bl2 HB.out hb1)
 have HR1:=kp (HRX.out.below hb1)
 clear a0 a1 a2 a3 hla hb1
 go_upto_region 2 with fail
 have HT2:=kp (tw2 w1 (ndC x Ax cx) (ndC y Ay cy) 26 26)
 generalize (w1.alloc _).alloc _=W2 at HT2 ⊢
 have HB2:=kp (bl2 HB1.out HT2.out.1)
 obtain ⟨L,hLL⟩:∃ L:List (Nat × Array Value),L=[(w.heap.size,ndC n (some ⟨b0,o0,none⟩) cap),(w1.heap.size,ndC x Ax cx),(w1.heap.size+1,ndC y Ay cy)]:=⟨_,rfl⟩
 have HL2:=kp (show Bxs C W2 G L from fun p hp=>by
  have hs1:=HB1.out.size
  rw [hLL] at hp
  rcases List.mem_cons.1 hp with rfl | hp
  ·have h1:=HR1.out.below HT2.out.1
   exact ⟨h1,HO.out.o.newX (Nat.le_refl _) h1.lt⟩
  rcases List.mem_cons.1 hp with rfl | hp
  ·exact ⟨HT2.out.2.1,HO.out.o.newX (show w.heap.size≤w1.heap.size by omega) HT2.out.2.1.lt⟩
  ·obtain rfl:=List.mem_singleton.1 hp
   exact ⟨HT2.out.2.2,HO.out.o.newX (show w.heap.size≤w1.heap.size+1 by omega) HT2.out.2.2.lt⟩)
 have HG:=kp (fun (wr:World) (G':Gs) (hb:Bxs C wr G' L)=>show Bx wr w.heap.size (ndC n (some ⟨b0,o0,none⟩) cap)∧Bx wr w1.heap.size (ndC x Ax cx)∧Bx wr (w1.heap.size+1) (ndC y Ay cy) from by
  subst hLL
  exact ⟨(hb (w.heap.size,ndC n (some ⟨b0,o0,none⟩) cap) (by simp)).1,(hb (w1.heap.size,ndC x Ax cx) (by simp)).1,(hb (w1.heap.size+1,ndC y Ay cy) (by simp)).1⟩)
 clear hLL
 obtain ⟨x0,x1,x2,x3,_⟩:=HT2.out.2.1.four
 have hlx:=HT2.out.2.1.lt
 go_wp2_with fail
 refine (HAS.out W2 HB2.out).mono ?_
 intro e2 w3 h2
 rcases HAF.out W2 w3 HB2.out L HL2.out e2 h2 with ⟨r,rfl,hR⟩ | ⟨rfl,G3,s3,h3⟩
 ·exact ⟨rfl,hR⟩
 have H3:=kp h3
 clear h2 h3 x0 x1 x2 x3 hlx
 go_wp2_with fail
 go_loopg [] d (fun k wr=>k≤d∧∃ G' s',Hid (LpR C w G env loc dep T n back L R k wr G' s'))
 case atStart=>exact ⟨Nat.le_refl _,_,_,H3⟩
 case round=>
  obtain ⟨hkd,G4,s4,HX⟩:=hrel
  have HRN:=kp (HRD.out L gk wr G4 s4 HX.out hkd)
  obtain ⟨g1,g2,g3⟩:=HG.out wr G4 HX.out.bx
  obtain ⟨a0,a1,a2,a3,_⟩:=g1.four
  have hla:=g1.lt
  obtain ⟨k0,k1,k2,k3⟩:=HN1.out.1.mono HX.out.rh.o.bw.b
  rw [Nat.one_mul] at k0 k1 k2 k3
  have hlk:=block_lt_of_cell k0
  clear g1 g2 g3
  go_wp2_with fail
  refine HRN.out.mono ?_
  rintro e5 w5 (⟨r,rfl,hR⟩ | ⟨rfl,G5,hL5,hc5⟩)
  ·exact ⟨rfl,hR⟩
  have HC5:=kp hc5
  obtain ⟨g1,g2,g3⟩:=HG.out w5 G5 hL5
  obtain ⟨y0,y1,y2,y3,_⟩:=g3.four
  have hly:=g3.lt
  clear g1 g2 g3 hL5 hc5 a0 a1 a2 a3 hla k0 k1 k2 k3 hlk
  go_wp2_with fail
  refine HC5.out.mono ?_
  rintro e6 w6 (⟨r,rfl,hR⟩ | ⟨rfl,hR⟩ | ⟨rfl,hbw,G6,hL6,hc6⟩)
  ·exact ⟨rfl,hR⟩
  ·have HZ:=kp hR
   clear hR
   go_wp2_with fail
   first | go_end0 | refine bodyPost_ret (results_none rfl _ _ _) rfl ?_
   exact HZ.out
  have HC6:=kp hc6
  obtain ⟨g1,g2,g3⟩:=HG.out w6 G6 hL6
  obtain ⟨a0,a1,a2,a3,_⟩:=g1.four
  have hla:=g1.lt
  obtain ⟨k0,k1,k2,k3⟩:=HN1.out.2.mono hbw.b
  have hlk:=block_lt_of_cell k0
  clear g1 g2 g3 hL6 hc6 hbw y0 y1 y2 y3 hly
  go_wp2_with fail
  refine HC6.out.mono ?_
  rintro e7 w7 (⟨r,rfl,hR⟩ | ⟨rfl,G7,hL7,hc7⟩)
  ·exact ⟨rfl,hR⟩
  have HC7:=kp hc7
  obtain ⟨g1,g2,g3⟩:=HG.out w7 G7 hL7
  obtain ⟨x0,x1,x2,x3,_⟩:=g2.four
  have hlx:=g2.lt
  clear g1 g2 g3 hL7 hc7 a0 a1 a2 a3 hla k0 k1 k2 k3 hlk
  go_wp2_with fail
  refine HC7.out.mono ?_
  rintro e8 w8 (⟨r,rfl,hR⟩ | ⟨rfl,k',G8,s8,hk',h8⟩)
  ·exact ⟨rfl,hR⟩
  have HZ:=kp h8
  have HKK:=kp hk'
  clear h8 hk'
  go_wp2_with fail
  go_roundg k'
  case measure=>exact HKK.out
  case rel=>exact ⟨by have:=HKK.out;omega,_,_,HZ⟩
end
section
variable {C:Rc} {w w1 w2:World} {G G1 G2:Gs} {s s1 s2:St} {env:List Ev} {loc dep:Nat} {T:List (Nat × Int)}
structure RuQ (C:Rc) (w:World) (G:Gs) (w':World) (G':Gs) (s':St):Prop where
 o:RuO C w' G' s'
 fr:Fr w w' (ruM C G)
 old:∀ k,k<w.heap.size→G'.R k=G.R k
 sb:G'.SB=G.SB
theorem RuS.q (h:RuS C w G w1 G1 s1):RuQ C w G w1 G1 s1:=⟨h.o,h.fr,h.old,h.sb⟩
theorem RuQ.trans (h:RuQ C w G w1 G1 s1) (h2:RuQ C w1 G1 w2 G2 s2):RuQ C w G w2 G2 s2:=
 ⟨h2.o,h.fr.trans h2.fr fun k hk e=>by
  rcases e with e | e
  ·rw [h.old k hk] at e;exact .inl e
  ·exact .inr e,fun k hk=>(h2.old k (Nat.lt_of_lt_of_le hk h.fr.size)).trans (h.old k hk),h2.sb.trans h.sb⟩
theorem RuQ.pre {w0:World} (hb:Below w0.heap.size w0 w) (h:RuQ C w G w1 G1 s1):RuQ C w0 G w1 G1 s1:=
 ⟨h.o,(Fr.of_below hb _).trans h.fr fun _ _ e=>e,fun k hk=>h.old k (Nat.lt_of_lt_of_le hk hb.size),h.sb⟩
theorem RuQ.post (h:RuQ C w G w1 G1 s1) {w':World} (hb:Below w1.heap.size w1 w'):RuQ C w G w' G1 s1:=h.trans (RuS.refl h.o hb).q
theorem RuX.stepQ {b:Nat} (h:RuX C w G b) (hs:RuQ C w G w1 G1 s1):RuX C w1 G1 b:=⟨(hs.old b h.lt).trans h.r,h.n0,h.n1,Nat.lt_of_lt_of_le h.lt hs.fr.size⟩
theorem Bxs.stepQ {L:List (Nat × Array Value)} (h:Bxs C w G L) (hs:RuQ C w G w1 G1 s1):Bxs C w1 G1 L:=fun p hp=>⟨(h p hp).1.fr hs.fr (h p hp).2.not,(h p hp).2.stepQ hs⟩
theorem RuQ.of_fss (h:RuO C w G s) {m':Mt} (hs:FsS C.B w G w1 G1 m'):RuQ C w G w1 G1 ⟨s.k,m'⟩:=⟨(h.of_fss hs).1,(h.of_fss hs).2,hs.old,hs.sb⟩
theorem RuH.fsl (h:RuH C w G s env loc dep T):(G.fs.map frS)[dep]?=some (env,loc):=by
 obtain ⟨f,h1,h2,h3⟩:=h.last
 have:=h.dep
 rw [List.getElem?_map,show dep=G.fs.length - 1 by omega,h1,← h2,← h3];rfl
def OpQ (C:Rc) (w:World) (G:Gs) (s:St) (env:List Ev) (loc dep:Nat) (T:List (Nat × Int)) (v:Vd) (l:List Int) (e:Ending) (w':World):Prop:=
 ∃ er:Int,e=.returned (.int .i64 er)∧Kep C w'∧((er≠0∧(findE env v.name).isNone=false)∨(er=0∧(findE env v.name).isNone=true∧∃ G1,RuQ C w G w' G1 ⟨s.k,⟨s.m.mem++[l],s.m.inp,s.m.out⟩⟩∧RuH C w' G1 ⟨s.k,⟨s.m.mem++[l],s.m.inp,s.m.out⟩⟩ (env++[⟨v,s.m.mem.length⟩]) (loc+1) dep (T++[(v.kind,v.len)])∧G1.fs.map frS=(G.fs.map frS).set dep (env++[⟨v,s.m.mem.length⟩],loc+1)))
theorem opn_step (h:RuH C w G s env loc dep T) (hel:env.length≤1000) (hlo:loc≤env.length) (v:Vd) (hk:v.kind=1∨v.kind=3) (hv0:v.len=0) (x:Int) (hx:InR x) :
  Calls Tryz.prog 100 #[.pointer (some ⟨G.SB,0,none⟩),v.val,.int .i64 x] w (OpQ C w G s env loc dep T v (if v.kind=1 then [x] else [])):=by
 obtain ⟨f,h1,h2,h3⟩:=h.last
 subst h2 h3
 refine (open_any h.o.o h.o.hB.2.1 h1 (by omega) hlo v hk hv0 x).mono fun e w' he=>?_
 cases hf:findE f.env v.name with
 | some ev=>
   obtain ⟨rfl,hb⟩:=(opn_some hf).1 he
   exact ⟨22,rfl,(h.o.below hb).bw,.inl ⟨by omega,by rw [hf];rfl⟩⟩
 | none=>
   obtain ⟨rfl,G',vV,cV,hs,hfs⟩:=(opn_none hf).1 he
   have hq:=RuQ.of_fss h.o hs
   refine ⟨0,rfl,hq.o.bw,.inr ⟨rfl,by rw [hf];rfl,G',hq,⟨hq.o,?_,?_,?_,?_⟩,?_⟩⟩
   ·have hd:=h.dep
    exact ⟨_,by rw [hfs,List.length_set];exact List.getElem?_set_self (by omega),rfl,rfl⟩
   ·rw [hfs,List.length_set];exact h.dep
   ·rw [h.mem.len];exact h.ty.snoc hf
   ·have hsh:Shape (v.kind,v.len) (if v.kind=1 then [x] else []):=by
     rcases hk with e | e
     ·rw [if_pos e]
      exact ⟨fun _=>rfl,fun e2=>by have e2:v.kind=2:=e2;omega,fun e2=>by have e2:v.kind=3:=e2;omega⟩
     ·rw [if_neg (by omega)]
      exact ⟨fun e2=>by have e2:v.kind=1:=e2;omega,fun e2=>by have e2:v.kind=2:=e2;omega,fun _=>Nat.zero_le _⟩
    refine h.mem.snoc hsh (fun y hy=>?_) ?_
    ·split at hy
     ·rw [List.mem_singleton.1 hy];exact hx
     ·cases hy
    ·split<;>simp
   ·have hd:=h.dep
    rw [hfs,List.map_set,show G.fs.length - 1=dep by omega];rfl
def ClQ (C:Rc) (w:World) (G:Gs) (s:St) (env:List Ev) (loc dep m:Nat) (ok:Bool) (e:Ending) (w':World):Prop:=
 ∃ er:Int,e=.returned (.int .i64 er)∧Kep C w'∧((er≠0∧ok=false)∨(er=0∧ok=true∧∃ G1,RuQ C w G w' G1 ⟨s.k,⟨s.m.mem.take m,s.m.inp,s.m.out⟩⟩∧G1.fs.map frS=(G.fs.map frS).set dep (env,loc)))
theorem clo_step {v:Vd} {m:Nat} (h:RuH C w G s (env++[⟨v,m⟩]) (loc+1) dep (T++[(v.kind,v.len)])) (hm:T.length=m) (hel:env.length≤1000) (hlo:loc≤env.length) (hk:v.kind=1∨v.kind=3) (hall:∀ (i:Nat) (p:List Ev × Nat),(G.fs.map frS)[i]?=some p→∀ e∈p.1,i≠dep→e.c<m) (henv:∀ e∈env,e.c<m) (x:Int) :
  Calls Tryz.prog 101 #[.pointer (some ⟨G.SB,0,none⟩),.string v.name,.int .i64 x] w (ClQ C w G s env loc dep m (if v.kind=1 then decide (s.m.mem[m]?=some [x]) else decide (s.m.mem[m]?=some []))):=by
 obtain ⟨f,h1,h2,h3⟩:=h.last
 have hml:=h.mem.len
 rw [List.length_append,List.length_singleton] at hml
 have hl:s.m.mem[m]?=some s.m.mem[m]:=List.getElem?_eq_getElem (by omega)
 have hT:(T++[(v.kind,v.len)])[m]?=some (v.kind,v.len):=by rw [List.getElem?_append_right (by omega),hm,Nat.sub_self];rfl
 have hsh:=h.mem.sh m _ _ hT hl
 have hd:=h.dep
 refine (close_any h.o.o h1 (env0:=env) (ev:=⟨v,m⟩) h2 h3 (by omega) (by omega) hl (by
  rcases hk with e | e
  ·exact .inl ⟨e,hsh.1 e⟩
  ·exact .inr e) x).mono fun e w' he=>?_
 have hok:cloB v.kind s.m.mem[m] x=(if v.kind=1 then decide (s.m.mem[m]?=some [x]) else decide (s.m.mem[m]?=some [])):=by
  unfold cloB
  rw [hl]
  split<;>simp
 rw [← hok]
 have he:CloP C.B w G s.m env loc (cloB v.kind s.m.mem[m] x) e w':=he
 generalize cloB v.kind s.m.mem[m] x=ok at he ⊢
 cases ok with
 | false=>
   obtain ⟨rfl,hb⟩:=he
   exact ⟨16,rfl,(h.o.below hb).bw,.inl ⟨by omega,rfl⟩⟩
 | true=>
   obtain ⟨rfl,G',vV,cV,hs,hfs,_,_⟩:=he
   have hq:=RuQ.of_fss h.o hs
   have hfr:∀ (i:Nat) (f:Fm) (e:Ev),G'.fs[i]?=some f→e∈f.env→e.c<m:=fun i f e hi hme=>by
    rw [hfs] at hi
    by_cases hid:i=G.fs.length - 1
    ·subst hid
     rw [List.getElem?_set_self (by omega)] at hi
     cases hi
     exact henv e hme
    ·rw [List.getElem?_set_ne (Ne.symm hid)] at hi
     exact hall i (frS f) (by rw [List.getElem?_map,hi];rfl) e hme (by omega)
   have hdr:=hs.o.dropCell (n:=m) (by omega) hfr
   have ho:RuO C w' { G' with cb:=G'.cb.take m,it:=G'.it.take m } ⟨s.k,⟨s.m.mem.take m,s.m.inp,s.m.out⟩⟩:=by
    have h0:=hq.o
    exact ⟨hdr,h0.rb,h0.eb,h0.ne,h0.r0,h0.r1,h0.bw,h0.hB,h0.kr⟩
   refine ⟨0,rfl,hq.o.bw,.inr ⟨rfl,rfl,_,⟨ho,hq.fr,hq.old,hq.sb⟩,?_⟩⟩
   show G'.fs.map frS=_
   rw [hfs,List.map_set,show G.fs.length - 1=dep by omega];rfl
theorem RuQ.whole (h:RuH C w G s env loc dep T) {p:List Ev × Nat} (h1:G1.fs.map frS=(G.fs.map frS).set dep p) (h2:G2.fs.map frS=(G1.fs.map frS).set dep (env,loc)) {s':St} (hq:RuQ C w G w2 G2 s'):RuS C w G w2 G2 s':=by
 refine ⟨hq.o,hq.fr,hq.old,hq.sb,?_⟩
 rw [h2,h1,List.set_set]
 have:=h.fsl
 obtain ⟨a,b⟩:=List.getElem?_eq_some_iff.1 this
 rw [← b,List.set_getElem_self]
theorem RuH.cells (h:RuH C w G s env loc dep T):∀ (i:Nat) (p:List Ev × Nat),(G.fs.map frS)[i]?=some p→∀ e∈p.1,e.c<s.m.mem.length:=fun i p hp e he=>by
 rw [List.getElem?_map] at hp
 obtain ⟨f,h1,rfl⟩:=Option.map_eq_some_iff.1 hp
 exact h.o.o.env i f e h1 he
end
section
variable {C:Rc} {w w1 w2:World} {G G1 G2:Gs} {s s1 s2:St} {env:List Ev} {loc dep:Nat} {T:List (Nat × Int)}
theorem exK_loc {P:List Pc} {F d dep:Nat} {env:List Ev} {back:Bool} {n:Nd} {s:St} (hk:n.kind=54):ex P F (d+1) (.st n) dep env back s=stepS F s fun σ0=>(optS (openT env n back s.m) σ0.k).andThen fun σ1=>
   (ex P F d (.bl (ordK back (kid n 1).kids)) dep (env++[⟨intV n,s.m.mem.length⟩]) back σ1).andThen fun σ2=>stepS F σ2 fun σ3=>optS (closeT (env++[⟨intV n,s.m.mem.length⟩]) n back s.m.mem.length σ2.m) σ3.k:=by
 rw [ex_succ]
 simp only [exB]
 rw [if_neg (by omega),if_neg (by omega),if_pos hk]
theorem evT_rng (h:RuH C w G s env loc dep T) {x:Nd} (hf:NdFit x) {v:Int} (hv:evT (look env s.m.mem) x=some v):InR v:=evT_inR (h.mem.look env) _ x (Nat.le_refl _) hf v hv
def ClR (C:Rc) (w:World) (G:Gs) (k:Nat) (m:Mt) (ok:Bool) (e:Ending) (w':World):Prop:=∃ er:Int,e=.returned (.int .i64 er)∧(er≠0→ok=false∧PanP C (.panicked [{ v:=failV er,recovered:=false }]) w')∧(er=0→ok=true∧∃ G4,RuS C w G w' G4 ⟨k,m⟩)
theorem clo_R (h:RuH C w G s env loc dep T) {v:Vd} {m:Nat} (hm:s.m.mem.length=m) (hel:env.length≤1000) (hlo:loc≤env.length) (hk:v.kind=1∨v.kind=3) (hq:RuQ C w G w2 G2 s2) (h2:RuH C w2 G2 s2 (env++[⟨v,m⟩]) (loc+1) dep (T++[(v.kind,v.len)])) (hfs:G2.fs.map frS=(G.fs.map frS).set dep (env++[⟨v,m⟩],loc+1)) (x:Int) {Z:World} (hZ:Below w2.heap.size w2 Z) :
  Calls Tryz.prog 101 #[.pointer (some ⟨G2.SB,0,none⟩),.string v.name,.int .i64 x] Z (ClR C w G s2.k ⟨s2.m.mem.take m,s2.m.inp,s2.m.out⟩ (if v.kind=1 then decide (s2.m.mem[m]?=some [x]) else decide (s2.m.mem[m]?=some []))):=by
 have hTl:=h.mem.len
 have hcells:=h.cells
 have hsl:=h.fsl
 refine (clo_step (h2.below hZ) (by omega) hel hlo hk (fun i p hp e he hi=>?_) (fun e he=>?_) x).mono fun e w' hc=>?_
 ·rw [hfs,List.getElem?_set_ne (Ne.symm hi)] at hp
  have:=hcells i p hp e he
  omega
 ·have:=hcells dep _ hsl e he
  omega
 ·obtain ⟨er,h1,hb,(⟨h0,hok⟩ | ⟨h0,hok,G4,hq4,hf4⟩)⟩:=hc
  ·exact ⟨er,h1,fun _=>⟨hok,er,h0,rfl,hb⟩,fun e0=>absurd e0 h0⟩
  ·exact ⟨er,h1,fun e0=>absurd h0 e0,fun _=>⟨hok,G4,RuQ.whole h hfs hf4 (hq.trans (hq4.pre hZ))⟩⟩
def LcB (C:Rc) (n y:Nd) (Ay:Option Addr) (cy:Nat) (L:List (Nat × Array Value)) (R:Ending→World→Prop) (e:Ending) (w':World):Prop:=
 PnR R e w'∨(e=.returned (.tuple #[])∧∃ G2,Bxs C w' G2 L∧Calls Tryz.prog 98 #[.pointer (some ⟨C.RB,0,none⟩)] w' fun e2 w2=>PnR R e2 w2∨(e2=.returned (.tuple #[])∧∃ G3 s3,Bxs C w2 G3 L∧RuO C w2 G3 s3∧
  ∀ Y:World,Below w2.heap.size w2 Y→Calls Tryz.prog 132 #[.pointer (some ⟨C.RB,0,none⟩),.agg (ndC y Ay cy)] Y fun e3 w3=>PnR R e3 w3∨∃ u,e3=.returned (.int .i64 u)∧Below Y.heap.size Y w3∧
    ∀ Z:World,Below w3.heap.size w3 Z→Calls Tryz.prog 101 #[.pointer (some ⟨G3.SB,0,none⟩),.string n.name,.int .i64 u] Z fun e4 w4=>∃ er:Int,e4=.returned (.int .i64 er)∧(er≠0→R (.panicked [{ v:=failV er,recovered:=false }]) w4)∧(er=0→R (.returned (.tuple #[])) w4)))
theorem loc_fin (hC:RcOk C) (h:RuH C w G s env loc dep T) {n y:Nd} {back:Bool} {d m:Nat} {l:List Nd} (hm:s.m.mem.length=m) (hy:lstK n back=y) (hel:env.length≤1000) (hlo:loc≤env.length) (hq:RuQ C w G w1 G1 s1) (h1:RuH C w1 G1 s1 (env++[⟨intV n,m⟩]) (loc+1) dep (T++[(1,0)])) (hfs:G1.fs.map frS=(G.fs.map frS).set dep (env++[⟨intV n,m⟩],loc+1)) {L:List (Nat × Array Value)} (hL:Bxs C w1 G1 L)
  (hT:TOk C.P.procs ((env++[⟨intV n,m⟩]:List Ev).map (·.v)) (.bl l)) (hyE:isExT y=true) (hyf:NdFit y) {Ay:Option Addr} (ky:NdsAt C.W0 Ay y.kids) (cy:Nat) {R:Ending→World→Prop} (hR:R=RunP C w G ((ex C.P.procs C.F d (.bl l) dep (env++[⟨intV n,m⟩]) back s1).andThen fun σ2=>stepS C.F σ2 fun σ3=>optS (closeT (env++[⟨intV n,m⟩]) n back m σ2.m) σ3.k))
  {e:Ending} {w':World} (hr:RunP C w1 G1 (ex C.P.procs C.F d (.bl l) dep (env++[⟨intV n,m⟩]) back s1) e w'):LcB C n y Ay cy L R e w':=by
 subst hy
 cases hc:ex C.P.procs C.F d (.bl l) dep (env++[⟨intV n,m⟩]) back s1 with
 | deep=>rw [hc] at hr;exact hr.elim
 | bad=>
   rw [hc] at hr hR
   obtain ⟨er,g1,g2,g3⟩:=hr
   exact .inl ⟨_,g2,by rw [hR];exact ⟨er,g1,g2,g3⟩⟩
 | ok s2=>
   rw [hc] at hr hR
   obtain ⟨rfl,G2,h2⟩:=hr
   have hr2:=h1.after hC h2 hT hc
   have hfs2:G2.fs.map frS=(G.fs.map frS).set dep (env++[⟨intV n,m⟩],loc+1):=h2.fs.trans hfs
   have hq2:=hq.trans h2.q
   have hR:R=RunP C w G (stepS C.F s2 fun σ3=>optS (closeT (env++[⟨intV n,m⟩]) n back m s2.m) σ3.k):=hR
   refine .inr ⟨rfl,G2,hL.step h2,(step_any hr2.o hC.fuel).mono fun e2 w2 he=>?_⟩
   unfold stepS at hR
   unfold stepR at he
   by_cases hk:s2.k<C.F
   ·rw [if_pos hk] at he hR
    obtain ⟨rfl,G3,h3⟩:=he
    have hr3:=hr2.step h3 hr2.mem
    have hfs3:G3.fs.map frS=(G.fs.map frS).set dep (env++[⟨intV n,m⟩],loc+1):=h3.fs.trans hfs2
    have hq3:=hq2.trans h3.q
    refine .inr ⟨rfl,G3,_,(hL.step h2).step h3,h3.o,fun Y hY=>(value_any (hr3.below hY) hyE hyf ky cy).mono fun e3 w3 hv=>?_⟩
    unfold closeT at hR
    cases hev:evT (look (env++[⟨intV n,m⟩]) s2.m.mem) (lstK n back) with
    | none=>
      have hv:ValP C Y (evT (look (env++[⟨intV n,m⟩]) s2.m.mem) (lstK n back)) e3 w3:=hv
      rw [hev] at hv hR
      obtain ⟨er,g1,g2,g3⟩:=hv
      exact .inl ⟨_,g2,by rw [hR];exact ⟨er,g1,g2,g3⟩⟩
    | some u=>
      have hv:ValP C Y (evT (look (env++[⟨intV n,m⟩]) s2.m.mem) (lstK n back)) e3 w3:=hv
      rw [hev] at hv hR
      obtain ⟨rfl,hb3⟩:=hv
      refine .inr ⟨u,rfl,hb3,fun Z hZ=>(clo_R h (v:=intV n) hm hel hlo (.inl rfl) hq3 hr3 hfs3 u (bl2 hY (bl2 hb3 hZ))).mono fun e4 w4 hcl=>?_⟩
      obtain ⟨er,he4,hn,hz⟩:=hcl
      have hR:R=RunP C w G (optS (if s2.m.mem[m]?=some [u] then some ⟨s2.m.mem.take m,s2.m.inp,s2.m.out⟩ else none) (s2.k+1)):=hR
      refine ⟨er,he4,fun h0=>?_,fun h0=>?_⟩
      ·obtain ⟨hok,hp⟩:=hn h0
       have hok:decide (s2.m.mem[m]?=some [u])=false:=hok
       rw [if_neg (of_decide_eq_false hok)] at hR
       rw [hR]
       exact hp
      ·obtain ⟨hok,G4,h4⟩:=hz h0
       have hok:decide (s2.m.mem[m]?=some [u])=true:=hok
       rw [if_pos (of_decide_eq_true hok)] at hR
       rw [hR]
       exact ⟨rfl,G4,h4⟩
   ·rw [if_neg hk] at he hR
    obtain ⟨er,g1,g2,g3⟩:=he
    exact .inl ⟨_,g2,by rw [hR];exact ⟨er,g1,g2,g3⟩⟩
def LcO (C:Rc) (n y b:Nd) (Ay A1:Option Addr) (cy c1:Nat) (back:Bool) (L:List (Nat × Array Value)) (R:Ending→World→Prop) (e:Ending) (w':World):Prop:=∃ er:Int,e=.returned (.int .i64 er)∧(er≠0→R (.panicked [{ v:=failV er,recovered:=false }]) w')∧(er=0→∃ G1,Bxs C w' G1 L∧Kep C w'∧
 Calls Tryz.prog 42 #[.pointer (some ⟨C.RB,0,none⟩),.agg (ndC b A1 c1),.bool back] w' (LcB C n y Ay cy L R))
theorem loc_open (hC:RcOk C) (h:RuH C w G s env loc dep T) {n x y b:Nd} {back:Bool} {d:Nat} (hx:fstK n back=x) (hy:lstK n back=y) (hel:env.length≤1000) (hlo:loc≤env.length) (e1:n.kids[1]?=some b) (hbH:BlH C.P (env.map (·.v)++[intV n]) b) (hB:BlkC C d b) (hyE:isExT y=true) (hyf:NdFit y) (hxf:NdFit x) {Ay A1:Option Addr} (ky:NdsAt C.W0 Ay y.kids) (k1:NdsAt C.W0 A1 b.kids) (cy c1:Nat) {w3:World} {G3:Gs} (h3:RuS C w G w3 G3 ⟨s.k+1,s.m⟩) {L:List (Nat × Array Value)} (hL:Bxs C w3 G3 L)
  {R:Ending→World→Prop} {v:Int} (hv:evT (look env s.m.mem) x=some v) (hR:R=RunP C w G ((optS (openT env n back s.m) (s.k+1)).andThen fun σ1=>(ex C.P.procs C.F d (.bl (ordK back (kid n 1).kids)) dep (env++[⟨intV n,s.m.mem.length⟩]) back σ1).andThen fun σ2=>stepS C.F σ2 fun σ3=>optS (closeT (env++[⟨intV n,s.m.mem.length⟩]) n back s.m.mem.length σ2.m) σ3.k))
  (hnd:((optS (openT env n back s.m) (s.k+1)).andThen fun σ1=>(ex C.P.procs C.F d (.bl (ordK back (kid n 1).kids)) dep (env++[⟨intV n,s.m.mem.length⟩]) back σ1).andThen fun σ2=>stepS C.F σ2 fun σ3=>optS (closeT (env++[⟨intV n,s.m.mem.length⟩]) n back s.m.mem.length σ2.m) σ3.k)≠.deep) {Z:World} (hZ:Below w3.heap.size w3 Z) :
  Calls Tryz.prog 100 #[.pointer (some ⟨G3.SB,0,none⟩),.agg #[.string n.name,.int .u8 1,.int .i64 0],.int .i64 v] Z (LcO C n y b Ay A1 cy c1 back L R):=by
 subst hx
 have hr3:RuH C w3 G3 ⟨s.k+1,s.m⟩ env loc dep T:=h.step h3 h.mem
 rw [kid_eq e1] at hR hnd
 refine (opn_step (hr3.below hZ) hel hlo (intV n) (.inl rfl) rfl v (evT_rng h hxf hv)).mono fun e w' ho=>?_
 obtain ⟨er,he,hbw,(⟨h0,hf⟩ | ⟨h0,hf,G1,hq,h1,hfs⟩)⟩:=ho
 ·refine ⟨er,he,fun _=>?_,fun e0=>absurd e0 h0⟩
  have hf:(findE env n.name).isNone=false:=hf
  have:openT env n back s.m=none:=by unfold openT;rw [hv,Option.bind_some,hf];rfl
  rw [this] at hR
  rw [hR]
  exact ⟨er,h0,rfl,hbw⟩
 ·refine ⟨er,he,fun e0=>absurd h0 e0,fun _=>?_⟩
  have hf:(findE env n.name).isNone=true:=hf
  have hop:openT env n back s.m=some ⟨s.m.mem++[[v]],s.m.inp,s.m.out⟩:=by unfold openT;rw [hv,Option.bind_some,hf];rfl
  rw [hop] at hR hnd
  have hq1:RuQ C w3 G3 w' G1 ⟨s.k+1,⟨s.m.mem++[[v]],s.m.inp,s.m.out⟩⟩:=hq.pre hZ
  have h1:RuH C w' G1 ⟨s.k+1,⟨s.m.mem++[[v]],s.m.inp,s.m.out⟩⟩ (env++[⟨intV n,s.m.mem.length⟩]) (loc+1) dep (T++[(1,0)]):=h1
  have hfs:G1.fs.map frS=(G.fs.map frS).set dep (env++[⟨intV n,s.m.mem.length⟩],loc+1):=by rw [hfs,h3.fs]
  have hvis:(env++[⟨intV n,s.m.mem.length⟩]:List Ev).map (·.v)=env.map (·.v)++[intV n]:=by rw [List.map_append];rfl
  have hbH2:BlH C.P ((env++[⟨intV n,s.m.mem.length⟩]:List Ev).map (·.v)) b:=by rw [hvis];exact hbH
  refine ⟨G1,hL.stepQ hq1,hbw,?_⟩
  refine (hB _ _ dep _ w' G1 _ back A1 c1 h1 hbH2 (by rw [List.length_append,List.length_singleton];omega) k1 (andThen_deep hnd)).mono fun e w4 hr=>?_
  exact loc_fin hC h rfl hy hel hlo (h3.q.trans hq1) h1 hfs (hL.stepQ hq1) (hbH2.tok back) hyE hyf ky cy hR hr
end
section
variable {C:Rc} {w w1 w2:World} {G G1 G2:Gs} {s s1 s2:St} {env:List Ev} {loc dep:Nat} {T:List (Nat × Int)}
theorem stepS_pos {F:Nat} {σ:St} {f:St→Rs} (h:σ.k<F):stepS F σ f=f ⟨σ.k+1,σ.m⟩:=if_pos h
theorem stepS_neg {F:Nat} {σ:St} {f:St→Rs} (h:¬ σ.k<F):stepS F σ f=.bad:=if_neg h
def calT (P:List Pc) (F d:Nat) (n:Nd) (dep:Nat) (env:List Ev) (bk:Bool) (s:St):Rs:=stepS F s fun σ1=>match procT P n.name with
   | none=>.bad
   | some p=>match enterT env p.params n.kids with
     | none=>.bad
     | some env2=>if 100≤dep then .bad else (ex P F d (.bl (ordK bk p.body.kids)) (dep+1) env2 bk σ1).andThen fun σ2=>stepS F σ2 .ok
theorem exK_cal {P:List Pc} {F d dep:Nat} {env:List Ev} {back:Bool} {n:Nd} {s:St} (hk:n.kind=50∨n.kind=51):ex P F (d+1) (.st n) dep env back s=calT P F d n dep env (back != decide (n.kind=51)) s:=by
 rw [ex_succ]
 simp only [exB]
 rw [if_neg (by omega),if_neg (by omega),if_neg (by omega),if_neg (by omega),if_pos hk]
 rfl
theorem RuO.setE (h:RuO C w G s) {i:Nat} (y:Int):RuS C w G (w.setCell ⟨C.EB,i,none⟩ (.int .i64 y)) G s:=by
 have hf:=Fr.of_set w ⟨C.EB,i,none⟩ (.int .i64 y)
 obtain ⟨xs,h1,h2⟩:=h.eb
 have h3:=h2.set i (.int .i64 y)
 have he:((xs.map (Value.int .i64)).toArray).setIfInBounds i (.int .i64 y)=((xs.set i y).map (Value.int .i64)).toArray:=by
  rw [List.map_set];simp
 rw [he] at h3
 refine ⟨⟨h.o.fr hf fun j hj h0 _ e=>h0 (by rw [show j=C.EB from e];exact h.r1),h.rb.fr hf fun e=>h.ne (show C.RB=C.EB from e),⟨xs.set i y,by rw [List.length_set];exact h1,h3⟩,h.ne,h.r0,h.r1,h.bw.fr hf (fun j e=>by rw [show j=C.EB from e];exact h.hB.2.2.2) (fun p hp e=>(h.kr p hp).2.2 e),⟨h.hB.1,Nat.le_trans h.hB.2.1 hf.size,h.hB.2.2⟩,h.kr⟩,hf.mono fun j _ e=>.inr (.inr e),fun _ _=>rfl,rfl,rfl⟩
theorem RuO.getE (h:RuO C w G s) {i:Nat} (hi:i<C.P.procs.length):∃ x:Int,w.cell? ⟨C.EB,i,none⟩=some (.int .i64 x)∧w.frozen? ⟨C.EB,i,none⟩=false∧C.EB<w.heap.size:=by
 obtain ⟨xs,h1,h2⟩:=h.eb
 refine ⟨xs[i]'(by omega),h2.cell ?_,h2.free i,h2.lt⟩
 rw [List.getElem?_toArray,List.getElem?_map,List.getElem?_eq_getElem (by omega)];rfl
def CaL (R:Ending→World→Prop) (e:Ending) (w':World):Prop:=e=.returned (.int .i64 0)∧R (.returned (.tuple #[])) w'
def CaB (C:Rc) (R:Ending→World→Prop) (e:Ending) (w':World):Prop:=PnR R e w'∨(e=.returned (.tuple #[])∧Calls Tryz.prog 98 #[.pointer (some ⟨C.RB,0,none⟩)] w' fun e2 w2=>PnR R e2 w2∨(e2=.returned (.tuple #[])∧∃ G7 s7,RuO C w2 G7 s7∧Calls Tryz.prog 137 #[.pointer (some ⟨G7.SB,0,none⟩)] w2 (CaL R)))
def CaE (C:Rc) (i:Nat) (b:Nd) (Ab:Option Addr) (cb:Nat) (bk:Bool) (L:List (Nat × Array Value)) (R:Ending→World→Prop) (e:Ending) (w':World):Prop:=∃ er:Int,e=.returned (.int .i64 er)∧(er≠0→R (.panicked [{ v:=failV er,recovered:=false }]) w')∧(er=0→∃ G4 s4,Bxs C w' G4 L∧RuO C w' G4 s4∧
 ∀ y:Int,Bxs C (w'.setCell ⟨C.EB,i,none⟩ (.int .i64 y)) G4 L∧Calls Tryz.prog 42 #[.pointer (some ⟨C.RB,0,none⟩),.agg (ndC b Ab cb),.bool bk] (w'.setCell ⟨C.EB,i,none⟩ (.int .i64 y)) (CaB C R))
def CaS (C:Rc) (ps:List Vd) (al:List ByteArray) (Ap Aa:Option Addr) (cp ca:Nat) (i:Nat) (b:Nd) (Ab:Option Addr) (cb:Nat) (bk:Bool) (L:List (Nat × Array Value)) (R:Ending→World→Prop) (e:Ending) (w':World):Prop:=
 PnR R e w'∨(e=.returned (.tuple #[])∧∃ G3 s3,Bxs C w' G3 L∧RuO C w' G3 s3∧∀ Z:World,Below w'.heap.size w' Z→Calls Tryz.prog 136 #[.pointer (some ⟨G3.SB,0,none⟩),.slice Ap ps.length cp,.slice Aa al.length ca] Z (CaE C i b Ab cb bk L R))
theorem cal_step (hC:RcOk C) (h:RuH C w G s env loc dep T) {n:Nd} (hn:StH C.P (env.map (·.v)) n) (hk:n.kind=50∨n.kind=51) {d i:Nat} {bk:Bool} {q:Pc} (hi:C.P.procs[i]?=some q) (hp:procT C.P.procs n.name=some q) (hB:∀ b,BlkC C d b) {R:Ending→World→Prop} (hR:R=RunP C w G (calT C.P.procs C.F d n dep env bk s)) (hnd:calT C.P.procs C.F d n dep env bk s≠.deep)
  {wA:World} (hA:Below w.heap.size w wA) {L:List (Nat × Array Value)} (hL:Bxs C wA G L) {Ap Aa Ab:Option Addr} {cp ca cb ab:Nat} (hAp:VdsAt C.W0 Ap q.params) (hAb:NdsAt C.W0 Ab q.body.kids) (hAa:Aa=some ⟨ab,0,none⟩) (hLa:(ab,((n.kids.map Nd.name).map Value.string).toArray)∈L) :
  Calls Tryz.prog 98 #[.pointer (some ⟨C.RB,0,none⟩)] wA (CaS C q.params (n.kids.map Nd.name) Ap Aa cp ca i q.body Ab cb bk L R):=by
 have hqm:=List.mem_of_getElem? hi
 have hil:=(List.getElem?_eq_some_iff.1 hi).1
 obtain ⟨hpn,hpb⟩:=hC.ok.pok hC.fit q hqm
 have hnn:(n.kids.map Nd.name).Nodup:=by
  have:=hn.rj n (by rw [preT_eq];exact List.mem_cons_self)
  unfold rjB at this
  rw [if_neg (by omega),if_neg (by omega),if_neg (by omega),if_neg (by omega),if_neg (by omega),if_pos hk] at this
  exact of_decide_eq_true this
 have hlen:n.kids.length=q.params.length:=by
  have h0:=vc_flt hn.vc
  unfold fltR at h0
  rw [if_neg (by omega),if_neg (by omega),if_neg (by omega),if_neg (by omega),if_pos hk] at h0
  unfold callR at h0
  rw [hp] at h0
  by_cases e:n.kids.length=q.params.length
  ·exact e
  ·simp [e] at h0
 have hpl:q.params.length≤8:=((val_bnd hC.ok.v).p q hqm).2.1
 refine (step_any (h.o.below hA) hC.fuel).mono fun e w' he=>?_
 unfold calT at hR hnd
 unfold stepR at he
 by_cases hkf:s.k<C.F
 rotate_left
 ·rw [if_neg hkf] at he
  rw [stepS_neg hkf] at hR
  obtain ⟨er,g1,g2,g3⟩:=he
  exact .inl ⟨_,g2,by rw [hR];exact ⟨er,g1,g2,g3⟩⟩
 rw [if_pos hkf] at he
 rw [stepS_pos hkf,hp] at hR hnd
 simp only at hR hnd
 obtain ⟨rfl,G3,h3⟩:=he
 have hr3:RuH C w' G3 ⟨s.k+1,s.m⟩ env loc dep T:=(h.below hA).step h3 h.mem
 have hs3:RuS C w G w' G3 ⟨s.k+1,s.m⟩:=h3.pre hA
 refine .inr ⟨rfl,G3,_,hL.step h3,h3.o,fun Z hZ=>?_⟩
 have hrZ:=hr3.below hZ
 obtain ⟨f,hf,hfe,hfl⟩:=hrZ.last
 have hLZ:=(hL.step h3).below h3.o hZ
 have hCA:CellsAt Z Aa ((n.kids.map Nd.name).map .string):=fun k x hk=>by
  refine ⟨ab,0,hAa,?_⟩
  rw [Nat.zero_add]
  exact (hLZ _ hLa).1.cell (by rw [List.getElem?_toArray];exact hk)
 refine (enter_any hrZ.o.o hrZ.o.hB.2.1 hf q.params (n.kids.map Nd.name) (by rw [List.length_map];exact hlen) (by omega) Ap Aa cp ca (hAp.mono hrZ.o.bw.b) hCA).mono fun e2 w4 he2=>?_
 rw [hfe,← enterT_N] at he2
 have hdep:=hrZ.dep
 cases hen:enterT env q.params n.kids with
 | none=>
   rw [hen] at he2 hR
   obtain ⟨er,h0,rfl,hb⟩:=he2
   exact ⟨er,rfl,fun _=>by rw [hR];exact ⟨er,h0,rfl,(hrZ.o.below hb).bw⟩,fun e0=>absurd e0 h0⟩
 | some env2=>
   rw [hen] at he2 hR hnd
   have he2:if 100≤G3.fs.length - 1 then e2=.returned (.int .i64 19)∧Below Z.heap.size Z w4 else e2=.returned (.int .i64 0)∧∃ G' vV cV,FsS C.B Z G3 w4 G' s.m∧G'.fs=G3.fs++[⟨env2,0,vV,cV⟩]∧G'.cb=G3.cb∧G'.it=G3.it:=he2
   have hR:R=RunP C w G (if 100≤dep then .bad else (ex C.P.procs C.F d (.bl (ordK bk q.body.kids)) (dep+1) env2 bk ⟨s.k+1,s.m⟩).andThen fun σ2=>stepS C.F σ2 .ok):=hR
   have hnd:(if 100≤dep then Rs.bad else (ex C.P.procs C.F d (.bl (ordK bk q.body.kids)) (dep+1) env2 bk ⟨s.k+1,s.m⟩).andThen fun σ2=>stepS C.F σ2 .ok)≠.deep:=hnd
   rw [show G3.fs.length - 1=dep by omega] at he2
   by_cases h100:100≤dep
   ·rw [if_pos h100] at he2 hR
    obtain ⟨rfl,hb⟩:=he2
    exact ⟨19,rfl,fun _=>by rw [hR];exact ⟨19,by omega,rfl,(hrZ.o.below hb).bw⟩,fun e0=>absurd e0 (by omega)⟩
   ·rw [if_neg h100] at he2 hR hnd
    obtain ⟨rfl,G4,vV,cV,hfs,hG4,_,_⟩:=he2
    have hq4:RuQ C Z G3 w4 G4 ⟨s.k+1,s.m⟩:=RuQ.of_fss hrZ.o hfs
    have hvs:=(enterT_eq _ _ hen).1
    have hr4:RuH C w4 G4 ⟨s.k+1,s.m⟩ env2 0 (dep+1) T:=by
     refine ⟨hq4.o,⟨⟨env2,0,vV,cV⟩,?_,rfl,rfl⟩,?_,h.ty.enter hpn hnn hen,h.mem⟩
     ·rw [hG4,List.length_append,List.length_singleton,Nat.add_sub_cancel,List.getElem?_append_right (Nat.le_refl _),Nat.sub_self];rfl
     ·rw [hG4,List.length_append,List.length_singleton,hdep]
    have hL4:=hLZ.stepQ hq4
    refine ⟨0,rfl,fun e0=>absurd rfl e0,fun _=>⟨G4,_,hL4,hq4.o,fun y=>?_⟩⟩
    have h5:=hq4.o.setE (i:=i) y
    have hr5:=hr4.step h5 h.mem
    refine ⟨hL4.step h5,?_⟩
    have hbH:BlH C.P (env2.map (·.v)) q.body:=by rw [hvs];exact hC.proc hqm
    refine (hB q.body env2 0 (dep+1) T _ G4 _ bk Ab cb hr5 hbH (Nat.zero_le _) hAb (andThen_deep hnd)).mono fun e3 w6 he3=>?_
    cases hc:ex C.P.procs C.F d (.bl (ordK bk q.body.kids)) (dep+1) env2 bk ⟨s.k+1,s.m⟩ with
    | deep=>rw [hc] at he3;exact he3.elim
    | bad=>
      rw [hc] at he3 hR
      obtain ⟨er,g1,g2,g3⟩:=he3
      exact .inl ⟨_,g2,by rw [hR];exact ⟨er,g1,g2,g3⟩⟩
    | ok s6=>
      rw [hc] at he3 hR
      have hR:R=RunP C w G (stepS C.F s6 .ok):=hR
      obtain ⟨rfl,G6,h6⟩:=he3
      have hr6:=hr5.after hC h6 (hbH.tok bk) hc
      refine .inr ⟨rfl,(step_any hr6.o hC.fuel).mono fun e4 w7 he4=>?_⟩
      unfold stepR at he4
      by_cases hk6:s6.k<C.F
      rotate_left
      ·rw [if_neg hk6] at he4
       rw [stepS_neg hk6] at hR
       obtain ⟨er,g1,g2,g3⟩:=he4
       exact .inl ⟨_,g2,by rw [hR];exact ⟨er,g1,g2,g3⟩⟩
      rw [if_pos hk6] at he4
      rw [stepS_pos hk6] at hR
      obtain ⟨rfl,G7,h7⟩:=he4
      have hr7:=hr6.step h7 hr6.mem
      refine .inr ⟨rfl,G7,_,h7.o,?_⟩
      obtain ⟨f7,hf7,_,hl7⟩:=hr7.last
      have hd7:=hr7.dep
      refine (leave_any hr7.o.o hf7 (by omega) hl7).mono fun e5 w8 he5=>?_
      obtain ⟨rfl,G8,hfs8,hG8,_,_⟩:=he5
      have hq8:=RuQ.of_fss hr7.o hfs8
      refine ⟨rfl,?_⟩
      rw [hR]
      refine ⟨rfl,G8,?_⟩
      have hq:=((hs3.q.trans (hq4.pre hZ)).trans h5.q).trans ((h6.q.trans h7.q).trans hq8)
      refine ⟨hq.o,hq.fr,hq.old,hq.sb,?_⟩
      have e7:G7.fs.map frS=G3.fs.map frS++[(env2,0)]:=by
       rw [h7.fs,h6.fs,hG4,List.map_append];rfl
      rw [hG8,List.map_dropLast,e7,List.dropLast_concat,hs3.fs]
end
end Go.Proofs.YtgbomnibedefoaaGreatDoor
