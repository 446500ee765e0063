import Derived.Test.YtgbomnibedefoaaGreatDoorQa40
set_option maxRecDepth 100000
set_option maxHeartbeats 8000000
namespace Go.Proofs.YtgbomnibedefoaaGreatDoor
open Go.ChangeShapes Go.WideShapes Go.ChangeAt Go.RowKit Go.Sort
theorem four_ex {n:Nd} (h:isStT n=true) (hk:n.kind=52∨n.kind=53):isExT (kid n 0)=true∧isExT (kid n 3)=true:=by
 rw [isStT_eq] at h
 unfold isStK at h
 rw [if_neg (by omega),if_neg (by omega),if_neg (by omega),if_neg (by omega),if_neg (by omega),if_pos hk] at h
 simp only [Bool.and_eq_true,decide_eq_true_eq,List.all_cons,List.all_nil,id] at h
 exact ⟨h.2.2.1,h.2.2.2.2.2.1⟩
section
variable {C:Rc} {w w1:World} {G G1:Gs} {s s1:St} {env:List Ev} {loc dep:Nat} {T:List (Nat × Int)}
def StmF (f:Nat) (C:Rc) (d:Nat) (n:Nd):Prop:=∀ (env:List Ev) (loc dep:Nat) (T:List (Nat × Int)) (w:World) (G:Gs) (s:St) (back:Bool) (A:Option Addr) (cap:Nat),RuH C w G s env loc dep T→StH C.P (env.map (·.v)) n→loc≤env.length→NdsAt C.W0 A n.kids→ex C.P.procs C.F d (.st n) dep env back s≠.deep→
 Calls Tryz.prog f #[.pointer (some ⟨C.RB,0,none⟩),.agg (ndC n A cap),.bool back] w (RunP C w G (ex C.P.procs C.F d (.st n) dep env back s))
def Bxs (C:Rc) (w:World) (G:Gs) (L:List (Nat × Array Value)):Prop:=∀ p∈L,Bx w p.1 p.2∧RuX C w G p.1
theorem Bxs.step {L:List (Nat × Array Value)} (h:Bxs C w G L) (hs:RuS C w G w1 G1 s1):Bxs C w1 G1 L:=fun p hp=>⟨hs.bx (h p hp).1 (h p hp).2,(h p hp).2.step hs⟩
theorem Bxs.below {L:List (Nat × Array Value)} (h:Bxs C w G L) (ho:RuO C w G s) {w':World} (hb:Below w.heap.size w w'):Bxs C w' G L:=h.step (RuS.refl ho hb)
theorem ends_of (h:RuO C w G s) {n:Nd} {A:Option Addr} (hK:NdsAt C.W0 A n.kids) {m:Nat} (hl:n.kids.length=m+1) (hm:m≤100000) (cap:Nat) (back:Bool) :
  ∃ Ax cx Ay cy,NdsAt C.W0 Ax (fstK n back).kids∧NdsAt C.W0 Ay (lstK n back).kids∧∀ Y:World,Below w.heap.size w Y→Calls Tryz.prog 129 #[.agg (ndC n A cap),.bool back] Y (EndP (fstK n back) (lstK n back) Ax Ay cx cy Y):=by
 have e0:n.kids[0]?=some (kid n 0):=kid_at (by omega)
 have em:n.kids[m]?=some (kid n m):=kid_at (by omega)
 obtain ⟨b0,o0,A1,c1,rfl,h1,k1⟩:=hK.n4 e0
 obtain ⟨b2,o2,A2,c2,e2,h2,k2⟩:=hK.n4 em
 cases e2
 rw [Nat.zero_mul,Nat.add_zero] at h1
 have en:n.kids.length - 1=m:=by omega
 cases back with
 | false=>
   refine ⟨A1,c1,A2,c2,k1,by unfold lstK;rw [en];exact k2,fun Y hY=>?_⟩
   have:=ends_any n m hl hm (cap:=cap) Y (h1.mono (h.below hY).bw.b) (h2.mono (h.below hY).bw.b) false
   unfold fstK lstK;rw [en];exact this
 | true=>
   refine ⟨A2,c2,A1,c1,by unfold fstK;rw [en];exact k2,k1,fun Y hY=>?_⟩
   have:=ends_any n m hl hm (cap:=cap) Y (h1.mono (h.below hY).bw.b) (h2.mono (h.below hY).bw.b) true
   unfold fstK lstK;rw [en];exact this
theorem exK_if {P:List Pc} {F d dep:Nat} {env:List Ev} {back:Bool} {n:Nd} {s:St} (hk:n.kind=52):ex P F (d+1) (.st n) dep env back s=match testO F env (fstK n back) s with
  | none=>.bad
  | some b=>(ex P F d (.bl (ordK back (kid n (if b then 1 else 2)).kids)) dep env back ⟨s.k+1,s.m⟩).andThen fun s2=>if testO F env (lstK n back) s2=some b then .ok ⟨s2.k+1,s2.m⟩ else .bad:=by
 rw [ex_succ]
 simp only [exB]
 rw [if_pos hk,testT_O]
 cases testO F env (fstK n back) s with
 | none=>rfl
 | some b=>
   show (ex P F d _ dep env back _).andThen _=(ex P F d _ dep env back _).andThen _
   congr 1
   funext s2
   rw [testT_O]
   cases testO F env (lstK n back) s2 with
   | none=>simp
   | some b2=>simp
theorem brn_fin (hC:RcOk C) (h:RuH C w G s env loc dep T) {d:Nat} {back:Bool} {l:List Nd} {y:Nd} {Ay:Option Addr} {cy:Nat} (hT:TOk C.P.procs (env.map (·.v)) (.bl l)) (hE:isExT y=true) (hf:NdFit y) (hK:NdsAt C.W0 Ay y.kids) {e:Ending} {w':World} (hr:RunP C w G (ex C.P.procs C.F d (.bl l) dep env back s) e w') (b:Bool) {L:List (Nat × Array Value)} (hL:Bxs C w G L) {w0:World} {G0:Gs} (h0:RuS C w0 G0 w G s) :
  (∃ r,e=.panicked r∧RunP C w0 G0 ((ex C.P.procs C.F d (.bl l) dep env back s).andThen fun s2=>if testO C.F env y s2=some b then .ok ⟨s2.k+1,s2.m⟩ else .bad) e w')∨
  (e=.returned (.tuple #[])∧∃ G',Bxs C w' G' L∧Calls Tryz.prog 131 #[.pointer (some ⟨C.RB,0,none⟩),.agg (ndC y Ay cy),.bool b] w' fun e2 w2=>(RunP C w0 G0 ((ex C.P.procs C.F d (.bl l) dep env back s).andThen fun s2=>if testO C.F env y s2=some b then .ok ⟨s2.k+1,s2.m⟩ else .bad) e2 w2)∧(e2=.returned (.tuple #[])∨∃ r,e2=.panicked r)):=by
 cases hc:ex C.P.procs C.F d (.bl l) dep env back s with
 | deep=>rw [hc] at hr;exact hr.elim
 | bad=>
   rw [hc] at hr
   obtain ⟨er,h1,h2,h3⟩:=hr
   exact .inl ⟨_,h2,er,h1,h2,h3⟩
 | ok s2=>
   rw [hc] at hr
   obtain ⟨rfl,G2,h2⟩:=hr
   have hr2:=h.after hC h2 hT hc
   refine .inr ⟨rfl,G2,hL.step h2,(assert_any hr2 hC.fuel hE hf hK cy b).mono fun e2 w2 he=>?_⟩
   rw [Rs.andThen_ok]
   unfold AsrP at he
   by_cases ht:testO C.F env y s2=some b
   ·rw [if_pos ht] at he ⊢
    obtain ⟨rfl,G3,h3⟩:=he
    exact ⟨⟨rfl,G3,(h0.trans h2).trans h3⟩,.inl rfl⟩
   ·rw [if_neg ht] at he ⊢
    refine ⟨he,.inr ?_⟩
    obtain ⟨er,_,h2,_⟩:=he
    exact ⟨_,h2⟩
theorem branch_any (hC:RcOk C) (d:Nat) (n:Nd) (hk:n.kind=52) (hB:∀ b,BlkC C d b):StmF 95 C (d+1) n:=fun env loc dep T w G s back A cap h hn hlo hK hd=>by
 obtain ⟨a,b,c,dd,h4⟩:=st_four hn.st (.inl hk)
 have hl4:n.kids.length=3+1:=by rw [h4.kids];rfl
 have e0:n.kids[0]?=some a:=by rw [h4.kids];rfl
 have e1:n.kids[1]?=some b:=by rw [h4.kids];rfl
 have e2:n.kids[2]?=some c:=by rw [h4.kids];rfl
 have e3:n.kids[3]?=some dd:=by rw [h4.kids];rfl
 have hxy:isExT (fstK n back)=true∧isExT (lstK n back)=true∧NdFit (fstK n back)∧NdFit (lstK n back):=by
  obtain ⟨q0,q3⟩:=four_ex hn.st (.inl hk)
  have f0:=hn.fit.kid e0
  have f3:=hn.fit.kid e3
  rw [← kid_eq e0] at f0
  rw [← kid_eq e3] at f3
  unfold fstK lstK
  rw [hl4]
  cases back with
  | false=>exact ⟨q0,q3,f0,f3⟩
  | true=>exact ⟨q3,q0,f3,f0⟩
 obtain ⟨Ax,cx,Ay,cy,kx,ky,hen⟩:=ends_of h.o hK hl4 (by omega) cap back
 obtain ⟨b0,o0,A1,c1,rfl,n1,k1⟩:=hK.n4 e1
 obtain ⟨b2,o2,A2,c2,eA,n2,k2⟩:=hK.n4 e2
 cases eA
 have b1H:=hn.kid e1 h4.b1 (by omega) (innerT_low (by omega) 1 _) (Nat.le_succ _)
 have b2H:=hn.kid e2 h4.b2 (by omega) (innerT_low (by omega) 2 _) (Nat.le_succ _)
 rw [exK_if hk] at hd ⊢
 have HOL:=kp (fun (Y:World) (hY:Below w.heap.size w Y)=>holds_any (h.below hY) hC.fuel hxy.1 hxy.2.2.1 kx cx)
 have HEN:=kp hen
 have key:∀ (bb:Bool) (i:Nat) (bi:Nd) (Ai:Option Addr) (ci:Nat),(if bb=true then 1 else 2)=i→n.kids[i]?=some bi→BlH C.P (env.map (·.v)) bi→NdsAt C.W0 Ai bi.kids→testO C.F env (fstK n back) s=some bb→∀ R:Ending→World→Prop,R=RunP C w G (match testO C.F env (fstK n back) s with
  | none=>.bad
  | some b=>(ex C.P.procs C.F d (.bl (ordK back (kid n (if b then 1 else 2)).kids)) dep env back ⟨s.k+1,s.m⟩).andThen fun s2=>if testO C.F env (lstK n back) s2=some b then .ok ⟨s2.k+1,s2.m⟩ else .bad)→
  ∀ (L:List (Nat × Array Value)) (w2 w3:World) (G3:Gs),Below w.heap.size w w2→RuS C w2 G w3 G3 ⟨s.k+1,s.m⟩→Bxs C w3 G3 L→Calls Tryz.prog 42 #[.pointer (some ⟨C.RB,0,none⟩),.agg (ndC bi Ai ci),.bool back] w3 fun e w'=>
    (∃ r,e=.panicked r∧R e w')∨(e=.returned (.tuple #[])∧∃ G',Bxs C w' G' L∧Calls Tryz.prog 131 #[.pointer (some ⟨C.RB,0,none⟩),.agg (ndC (lstK n back) Ay cy),.bool bb] w' fun e2 w2=>R e2 w2∧(e2=.returned (.tuple #[])∨∃ r,e2=.panicked r)):=by
  intro bb i bi Ai ci hi hbi hbH kK hto R hR L w2 w3 G3 hb2 hs3 hL
  rw [hto] at hd hR
  have hd:(ex C.P.procs C.F d (.bl (ordK back (kid n (if bb=true then 1 else 2)).kids)) dep env back ⟨s.k+1,s.m⟩).andThen (fun s2=>if testO C.F env (lstK n back) s2=some bb then .ok ⟨s2.k+1,s2.m⟩ else .bad)≠.deep:=hd
  have hR:R=RunP C w G ((ex C.P.procs C.F d (.bl (ordK back (kid n (if bb=true then 1 else 2)).kids)) dep env back ⟨s.k+1,s.m⟩).andThen fun s2=>if testO C.F env (lstK n back) s2=some bb then .ok ⟨s2.k+1,s2.m⟩ else .bad):=hR
  rw [hi,kid_eq hbi] at hd hR
  have hr3:RuH C w3 G3 ⟨s.k+1,s.m⟩ env loc dep T:=(h.below hb2).step hs3 h.mem
  refine (hB bi env loc dep T w3 G3 _ back Ai ci hr3 hbH hlo kK (andThen_deep hd)).mono fun e w' he=>?_
  rw [hR]
  exact brn_fin hC hr3 (hbH.tok back) hxy.2.1 hxy.2.2.2 ky he bb hL (hs3.pre hb2)
 have HN:=kp (fun (er:Int) (h0:er≠0) (w':World) (hb:Kep C w')=>show RunP C w G .bad (.panicked [{ v:=failV er,recovered:=false }]) w' from ⟨er,h0,rfl,hb⟩)
 have HB:=kp (blb w (Obj.cells (ndC n (some ⟨b0,o0,none⟩) cap) 26))
 have HRX:=kp (bxn w (ndC n (some ⟨b0,o0,none⟩) cap) 26)
 have HO:=kp h.o
 have HN1:=kp n1
 have HN2:=kp n2
 have HK1:=kp (fun bb=>key bb 1 b A1 c1)
 have HK2:=kp (fun bb=>key bb 2 c A2 c2)
 have HE1:=kp (And.intro e1 (And.intro e2 (And.intro b1H (And.intro b2H (And.intro k1 k2)))))
 have r1:(1:Int)<n.kids.length:=by omega
 have r2:(2:Int)<n.kids.length:=by omega
 obtain ⟨R,hR⟩:∃ R:Ending→World→Prop,R=RunP C w G (match testO C.F env (fstK n back) s with
  | none=>.bad
  | some b=>(ex C.P.procs C.F d (.bl (ordK back (kid n (if b then 1 else 2)).kids)) dep env back ⟨s.k+1,s.m⟩).andThen fun s2=>if testO C.F env (lstK n back) s2=some b then .ok ⟨s2.k+1,s2.m⟩ else .bad):=⟨_,rfl⟩
 rw [← hR]
 have HRR:=kp hR
 clear hd hen key h4 hl4 e0 e1 e2 e3 hxy n1 n2 k1 k2 kx ky b1H b2H hK hn h hlo hB hk hC hR
 generalize fstK n back=x at *
 generalize lstK n back=y at *
 have HO2:=kp (show ∃ o,testO C.F env x s=o from ⟨_,rfl⟩)
 go_enter Tryz.func95,Tryz.ntmps95
 go_upto_region 1 with fail
 generalize w.alloc _=W at HB HRX ⊢
 obtain ⟨a0,a1,a2,a3,_⟩:=HRX.out.four
 have hla:=HRX.out.lt
 go_wp2_with fail
 refine (HEN.out W HB.out).mono ?_
 rintro e1 w1 ⟨rfl,hb1⟩
 have HB1:=kp (bl2 HB.out hb1)
 have HR1:=kp (HRX.out.below hb1)
 clear a0 a1 a2 a3 hla hb1
 go_upto_region 2 with fail
 have HT2:=kp (tw2 w1 (ndC x Ax cx) (ndC y Ay cy) 26 26)
 generalize (w1.alloc _).alloc _=W2 at HT2 ⊢
 have HB2:=kp (bl2 HB1.out HT2.out.1)
 have HL2:=kp (show Bxs C W2 G [(w.heap.size,ndC n (some ⟨b0,o0,none⟩) cap),(w1.heap.size+1,ndC y Ay cy)] from fun p hp=>by
  have hs1:=HB1.out.size
  rcases List.mem_cons.1 hp with rfl | hp
  ·have h1:=HR1.out.below HT2.out.1
   exact ⟨h1,HO.out.newX (Nat.le_refl _) h1.lt⟩
  ·obtain rfl:=List.mem_singleton.1 hp
   exact ⟨HT2.out.2.2,HO.out.newX (show w.heap.size≤w1.heap.size+1 by omega) HT2.out.2.2.lt⟩)
 obtain ⟨x0,x1,x2,x3,_⟩:=HT2.out.2.1.four
 have hlx:=HT2.out.2.1.lt
 go_wp2_with fail
 refine (HOL.out W2 HB2.out).mono ?_
 intro e2 w3 h2
 obtain ⟨o,ho⟩:=HO2.out
 rw [ho] at h2
 cases o with
 | none=>
   obtain ⟨er,h0,rfl,hb⟩:=h2
   have HZ:=kp (show R (.panicked [{ v:=failV er,recovered:=false }]) w3 from by rw [HRR.out,ho];exact HN.out er h0 w3 hb)
   clear hb ho
   exact ⟨rfl,HZ.out⟩
 | some bb=>
   obtain ⟨rfl,G3,h2⟩:=h2
   have HL3:=kp (HL2.out.step h2)
   have HH:=kp (And.intro h2 ho)
   have HB3:=kp h2.o.bw
   obtain ⟨a0,a1,a2,a3,_⟩:=(HL3.out (w.heap.size,ndC n (some ⟨b0,o0,none⟩) cap) (by simp)).1.four
   have hla:=(HL3.out (w.heap.size,ndC n (some ⟨b0,o0,none⟩) cap) (by simp)).1.lt
   clear h2 ho x0 x1 x2 x3 hlx
   cases bb with
   | true=>
     obtain ⟨k0,k1,k2,k3⟩:=HN1.out.mono HB3.out.b
     rw [Nat.one_mul] at k0 k1 k2 k3
     have hlk:=block_lt_of_cell k0
     have HCL:=kp (HK1.out true rfl HE1.out.1 HE1.out.2.2.1 HE1.out.2.2.2.2.1 HH.out.2 R HRR.out _ W2 w3 G3 HB2.out HH.out.1 HL3.out)
     go_wp2_with fail
     refine HCL.out.mono ?_
     rintro e4 w4 (⟨r,rfl,hR⟩ | ⟨rfl,G4,hL4,hcall⟩)
     ·exact ⟨rfl,hR⟩
     ·have HCA:=kp hcall
      obtain ⟨y0,y1,y2,y3,_⟩:=(hL4 (w1.heap.size+1,ndC y Ay cy) (by simp)).1.four
      have hly:=(hL4 (w1.heap.size+1,ndC y Ay cy) (by simp)).1.lt
      clear hcall hL4 a0 a1 a2 a3 hla k0 k1 k2 k3 hlk
      go_wp2_with fail
      refine HCA.out.mono ?_
      rintro e5 w5 ⟨hR,(rfl | ⟨r,rfl⟩)⟩
      ·have HZ:=kp hR
       clear hR
       go_wp2_with fail
       go_end0
       exact HZ.out
      ·exact ⟨rfl,hR⟩
   | false=>
     obtain ⟨k0,k1,k2,k3⟩:=HN2.out.mono HB3.out.b
     have hlk:=block_lt_of_cell k0
     have HCL:=kp (HK2.out false rfl HE1.out.2.1 HE1.out.2.2.2.1 HE1.out.2.2.2.2.2 HH.out.2 R HRR.out _ W2 w3 G3 HB2.out HH.out.1 HL3.out)
     go_wp2_with fail
     refine HCL.out.mono ?_
     rintro e4 w4 (⟨r,rfl,hR⟩ | ⟨rfl,G4,hL4,hcall⟩)
     ·exact ⟨rfl,hR⟩
     ·have HCA:=kp hcall
      obtain ⟨y0,y1,y2,y3,_⟩:=(hL4 (w1.heap.size+1,ndC y Ay cy) (by simp)).1.four
      have hly:=(hL4 (w1.heap.size+1,ndC y Ay cy) (by simp)).1.lt
      clear hcall hL4 a0 a1 a2 a3 hla k0 k1 k2 k3 hlk
      go_wp2_with fail
      refine HCA.out.mono ?_
      rintro e5 w5 ⟨hR,(rfl | ⟨r,rfl⟩)⟩
      ·have HZ:=kp hR
       clear hR
       go_wp2_with fail
       go_end0
       exact HZ.out
      ·exact ⟨rfl,hR⟩
end
end Go.Proofs.YtgbomnibedefoaaGreatDoor
