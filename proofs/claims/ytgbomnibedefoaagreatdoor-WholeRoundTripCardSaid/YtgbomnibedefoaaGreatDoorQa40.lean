import Derived.Test.YtgbomnibedefoaaGreatDoorQa39
set_option maxRecDepth 100000
set_option maxHeartbeats 8000000
namespace Go.Proofs.YtgbomnibedefoaaGreatDoor
open Go.ChangeShapes Go.WideShapes Go.ChangeAt Go.RowKit Go.Sort
structure N4 (w:World) (b o:Nat) (x:Nd) (A:Option Addr) (c:Nat):Prop where
 k0:w.cell? ⟨b,o,none⟩=some (.int .u8 x.kind)
 k1:w.cell? ⟨b,o+1,none⟩=some (.int .i64 x.num)
 k2:w.cell? ⟨b,o+2,none⟩=some (.string x.name)
 k3:w.cell? ⟨b,o+3,none⟩=some (.slice A x.kids.length c)
theorem N4.mono {w w':World} {b o:Nat} {x:Nd} {A:Option Addr} {c:Nat} (h:N4 w b o x A c) (hb:Below w.heap.size w w'):N4 w' b o x A c:=⟨blc hb h.k0,blc hb h.k1,blc hb h.k2,blc hb h.k3⟩
theorem NdsAt.n4 {w:World} {A:Option Addr} {l:List Nd} (h:NdsAt w A l) {k:Nat} {x:Nd} (hk:l[k]?=some x):∃ b o A' c,A=some ⟨b,o,none⟩∧N4 w b (o+k*4) x A' c∧NdsAt w A' x.kids:=by
 have hlt:=(List.getElem?_eq_some_iff.1 hk).1
 obtain ⟨b,o,A',c,hA,_,k0,k1,k2,k3,hK⟩:=h.kid hlt
 rw [(List.getElem?_eq_some_iff.1 hk).2] at k0 k1 k2 k3 hK
 exact ⟨b,o,A',c,hA,⟨k0,k1,k2,k3⟩,hK⟩
theorem th3 (w:World) (c1 c2 c3:Array Value) (T1 T2 T3:TypeId):Below w.heap.size w (((w.alloc (Obj.cells c1 T1)).alloc (Obj.cells c2 T2)).alloc (Obj.cells c3 T3))∧Bx (((w.alloc (Obj.cells c1 T1)).alloc (Obj.cells c2 T2)).alloc (Obj.cells c3 T3)) w.heap.size c1∧Bx (((w.alloc (Obj.cells c1 T1)).alloc (Obj.cells c2 T2)).alloc (Obj.cells c3 T3)) (w.heap.size+1) c2∧Bx (((w.alloc (Obj.cells c1 T1)).alloc (Obj.cells c2 T2)).alloc (Obj.cells c3 T3)) (w.heap.size+1+1) c3:=by
 obtain ⟨h1,h2,h3⟩:=tw2 w c1 c2 T1 T2
 have hz:((w.alloc (Obj.cells c1 T1)).alloc (Obj.cells c2 T2)).heap.size=w.heap.size+1+1:=by simp
 have h4:=blb ((w.alloc (Obj.cells c1 T1)).alloc (Obj.cells c2 T2)) (Obj.cells c3 T3)
 refine ⟨bls h1 h1.size h4,h2.below h4,h3.below h4,?_⟩
 have:=bxn ((w.alloc (Obj.cells c1 T1)).alloc (Obj.cells c2 T2)) c3 T3
 rwa [hz] at this
theorem set44 {w:World} {b1 b2:Nat} {c1 c2:Array Value} (h1:Bx w b1 c1) (h2:Bx w b2 c2) (hc1:c1.size=4) (hc2:c2.size=4) (hne:b1≠b2) (u0 u1 u2 u3 v0 v1 v2 v3:Value) (B:Nat) {W:World} (hB:Below B W w) (l1:B≤b1) (l2:B≤b2) :
  Bx (((((((((w.setCell ⟨b1,0,none⟩ u0).setCell ⟨b1,1,none⟩ u1).setCell ⟨b1,2,none⟩ u2).setCell ⟨b1,3,none⟩ u3).setCell ⟨b2,0,none⟩ v0).setCell ⟨b2,1,none⟩ v1).setCell ⟨b2,2,none⟩ v2).setCell ⟨b2,3,none⟩ v3).drew) b1 #[u0,u1,u2,u3]∧
  Bx (((((((((w.setCell ⟨b1,0,none⟩ u0).setCell ⟨b1,1,none⟩ u1).setCell ⟨b1,2,none⟩ u2).setCell ⟨b1,3,none⟩ u3).setCell ⟨b2,0,none⟩ v0).setCell ⟨b2,1,none⟩ v1).setCell ⟨b2,2,none⟩ v2).setCell ⟨b2,3,none⟩ v3).drew) b2 #[v0,v1,v2,v3]∧
  Below B W (((((((((w.setCell ⟨b1,0,none⟩ u0).setCell ⟨b1,1,none⟩ u1).setCell ⟨b1,2,none⟩ u2).setCell ⟨b1,3,none⟩ u3).setCell ⟨b2,0,none⟩ v0).setCell ⟨b2,1,none⟩ v1).setCell ⟨b2,2,none⟩ v2).setCell ⟨b2,3,none⟩ v3).drew):=by
 obtain ⟨a0,a1,a2,a3,rfl⟩:=arr4 hc1
 obtain ⟨d0,d1,d2,d3,rfl⟩:=arr4 hc2
 have f1:=Fr.set4 w b1 u0 u1 u2 u3
 have k1:=h1.set4 u0 u1 u2 u3
 have k2:=h2.fr f1 fun e=>hne e.symm
 have f2:=Fr.set4 ((((w.setCell ⟨b1,0,none⟩ u0).setCell ⟨b1,1,none⟩ u1).setCell ⟨b1,2,none⟩ u2).setCell ⟨b1,3,none⟩ u3) b2 v0 v1 v2 v3
 have k3:=k1.fr f2 hne
 have k4:=k2.set4 v0 v1 v2 v3
 have hs:=hB.size
 exact ⟨k3.below (bld (Below.refl _ _)),k4.below (bld (Below.refl _ _)),bld (f2.toBelow (f1.toBelow hB (Nat.le_trans (by omega) (Nat.le_of_lt h1.lt)) fun k e=>by omega) (Nat.le_trans (Nat.le_trans l1 (Nat.le_of_lt h1.lt)) f1.size) fun k e=>by omega)⟩
where
 arr4 {c:Array Value} (h:c.size=4):∃ a b d e,c=#[a,b,d,e]:=⟨c[0],c[1],c[2],c[3],by
  apply Array.ext
  ·simp [h]
  ·intro i h1 h2
   have:i=0∨i=1∨i=2∨i=3:=by omega
   rcases this with rfl | rfl | rfl | rfl<;>rfl⟩
def EndP (x y:Nd) (A A':Option Addr) (c c':Nat) (w:World) (e:Ending) (w':World):Prop:=e=.returned (.tuple #[.agg (ndC x A c),.agg (ndC y A' c')])∧Below w.heap.size w w'
theorem ends_any (n:Nd) (m:Nat) (hl:n.kids.length=m+1) (hm:m≤100000) {b o cap:Nat} {x y:Nd} {Ax Ay:Option Addr} {cx cy:Nat} (w:World) (hx:N4 w b o x Ax cx) (hy:N4 w b (o+m*4) y Ay cy) (back:Bool) :
  Calls Tryz.prog 129 #[.agg (ndC n (some ⟨b,o,none⟩) cap),.bool back] w (match back with | false=>EndP x y Ax Ay cx cy w | true=>EndP y x Ay Ax cy cx w):=by
 have HX:=kp (fun (Y:World) (hY:Below w.heap.size w Y)=>hx.mono hY)
 have HY:=kp (fun (Y:World) (hY:Below w.heap.size w Y)=>hy.mono hY)
 have HT:=kp (th3 w (ndC n (some ⟨b,o,none⟩) cap) #[.int .u8 0,.int .i64 0,.string ⟨#[]⟩,.slice none 0 0] #[.int .u8 0,.int .i64 0,.string ⟨#[]⟩,.slice none 0 0] 26 26 26)
 unfold ndC at HT ⊢
 rw [hl] at HT ⊢
 have r0:(0:Int)<(m:Int)+1:=by omega
 have r1:(0:Int)≤(m:Int):=by omega
 have r2:(m:Int)<(m:Int)+1:=by omega
 have q1:IntKind.i64.wrap (m:Int)=m:=by rw [IntKind.wrap_i64];omega
 clear hx hy hl
 go_enter Tryz.func129,Tryz.ntmps129
 go_upto_region 1 with fail
 generalize ((w.alloc _).alloc _).alloc _=W at HT ⊢
 obtain ⟨a0,a1,a2,a3,_⟩:=HT.out.2.1.four
 have hla:=HT.out.2.1.lt
 obtain ⟨k0,k1,k2,k3⟩:=HX.out W HT.out.1
 obtain ⟨l0,l1,l2,l3⟩:=HY.out W HT.out.1
 have hlb:=block_lt_of_cell k0
 have HW1:=kp (HT.out.2.2)
 have HSZ:=kp (show w.heap.size+1+1<W.heap.size from HT.out.2.2.2.lt)
 go_cut [6,7] (fun v6 v7 wc=>∃ p q:Nat,v6=.pointer (some ⟨p,0,none⟩)∧v7=.pointer (some ⟨q,0,none⟩)∧Hid (Bx wc p (ndC x Ax cx)∧Bx wc q (ndC y Ay cy)∧Below W.heap.size W wc∧W.heap.size≤p∧W.heap.size≤q))
 case first=>
  go_region
  all_goals
   go_wp2_with fail
   go_meet
   first
   | exact ⟨_,_,rfl,rfl,kp (by
     have h1:=tw2 W (ndC x Ax cx) (ndC y Ay cy) 26 26
     exact ⟨h1.2.1.below (bld (Below.refl _ _)),h1.2.2.below (bld (Below.refl _ _)),bld h1.1,Nat.le_refl _,Nat.le_succ _⟩)⟩
   | exact ⟨_,_,rfl,rfl,kp (by
     have h1:=tw2 W (ndC y Ay cy) (ndC x Ax cx) 26 26
     exact ⟨h1.2.2.below (bld (Below.refl _ _)),h1.2.1.below (bld (Below.refl _ _)),bld h1.1,Nat.le_succ _,Nat.le_refl _⟩)⟩
 case rest=>
  obtain ⟨p,q,rfl,rfl,HC⟩:=hcut
  have HW2:=kp (And.intro (HW1.out.1.below HC.out.2.2.1) (And.intro (HW1.out.2.below HC.out.2.2.1) (bl2 HT.out.1 HC.out.2.2.1)))
  clear a0 a1 a2 a3 hla k0 k1 k2 k3 l0 l1 l2 l3 hlb
  obtain ⟨e0,e1,e2,e3,_⟩:=HC.out.1.four
  obtain ⟨g0,g1,g2,g3,_⟩:=HC.out.2.1.four
  have hle:=HC.out.1.lt
  have hlg:=HC.out.2.1.lt
  obtain ⟨z0,z1,z2,z3,zf0,zf1,zf2,zf3⟩:=HW2.out.1.four
  obtain ⟨y0,y1,y2,y3,yf0,yf1,yf2,yf3⟩:=HW2.out.2.1.four
  have hz:=HW2.out.1.lt
  have hy:=HW2.out.2.1.lt
  have n1:¬ p=w.heap.size+1:=by have:=HC.out.2.2.2.1;have:=HSZ.out;omega
  have n2:¬ p=w.heap.size+1+1:=by have:=HC.out.2.2.2.1;have:=HSZ.out;omega
  have n3:¬ q=w.heap.size+1:=by have:=HC.out.2.2.2.2;have:=HSZ.out;omega
  have n4:¬ q=w.heap.size+1+1:=by have:=HC.out.2.2.2.2;have:=HSZ.out;omega
  have n5:¬ w.heap.size+1=p:=fun e=>n1 e.symm
  have n6:¬ w.heap.size+1+1=p:=fun e=>n2 e.symm
  have n7:¬ w.heap.size+1=q:=fun e=>n3 e.symm
  have n8:¬ w.heap.size+1+1=q:=fun e=>n4 e.symm
  cases back with
  | false=>
    go_wp2_with fail
    go_region
    have H:=kp (set44 HW2.out.1 HW2.out.2.1 rfl rfl (by omega) (.int .u8 x.kind) (.int .i64 x.num) (.string x.name) (.slice Ax x.kids.length cx) (.int .u8 y.kind) (.int .i64 y.num) (.string y.name) (.slice Ay y.kids.length cy) w.heap.size HW2.out.2.2 (by omega) (by omega))
    generalize World.drew _=WF at H ⊢
    obtain ⟨h0,h1,h2,h3,_⟩:=H.out.1.four
    obtain ⟨i0,i1,i2,i3,_⟩:=H.out.2.1.four
    go_wp2_with fail
    exact bodyPost_ret (v:=.tuple #[.agg (ndC x Ax cx),.agg (ndC y Ay cy)]) (by simp [results,Tryz.results129,go_sem,h0,h1,h2,h3,i0,i1,i2,i3]) rfl ⟨rfl,H.out.2.2⟩
  | true=>
    go_wp2_with fail
    go_region
    have H:=kp (set44 HW2.out.1 HW2.out.2.1 rfl rfl (by omega) (.int .u8 y.kind) (.int .i64 y.num) (.string y.name) (.slice Ay y.kids.length cy) (.int .u8 x.kind) (.int .i64 x.num) (.string x.name) (.slice Ax x.kids.length cx) w.heap.size HW2.out.2.2 (by omega) (by omega))
    generalize World.drew _=WF at H ⊢
    obtain ⟨h0,h1,h2,h3,_⟩:=H.out.1.four
    obtain ⟨i0,i1,i2,i3,_⟩:=H.out.2.1.four
    go_wp2_with fail
    exact bodyPost_ret (v:=.tuple #[.agg (ndC y Ay cy),.agg (ndC x Ax cx)]) (by simp [results,Tryz.results129,go_sem,h0,h1,h2,h3,i0,i1,i2,i3]) rfl ⟨rfl,H.out.2.2⟩
structure RuH (C:Rc) (w:World) (G:Gs) (s:St) (env:List Ev) (loc dep:Nat) (T:List (Nat × Int)):Prop where
 o:RuO C w G s
 last:∃ f,G.fs[G.fs.length - 1]?=some f∧f.env=env∧f.loc=loc
 dep:G.fs.length=dep+1
 ty:EOk T env
 mem:MOk T s.m
section
variable {C:Rc} {w w1:World} {G G1:Gs} {s s1:St} {env:List Ev} {loc dep:Nat} {T:List (Nat × Int)}
theorem RuH.below (h:RuH C w G s env loc dep T) {w':World} (hb:Below w.heap.size w w'):RuH C w' G s env loc dep T:=⟨h.o.below hb,h.last,h.dep,h.ty,h.mem⟩
theorem RuH.step (h:RuH C w G s env loc dep T) (hs:RuS C w G w1 G1 s1) (hm:MOk T s1.m):RuH C w1 G1 s1 env loc dep T:=by
 have hl:G1.fs.length=G.fs.length:=by have:=congrArg List.length hs.fs;simpa using this
 refine ⟨hs.o,?_,hl.trans h.dep,h.ty,hm⟩
 obtain ⟨f,h1,h2,h3⟩:=h.last
 have h4:(G1.fs.map frS)[G.fs.length - 1]?=some (frS f):=by rw [hs.fs,List.getElem?_map,h1];rfl
 rw [List.getElem?_map] at h4
 obtain ⟨f',h5,h6⟩:=Option.map_eq_some_iff.1 h4
 unfold frS at h6
 refine ⟨f',by rw [hl];exact h5,?_,?_⟩
 ·rw [← h2];exact congrArg Prod.fst h6
 ·rw [← h3];exact congrArg Prod.snd h6
theorem RuH.lens (h:RuH C w G s env loc dep T):∀ c∈s.m.mem,c.length≤100000:=fun c hc=>by have:=h.mem.ln c hc;omega
def testO (F:Nat) (env:List Ev) (x:Nd) (s:St):Option Bool:=if s.k<F then (evT (look env s.m.mem) x).map fun v=>decide (v≠0) else none
theorem testT_O (F:Nat) (env:List Ev) (x:Nd) (s:St) (f:Bool→St→Rs):testT F env x s f=match testO F env x s with | some b=>f b ⟨s.k+1,s.m⟩ | none=>.bad:=by
 unfold testT testO stepS
 by_cases h:s.k<F
 ·rw [if_pos h,if_pos h]
  cases evT (look env s.m.mem) x with
  | none=>rfl
  | some v=>rfl
 ·rw [if_neg h,if_neg h]
def HolP (C:Rc) (w:World) (G:Gs) (s:St) (o:Option Bool) (e:Ending) (w':World):Prop:=match o with
 | some b=>e=.returned (.bool b)∧∃ G',RuS C w G w' G' ⟨s.k+1,s.m⟩
 | none=>PanP C e w'
def ValP (C:Rc) (w:World) (o:Option Int) (e:Ending) (w':World):Prop:=match o with
 | some v=>e=.returned (.int .i64 v)∧Below w.heap.size w w'
 | none=>PanP C e w'
theorem NdsAt.run (h:RuO C w G s) {A:Option Addr} {l:List Nd} (hK:NdsAt C.W0 A l):NdsAt w A l:=hK.mono h.bw.b
theorem RuH.lkc (h:RuH C w G s env loc dep T):LookC 151 G.SB (look env s.m.mem) (fun W=>StO C.B W G s.m):=by
 obtain ⟨f,h1,h2,_⟩:=h.last
 rw [← h2]
 exact lkc_of h1 h.lens
def TstV (o:Option Int) (b:Bool) (er:Int):Prop:=match o with | some v=>er=0∧b=decide (v≠0) | none=>er≠0
theorem TstP.v {o:Option Int} {w w':World} {e:Ending} (h:TstP o w e w'):∃ b er,e=.returned (.tuple #[.bool b,.int .i64 er])∧TstV o b er∧Below w.heap.size w w':=by
 cases o with
 | none=>obtain ⟨⟨a,er,h1,h2⟩,h3⟩:=h;exact ⟨a,er,h2,h1,h3⟩
 | some v=>exact ⟨_,_,h.1,⟨rfl,rfl⟩,h.2⟩
def EvlV (o:Option Int) (u:Int) (er:Int):Prop:=match o with | some v=>er=0∧u=v | none=>er≠0
theorem EvlP.v {o:Option Int} {w w':World} {e:Ending} (h:EvlP o w e w'):∃ u er,e=.returned (.tuple #[.int .i64 u,.int .i64 er])∧EvlV o u er∧Below w.heap.size w w':=by
 cases o with
 | none=>obtain ⟨⟨a,er,h1,h2⟩,h3⟩:=h;exact ⟨a,er,h2,h1,h3⟩
 | some v=>exact ⟨_,_,h.1,⟨rfl,rfl⟩,h.2⟩
structure RdH (C:Rc) (G:Gs) (s:St) (env:List Ev) (x:Nd) (A:Option Addr) (cap b:Nat) (w:World):Prop where
 bx:Bx w b (ndC x A cap)
 c6:w.cell? ⟨C.RB,6,none⟩=some (.pointer (some ⟨G.SB,0,none⟩))
 lt:C.RB<w.heap.size
theorem RdH.below {x:Nd} {A:Option Addr} {cap b:Nat} (h:RdH C G s env x A cap b w) {w':World} (hb:Below w.heap.size w w'):RdH C G s env x A cap b w':=⟨h.bx.below hb,blc hb h.c6,Nat.lt_of_lt_of_le h.lt hb.size⟩
theorem holds_any (h:RuH C w G s env loc dep T) (hF:C.F≤1000000) {x:Nd} (hE:isExT x=true) (hf:NdFit x) {A:Option Addr} (hK:NdsAt C.W0 A x.kids) (cap:Nat) :
  Calls Tryz.prog 130 #[.pointer (some ⟨C.RB,0,none⟩),.agg (ndC x A cap)] w (HolP C w G s (testO C.F env x s)):=by
 have HB:=kp (blb w (Obj.cells (ndC x A cap) 26))
 have HRX:=kp (bxn w (ndC x A cap) 26)
 have HST:=kp (fun (Y:World) (hY:Below w.heap.size w Y)=>step_any (h.o.below hY) hF)
 have HX:=kp (fun (Y:World) (hY:Below w.heap.size w Y) (hbx:Bx Y w.heap.size (ndC x A cap)) (w1:World) (G1:Gs) (hs:RuS C Y G w1 G1 ⟨s.k+1,s.m⟩)=>show RdH C G1 s env x A cap w.heap.size w1∧RuS C w G w1 G1 ⟨s.k+1,s.m⟩∧∀ Z:World,Below w1.heap.size w1 Z→Calls Tryz.prog 150 #[.agg (ndC x A cap),lkV 151 G1.SB] Z (TstP (evT (look env s.m.mem) x) Z) from by
  have hr:=(h.below hY).step hs h.mem
  refine ⟨⟨hs.bx hbx (h.o.newX (Nat.le_refl _) hbx.lt),hs.o.cells.2.2.1,hs.o.cells.2.2.2.2.2.2.2⟩,hs.pre hY,fun Z hZ=>?_⟩
  exact evTest_any hr.lkc hE hf A cap Z (hr.o.o.below hZ) (NdsAt.run (hr.o.below hZ) hK))
 have hmf:∀ (fn:Fn) (first cap:Array Value) (w:World),(Instr.makeFunc fn first cap).run Tryz.prog w=.ok (.func fn first cap) w:=fun _ _ _ _=>rfl
 by_cases hk:s.k<C.F
 ·have HE:=kp (show testO C.F env x s=(evT (look env s.m.mem) x).map fun v=>decide (v≠0) from if_pos hk)
  rw [show stepR C.F s=.ok ⟨s.k+1,s.m⟩ from if_pos hk] at HST
  generalize evT (look env s.m.mem) x=o at HE HX
  rw [HE.out]
  clear h hE hf hK hk hF HE
  go_enter Tryz.func130,Tryz.ntmps130
  go_upto_region 1 with fail
  generalize w.alloc _=W at HB HRX ⊢
  go_wp2_with fail
  refine (HST.out W HB.out).mono ?_
  rintro e1 w1 ⟨rfl,G1,h1⟩
  have HY:=kp (HX.out W HB.out HRX.out w1 G1 h1)
  clear h1
  obtain ⟨a0,a1,a2,a3,_⟩:=HY.out.1.bx.four
  have hla:=HY.out.1.bx.lt
  have y6:=HY.out.1.c6
  have hlr:=HY.out.1.lt
  have HC:=kp (HY.out.2.2 w1.drew (bld (Below.refl _ _)))
  have hbP:=Below.refl w1.heap.size w1
  go_upto_region 2 with fail
  go_cut [5,6] (fun v5 v6 wc=>∃ (b:Bool) (er:Int),v5=.bool b∧v6=.int .i64 er∧Hid (TstV o b er∧Below w1.heap.size w1 wc))
  case first=>
   go_region_law (first
    | (go_simp;go_at_call 150;(with_reducible refine Calls.mono HC.out ?_);rintro e2 w2 h2;obtain ⟨b,er,rfl,ht,hb2⟩:=h2.v;have HB2:=kp (And.intro ht (bl2 (W:=w1) (bld hbP) hb2));clear h2 ht hb2;dsimp only)
    | fail)
   all_goals
    go_simp
    go_wp2_with fail
    go_meet
    exact ⟨_,_,rfl,rfl,HB2⟩
  case rest=>
   obtain ⟨b,er,rfl,rfl,HB2⟩:=hcut
   have HCK:=kp (check_any (.pointer (some ⟨C.RB,0,none⟩)) er wc)
   have HS2:=kp (HY.out.2.1.post HB2.out.2)
   clear a0 a1 a2 a3 hla y6 hlr
   go_wp2_with fail
   refine HCK.out.mono ?_
   rintro e3 w3 ⟨⟨h0,rfl⟩ | ⟨h0,rfl⟩,rfl⟩
   ·have HE:=kp (show ∃ v,o=some v∧b=decide (v≠0) from by
     cases o with
     | none=>exact absurd h0 HB2.out.1
     | some v=>exact ⟨v,rfl,HB2.out.1.2⟩)
    clear h0
    go_wp2_with fail
    go_ret
    obtain ⟨v,rfl,rfl⟩:=HE.out
    exact ⟨rfl,_,HS2.out⟩
   ·have HE:=kp (show o=none from by
     cases o with
     | none=>rfl
     | some v=>exact absurd HB2.out.1.1 h0)
    obtain rfl:=HE.out
    exact ⟨rfl,er,h0,rfl,HS2.out.o.bw⟩
 ·have HE:=kp (show testO C.F env x s=none from if_neg hk)
  rw [show stepR C.F s=.bad from if_neg hk] at HST
  rw [HE.out]
  clear h hE hf hK hk hF HE HX
  go_enter Tryz.func130,Tryz.ntmps130
  go_upto_region 1 with fail
  generalize w.alloc _=W at HB HRX ⊢
  go_wp2_with fail
  refine (HST.out W HB.out).mono ?_
  rintro e1 w1 ⟨er,h0,rfl,hb⟩
  exact ⟨rfl,er,h0,rfl,hb⟩
theorem value_any (h:RuH C w G s env loc dep T) {x:Nd} (hE:isExT x=true) (hf:NdFit x) {A:Option Addr} (hK:NdsAt C.W0 A x.kids) (cap:Nat) :
  Calls Tryz.prog 132 #[.pointer (some ⟨C.RB,0,none⟩),.agg (ndC x A cap)] w (ValP C w (evT (look env s.m.mem) x)):=by
 have HB:=kp (blb w (Obj.cells (ndC x A cap) 26))
 have HRX:=kp (bxn w (ndC x A cap) 26)
 have HX:=kp (fun (Y:World) (hY:Below w.heap.size w Y)=>show (Y.cell? ⟨C.RB,6,none⟩=some (.pointer (some ⟨G.SB,0,none⟩))∧C.RB<Y.heap.size)∧RuS C w G Y G s∧∀ Z:World,Below Y.heap.size Y Z→Calls Tryz.prog 152 #[.agg (ndC x A cap),lkV 151 G.SB] Z (EvlP (evT (look env s.m.mem) x) Z) from by
  have hr:=h.below hY
  refine ⟨⟨hr.o.cells.2.2.1,hr.o.cells.2.2.2.2.2.2.2⟩,RuS.refl h.o hY,fun Z hZ=>?_⟩
  exact evExpr_any hr.lkc hE hf A cap Z (hr.o.o.below hZ) (NdsAt.run (hr.o.below hZ) hK))
 have hmf:∀ (fn:Fn) (first cap:Array Value) (w:World),(Instr.makeFunc fn first cap).run Tryz.prog w=.ok (.func fn first cap) w:=fun _ _ _ _=>rfl
 generalize evT (look env s.m.mem) x=o at HX ⊢
 clear h hE hf hK
 go_enter Tryz.func132,Tryz.ntmps132
 go_upto_region 1 with fail
 generalize w.alloc _=w1 at HB HRX ⊢
 have HY:=kp (HX.out w1 HB.out)
 obtain ⟨a0,a1,a2,a3,_⟩:=HRX.out.four
 have hla:=HRX.out.lt
 obtain ⟨⟨y6,hlr⟩,_⟩:=HY.out
 have HC:=kp (HY.out.2.2 w1.drew (bld (Below.refl _ _)))
 have hbP:=Below.refl w1.heap.size w1
 go_cut [5,6] (fun v5 v6 wc=>∃ (b:Int) (er:Int),v5=.int .i64 b∧v6=.int .i64 er∧Hid (EvlV o b er∧Below w1.heap.size w1 wc))
 case first=>
  go_region_law (first
   | (go_simp;go_at_call 152;(with_reducible refine Calls.mono HC.out ?_);rintro e2 w2 h2;obtain ⟨b,er,rfl,ht,hb2⟩:=h2.v;have HB2:=kp (And.intro ht (bl2 (W:=w1) (bld hbP) hb2));clear h2 ht hb2;dsimp only)
   | fail)
  all_goals
   go_simp
   go_wp2_with fail
   go_meet
   exact ⟨_,_,rfl,rfl,HB2⟩
 case rest=>
  obtain ⟨b,er,rfl,rfl,HB2⟩:=hcut
  have HCK:=kp (check_any (.pointer (some ⟨C.RB,0,none⟩)) er wc)
  have HS2:=kp (HY.out.2.1.post HB2.out.2)
  clear a0 a1 a2 a3 hla y6 hlr
  go_wp2_with fail
  refine HCK.out.mono ?_
  rintro e3 w3 ⟨⟨h0,rfl⟩ | ⟨h0,rfl⟩,rfl⟩
  ·have HE:=kp (show o=some b from by
    cases o with
    | none=>exact absurd h0 HB2.out.1
    | some v=>rw [HB2.out.1.2])
   clear h0
   obtain rfl:=HE.out
   go_wp2_with fail
   go_ret
   exact ⟨rfl,bl2 HB.out HB2.out.2⟩
  ·have HE:=kp (show o=none from by
    cases o with
    | none=>rfl
    | some v=>exact absurd HB2.out.1.1 h0)
   obtain rfl:=HE.out
   exact ⟨rfl,er,h0,rfl,HS2.out.o.bw⟩
def AsrP (C:Rc) (w:World) (G:Gs) (s:St) (o:Option Bool) (want:Bool) (e:Ending) (w':World):Prop:=if o=some want then e=.returned (.tuple #[])∧∃ G',RuS C w G w' G' ⟨s.k+1,s.m⟩ else PanP C e w'
theorem HolP.pre {w0:World} {o:Option Bool} {e:Ending} {w':World} (hb:Below w0.heap.size w0 w) (h:HolP C w G s o e w'):HolP C w0 G s o e w':=by
 cases o with
 | some b=>obtain ⟨h1,G',h2⟩:=h;exact ⟨h1,G',h2.pre hb⟩
 | none=>exact h
theorem assert_any (h:RuH C w G s env loc dep T) (hF:C.F≤1000000) {x:Nd} (hE:isExT x=true) (hf:NdFit x) {A:Option Addr} (hK:NdsAt C.W0 A x.kids) (cap:Nat) (want:Bool) :
  Calls Tryz.prog 131 #[.pointer (some ⟨C.RB,0,none⟩),.agg (ndC x A cap),.bool want] w (AsrP C w G s (testO C.F env x s) want):=by
 have HB:=kp (blb w (Obj.cells (ndC x A cap) 26))
 have HRX:=kp (bxn w (ndC x A cap) 26)
 have HX:=kp (fun (Y:World) (hY:Below w.heap.size w Y)=>holds_any (h.below hY) hF hE hf hK cap)
 have HF:=kp (fun Y=>fail_any 15 (by omega) Y)
 generalize testO C.F env x s=o at HX ⊢
 clear h hE hf hK hF
 go_enter Tryz.func131,Tryz.ntmps131
 go_upto_region 1 with fail
 generalize w.alloc _=w1 at HB HRX ⊢
 obtain ⟨a0,a1,a2,a3,_⟩:=HRX.out.four
 have hla:=HRX.out.lt
 go_wp2_with fail
 refine (HX.out w1 HB.out).mono ?_
 intro e2 w2 h2
 cases o with
 | none=>
   obtain ⟨er,h0,rfl,hb⟩:=h2
   have HZ:=kp (show AsrP C w G s none want (.panicked [{ v:=failV er,recovered:=false }]) w2 from by unfold AsrP;rw [if_neg (by simp)];exact ⟨er,h0,rfl,hb⟩)
   clear hb
   exact ⟨rfl,HZ.out⟩
 | some b=>
   obtain ⟨rfl,G2,h2⟩:=h2
   have HS:=kp (h2.pre HB.out)
   clear h2 a0 a1 a2 a3 hla
   by_cases hbw:b=want
   ·subst hbw
    have HZ:=kp (show AsrP C w G s (some b) b (.returned (.tuple #[])) w2 from by unfold AsrP;rw [if_pos rfl];exact ⟨rfl,_,HS.out⟩)
    have q:(b != b)=false:=by cases b<;>rfl
    cases b with
    | true=>
      go_wp2_with fail
      go_end0
      exact HZ.out
    | false=>
      go_wp2_with fail
      go_end0
      exact HZ.out
   ·have HZ:=kp (show AsrP C w G s (some b) want (.panicked [{ v:=failV 15,recovered:=false }]) w2 from by unfold AsrP;rw [if_neg (fun e=>hbw (Option.some.inj e))];exact ⟨15,by omega,rfl,HS.out.o.bw⟩)
    cases b with
    | true=>
      cases want with
      | true=>exact absurd rfl hbw
      | false=>
        clear hbw
        go_wp2_with fail
        refine (HF.out _).mono ?_
        rintro e w' ⟨rfl,rfl⟩
        exact ⟨rfl,HZ.out⟩
    | false=>
      cases want with
      | false=>exact absurd rfl hbw
      | true=>
        clear hbw
        go_wp2_with fail
        refine (HF.out _).mono ?_
        rintro e w' ⟨rfl,rfl⟩
        exact ⟨rfl,HZ.out⟩
end
structure StH (P:Pg) (vis:List Vd) (n:Nd):Prop where
 st:isStT n=true
 vc:vcT P n vis=0
 rj:∀ z∈preT n,rjB z=true
 fit:NdFit n
 sz:szT n≤2000
 bd:vis.length+dpT n≤1000
structure BlH (P:Pg) (vis:List Vd) (b:Nd):Prop where
 bl:isBlT b=true
 vc:vcT P b vis=0
 rj:∀ z∈preT b,rjB z=true
 fit:NdFit b
 sz:szT b≤2000
 bd:vis.length+dpT b≤1000
theorem StH.sok {P:Pg} {vis:List Vd} {n:Nd} (h:StH P vis n):SOk P.procs vis n:=sok_of _ n vis (Nat.le_refl _) h.fit h.st h.vc h.rj
theorem BlH.stm {P:Pg} {vis:List Vd} {b y:Nd} (h:BlH P vis b) (hy:y∈b.kids):StH P vis y:=by
 obtain ⟨i,hi⟩:=List.getElem?_of_mem hy
 exact ⟨blT_kids h.bl y hy,blk_vc h.bl h.vc hy,preT_kid hy h.rj,h.fit.kid hi,by have:=szT_kid hy;have:=h.sz;omega,by have:=dpT_kid hy;have:=h.bd;omega⟩
theorem BlH.tok {P:Pg} {vis:List Vd} {b:Nd} (h:BlH P vis b) (back:Bool):TOk P.procs vis (.bl (ordK back b.kids)):=fun _ hy=>(h.stm (mem_ord hy)).sok
theorem BlH.len {P:Pg} {vis:List Vd} {b:Nd} (h:BlH P vis b):b.kids.length≤2000:=by have:=szL_len b.kids;have:=szT_eq b;have:=h.sz;omega
theorem StH.kid {P:Pg} {vis vis':List Vd} {n b:Nd} (h:StH P vis n) {i:Nat} (hi:n.kids[i]?=some b) (hb:isBlT b=true) (hk:n.kind≠50∧n.kind≠51) (hv:innerT n i vis=vis') (hl:vis'.length≤vis.length+1):BlH P vis' b:=by
 have hy:=List.mem_of_getElem? hi
 have hvc:=vc_kid h.vc hk hi
 rw [hv] at hvc
 exact ⟨hb,hvc,preT_kid hy h.rj,h.fit.kid hi,by have:=szT_kid hy;have:=h.sz;omega,by have:=dpT_kid hy;have:=h.bd;omega⟩
structure RcOk (C:Rc):Prop where
 ok:PgOk C.P
 fit:PgFit C.P
 at_:PgAt C.W0 C.Av C.Ap C.Am C.P
 fuel:C.F≤1000000
theorem RcOk.proc {C:Rc} (h:RcOk C) {p:Pc} (hp:p∈C.P.procs):BlH C.P p.params p.body:=by
 have hv:=val_bnd h.ok.v
 have hc:=h.ok.c
 unfold chkN at hc
 obtain ⟨j,hj⟩:=List.getElem?_of_mem hp
 have hjl:=(List.getElem?_eq_some_iff.1 hj).1
 have h0:=procN_0 (Nat.le_refl _) (show procN C.P C.P.procs.length=0 by omega) j hjl p hj
 unfold pcN at h0
 obtain ⟨_,h8,_,hb⟩:=hv.p p hp
 exact ⟨hb.b,by omega,h.ok.r p.body (.inr ⟨p,hp,rfl⟩),(h.fit.p p hp).b,hb.s,by have:=hb.d;omega⟩
theorem RcOk.main {C:Rc} (h:RcOk C):BlH C.P C.P.vars C.P.main:=by
 have hv:=val_bnd h.ok.v
 have hc:=h.ok.c
 unfold chkN at hc
 exact ⟨hv.m.b,by omega,h.ok.r C.P.main (.inl rfl),h.fit.m,hv.m.s,by have:=hv.m.d;have:=hv.lv;omega⟩
section
variable {C:Rc} {w w1:World} {G G1:Gs} {s s1:St} {env:List Ev} {loc dep:Nat} {T:List (Nat × Int)}
theorem RuH.after (hC:RcOk C) (h:RuH C w G s env loc dep T) (hs:RuS C w G w1 G1 s1) {d:Nat} {t:Tk} {back:Bool} (hT:TOk C.P.procs (env.map (·.v)) t) (he:ex C.P.procs C.F d t dep env back s=.ok s1):RuH C w1 G1 s1 env loc dep T:=
 h.step hs (rev_all (hC.ok.pok hC.fit) d t dep env back s s1 T hT h.ty h.mem he).1
def StmC (C:Rc) (d:Nat) (n:Nd):Prop:=∀ (env:List Ev) (loc dep:Nat) (T:List (Nat × Int)) (w:World) (G:Gs) (s:St) (back:Bool) (A:Option Addr) (cap:Nat),RuH C w G s env loc dep T→StH C.P (env.map (·.v)) n→loc≤env.length→NdsAt C.W0 A n.kids→ex C.P.procs C.F d (.st n) dep env back s≠.deep→
 Calls Tryz.prog 64 #[.pointer (some ⟨C.RB,0,none⟩),.agg (ndC n A cap),.bool back] w (RunP C w G (ex C.P.procs C.F d (.st n) dep env back s))
def BlkC (C:Rc) (d:Nat) (b:Nd):Prop:=∀ (env:List Ev) (loc dep:Nat) (T:List (Nat × Int)) (w:World) (G:Gs) (s:St) (back:Bool) (A:Option Addr) (cap:Nat),RuH C w G s env loc dep T→BlH C.P (env.map (·.v)) b→loc≤env.length→NdsAt C.W0 A b.kids→ex C.P.procs C.F d (.bl (ordK back b.kids)) dep env back s≠.deep→
 Calls Tryz.prog 42 #[.pointer (some ⟨C.RB,0,none⟩),.agg (ndC b A cap),.bool back] w (RunP C w G (ex C.P.procs C.F d (.bl (ordK back b.kids)) dep env back s))
structure BlR (C:Rc) (w:World) (G:Gs) (s:St) (env:List Ev) (loc dep:Nat) (T:List (Nat × Int)) (d:Nat) (L:List Nd) (back:Bool) (b:Nd) (A:Option Addr) (cap bb k:Nat) (wr:World) (G':Gs) (s':St) (d':Nat):Prop where
 rs:RuS C w G wr G' s'
 rh:RuH C wr G' s' env loc dep T
 bx:Bx wr bb (ndC b A cap)
 rx:RuX C wr G' bb
 hd:d'+k=d
 he:ex C.P.procs C.F d (.bl L) dep env back s=ex C.P.procs C.F d' (.bl (L.drop k)) dep env back s'
theorem ex_cons {P:List Pc} {F d dep:Nat} {env:List Ev} {back:Bool} {x:Nd} {l:List Nd} {s:St}:ex P F (d+1) (.bl (x::l)) dep env back s=(ex P F d (.st x) dep env back s).andThen fun s1=>ex P F d (.bl l) dep env back s1:=rfl
theorem andThen_deep {r:Rs} {f:St→Rs} (h:r.andThen f≠.deep):r≠.deep:=fun e=>h (by rw [e];rfl)
theorem BlR.next (hC:RcOk C) {d d' k bb cap:Nat} {L:List Nd} {back:Bool} {b x:Nd} {A:Option Addr} {wr:World} {G':Gs} {s':St} (h:BlR C w G s env loc dep T d L back b A cap bb k wr G' s' d') (hx:L[k]?=some x) (hxS:StH C.P (env.map (·.v)) x) (hd:ex C.P.procs C.F d (.bl L) dep env back s≠.deep) :
  ∃ d1,d'=d1+1∧ex C.P.procs C.F d1 (.st x) dep env back s'≠.deep∧∀ e w',RunP C wr G' (ex C.P.procs C.F d1 (.st x) dep env back s') e w'→
    (∃ G2 s2,e=.returned (.tuple #[])∧BlR C w G s env loc dep T d L back b A cap bb (k+1) w' G2 s2 d1)∨(∃ v,e=.panicked v∧RunP C w G (ex C.P.procs C.F d (.bl L) dep env back s) e w'):=by
 have hdr:L.drop k=x::L.drop (k+1):=by
  obtain ⟨h1,h2⟩:=List.getElem?_eq_some_iff.1 hx
  rw [List.drop_eq_getElem_cons h1,h2]
 have he:=h.he
 rw [hdr] at he
 cases d' with
 | zero=>rw [he] at hd;exact absurd rfl hd
 | succ d1=>
   rw [ex_cons] at he
   rw [he] at hd
   have hnd:=andThen_deep hd
   refine ⟨d1,rfl,hnd,fun e w' hr=>?_⟩
   cases hc:ex C.P.procs C.F d1 (.st x) dep env back s' with
   | deep=>exact absurd hc hnd
   | bad=>
     rw [hc] at hr he
     have he:ex C.P.procs C.F d (.bl L) dep env back s=.bad:=he
     obtain ⟨er,h1,h2,h3⟩:=hr
     exact .inr ⟨_,h2,by rw [he];exact ⟨er,h1,h2,h3⟩⟩
   | ok s2=>
     rw [hc] at hr he
     obtain ⟨rfl,G2,h2⟩:=hr
     exact .inl ⟨G2,s2,rfl,h.rs.trans h2,h.rh.after hC h2 (t:=.st x) hxS.sok hc,h2.bx h.bx h.rx,h.rx.step h2,by have:=h.hd;omega,he⟩
theorem BlR.done {d d' k bb cap:Nat} {L:List Nd} {back:Bool} {b:Nd} {A:Option Addr} {wr:World} {G':Gs} {s':St} (h:BlR C w G s env loc dep T d L back b A cap bb k wr G' s' d') (hk:k=L.length) (hd:ex C.P.procs C.F d (.bl L) dep env back s≠.deep):RunP C w G (ex C.P.procs C.F d (.bl L) dep env back s) (.returned (.tuple #[])) wr:=by
 have he:=h.he
 rw [hk,List.drop_length] at he
 cases d' with
 | zero=>rw [he] at hd;exact absurd rfl hd
 | succ d1=>
   rw [he]
   exact ⟨rfl,_,h.rs⟩
theorem block_any (hC:RcOk C) (d:Nat) (b:Nd) (hS:∀ d',d'<d→∀ x∈b.kids,StmC C d' x):BlkC C d b:=fun env loc dep T w G s back A cap h hb hlo hK hd=>by
 have HB:=kp (blb w (Obj.cells (ndC b A cap) 26))
 have HRX:=kp (bxn w (ndC b A cap) 26)
 have hlen:=hb.len
 have HIN:=kp (fun (W:World) (hW:Below w.heap.size w W) (hbx:Bx W w.heap.size (ndC b A cap))=>show BlR C w G s env loc dep T d (ordK back b.kids) back b A cap w.heap.size 0 W G s d from
  ⟨RuS.refl h.o hW,h.below hW,hbx,h.o.newX (Nat.le_refl _) hbx.lt,rfl,by rw [List.drop_zero]⟩)
 have HL:=kp (show (ordK back b.kids).length=b.kids.length by cases back;rfl;exact List.length_reverse)
 have HD:=kp hd
 have HR:=kp (fun (k j:Nat) (x:Nd) (hx:(ordK back b.kids)[k]?=some x) (hj:b.kids[j]?=some x) (wr:World) (G':Gs) (s':St) (d':Nat) (hr:BlR C w G s env loc dep T d (ordK back b.kids) back b A cap w.heap.size k wr G' s' d')=>
  show ∃ b0 o0 A' c',A=some ⟨b0,o0,none⟩∧N4 wr b0 (o0+j*4) x A' c'∧Calls Tryz.prog 64 #[.pointer (some ⟨C.RB,0,none⟩),.agg (ndC x A' c'),.bool back] wr fun e w'=>(∃ G2 s2 d1,e=.returned (.tuple #[])∧BlR C w G s env loc dep T d (ordK back b.kids) back b A cap w.heap.size (k+1) w' G2 s2 d1)∨(∃ v,e=.panicked v∧RunP C w G (ex C.P.procs C.F d (.bl (ordK back b.kids)) dep env back s) e w') from by
  have hxm:=List.mem_of_getElem? hj
  obtain ⟨d1,rfl,hnd,hn⟩:=hr.next hC hx (hb.stm hxm) hd
  obtain ⟨b0,o0,A',c',hA,h4,hKx⟩:=hK.n4 hj
  refine ⟨b0,o0,A',c',hA,h4.mono hr.rh.o.bw.b,?_⟩
  refine (hS d1 (by have:=hr.hd;omega) x hxm env loc dep T wr G' s' back A' c' hr.rh (hb.stm hxm) hlo hKx hnd).mono fun e w' he=>?_
  rcases hn e w' he with ⟨G2,s2,h1,h2⟩ | h1
  ·exact .inl ⟨G2,s2,d1,h1,h2⟩
  ·exact .inr h1)
 have HK:=kp (show ∀ k,k<b.kids.length→∃ j x,j=(if back then b.kids.length - 1 - k else k)∧(ordK back b.kids)[k]?=some x∧b.kids[j]?=some x from fun k hk=>by
  cases back with
  | false=>exact ⟨k,_,rfl,List.getElem?_eq_getElem hk,List.getElem?_eq_getElem hk⟩
  | true=>
    refine ⟨b.kids.length - 1 - k,b.kids[b.kids.length - 1 - k]'(by omega),rfl,?_,List.getElem?_eq_getElem (by omega)⟩
    show b.kids.reverse[k]?=_
    rw [List.getElem?_reverse hk,List.getElem?_eq_getElem (by omega)])
 have q0:IntKind.i64.wrap ((b.kids.length:Int) - 1)=(b.kids.length:Int) - 1:=by rw [IntKind.wrap_i64];omega
 have HLn:=kp hlen
 clear h hb hS hK hd hlo hlen
 go_enter Tryz.func42,Tryz.ntmps42
 go_upto_region 1 with fail
 generalize w.alloc _=W at HB HRX ⊢
 obtain ⟨a0,a1,a2,a3,_⟩:=HRX.out.four
 have hla:=HRX.out.lt
 go_wp2_with fail
 go_loopw [15] (fun i wr=>∃ k:Nat,k≤b.kids.length∧i=.int .i64 k∧Hid (∃ G' s' d',BlR C w G s env loc dep T d (ordK back b.kids) back b A cap w.heap.size k wr G' s' d')) (fun i _=>b.kids.length - (intOf i).toNat)
 case atStart=>exact ⟨0,by omega,rfl,kp ⟨_,_,_,HIN.out W HB.out HRX.out⟩⟩
 case round=>
  obtain ⟨k,hk,rfl,HX⟩:=hrel
  clear a0 a1 a2 a3 hla
  by_cases hin:k<b.kids.length
  ·obtain ⟨j,x,hj,hx,hjx⟩:=HK.out k hin
   obtain ⟨G',s',d',hr⟩:=HX.out
   obtain ⟨b0,o0,A',c',rfl,h4,hcall⟩:=HR.out k j x hx hjx wr G' s' d' hr
   obtain ⟨a0,a1,a2,a3,_⟩:=hr.bx.four
   have hla:=hr.bx.lt
   have HCL:=kp hcall
   obtain ⟨k0,k1,k2,k3⟩:=h4
   have hlk:=block_lt_of_cell k0
   have hjl:=(List.getElem?_eq_some_iff.1 hjx).1
   have r0:(0:Int)≤j:=by omega
   have r1:(j:Int)<b.kids.length:=by omega
   have r2:(k:Int)<b.kids.length:=by omega
   have r3:=HLn.out
   cases back with
   | false=>
     obtain rfl:k=j:=hj.symm
     clear hr hx hjx hcall r1 hjl hj
     go_wp2_with fail
     refine HCL.out.mono ?_
     rintro e3 w3 (⟨G2,s2,d1,rfl,h3⟩ | ⟨v,rfl,h3⟩)
     ·have HZ:=kp h3
      go_wp2_with fail
      exact ⟨⟨k+1,by omega,by go_num,kp ⟨_,_,_,HZ.out⟩⟩,by simp [intOf];omega⟩
     ·exact ⟨rfl,h3⟩
   | true=>
     have q1:IntKind.i64.wrap ((b.kids.length:Int) - 1 - (k:Int))=(j:Int):=by rw [IntKind.wrap_i64,hj,if_pos rfl];have:=HLn.out;omega
     clear hr hx hjx hcall hj
     go_wp2_with fail
     refine HCL.out.mono ?_
     rintro e3 w3 (⟨G2,s2,d1,rfl,h3⟩ | ⟨v,rfl,h3⟩)
     ·have HZ:=kp h3
      go_wp2_with fail
      exact ⟨⟨k+1,by omega,by go_num,kp ⟨_,_,_,HZ.out⟩⟩,by simp [intOf];omega⟩
     ·exact ⟨rfl,h3⟩
  ·obtain rfl:k=b.kids.length:=by omega
   have HZ:=kp (show RunP C w G (ex C.P.procs C.F d (.bl (ordK back b.kids)) dep env back s) (.returned (.tuple #[])) wr from by
    obtain ⟨G',s',d',hr⟩:=HX.out
    exact hr.done HL.out.symm HD.out)
   go_wp2_with fail
   go_end0
   exact HZ.out
end
end Go.Proofs.YtgbomnibedefoaaGreatDoor
