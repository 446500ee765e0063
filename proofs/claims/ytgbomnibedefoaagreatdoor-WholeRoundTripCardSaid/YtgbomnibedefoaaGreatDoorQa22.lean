import Derived.Test.YtgbomnibedefoaaGreatDoorQa21
set_option maxRecDepth 100000
set_option maxHeartbeats 8000000
namespace Go.Proofs.YtgbomnibedefoaaGreatDoor
open Go.ChangeShapes Go.WideShapes Go.ChangeAt Go.RowKit Go.Sort Go.Maps
theorem KidsR.frP {wr w':World} {B PB:Nat} {v:Value} {l:List Nd} {k:Nat} {cs:List Value} (h:KidsR wr B v l k cs) (hf:Fr wr w' (fun k=>k=PB)) (hp:PB<B):KidsR w' B v l k cs:=by
 obtain ⟨h1,h2⟩:=h
 refine ⟨hf.own h1 fun g hg e=>by have e':g=PB:=e;have:=obg h1 g hg;omega,fun i y hi hy=>?_⟩
 obtain ⟨A,c,lo,hh,a,b,d,e,f,g,m,n⟩:=h2 i y hi hy
 exact ⟨A,c,lo,hh,a,b,d,e,f.move fun k h3 hk=>hf.block k (by omega) fun e=>by have e':k=PB:=e;omega,g,Nat.le_trans m hf.size,n⟩
theorem KidsR.pushP {wr wm w9:World} {B PB:Nat} {v v':Value} {l:List Nd} {k:Nat} {cs:List Value} (h:KidsR wr B v l k cs) {y:Nd} (hy:l[k]?=some y) {A:Option Addr} {c:Nat} (hf:Fr wr wm (fun k=>k=PB)) (hp:PB<B) (hD:NdsD wm wr.heap.size wm.heap.size A y.kids) (hB:B≤wr.heap.size)
  (T:Nat) (hown:w9.ownsRow B 26 4 v' (k+1) (cs++[.int .u8 y.kind,.int .i64 y.num,.string y.name,.slice A y.kids.length c])) (hg:(wm.alloc (Obj.cells (ndC y A c) T)).grownBy w9 v.ownBlock) (hat:v'.ownBlock=v.ownBlock∨v'.ownBlock=some (wm.alloc (Obj.cells (ndC y A c) T)).heap.size):KidsR w9 B v' l (k+1) (cs++[.int .u8 y.kind,.int .i64 y.num,.string y.name,.slice A y.kids.length c]):=by
 obtain ⟨h1,h2⟩:=h
 have hlen:cs.length=k*4:=h1.1
 have hlt:∀ g,v.ownBlock=some g→g<wr.heap.size:=fun g hgg=>(h1.lt g hgg).2
 have hs:=hf.size
 have hs9:=hg.size
 rw [World.size_alloc] at hs9 hat
 have key:∀ kk,(∀ g,v.ownBlock=some g→g≠kk)→kk<wm.heap.size→w9.heap[kk]?=wm.heap[kk]?:=fun kk hn hk=>by
  rw [hg.block kk (by rw [World.size_alloc];omega) (fun e=>hn kk e.symm rfl)]
  exact (blb wm _).block kk hk
 refine ⟨hown,fun i z hi hz=>?_⟩
 by_cases hik:i<k
 ·obtain ⟨A2,c2,lo,hh,a,b,d,e,f,g,m,n⟩:=h2 i z hik hz
  refine ⟨A2,c2,lo,hh,?_,?_,?_,?_,f.move fun kk h3 h4=>?_,g,by omega,fun g' hg'=>?_⟩
  ·rw [List.getElem?_append_left (by omega)];exact a
  ·rw [List.getElem?_append_left (by omega)];exact b
  ·rw [List.getElem?_append_left (by omega)];exact d
  ·rw [List.getElem?_append_left (by omega)];exact e
  ·rw [key kk (fun g' hg' e'=>by rcases n g' hg' with q | q<;>omega) (by omega)]
   exact hf.block kk (by omega) fun e=>by have e':kk=PB:=e;omega
  ·rcases hat with q | q
   ·exact n g' (q▸hg')
   ·rw [q] at hg';cases hg';exact .inr (by omega)
 ·obtain rfl:i=k:=by omega
  rw [hy] at hz
  cases hz
  refine ⟨A,c,wr.heap.size,wm.heap.size,?_,?_,?_,?_,hD.move fun kk h3 h4=>key kk (fun g hg' e=>by have:=hlt g hg';omega) h4,hB,by omega,fun g hg'=>?_⟩
  ·rw [List.getElem?_append_right (by omega),hlen];simp
  ·rw [List.getElem?_append_right (by omega),hlen];simp
  ·rw [List.getElem?_append_right (by omega),hlen];simp
  ·rw [List.getElem?_append_right (by omega),hlen];simp
  ·rcases hat with q | q
   ·exact .inl (hlt g (q▸hg'))
   ·rw [q] at hg';cases hg';exact .inr (by omega)
structure BlkS (p:Ps) (xs:List Nd) (k:Nat) (ks es:Nat→Nat):Prop where
 o:(tkA p.toks k).text=⟨#[123]⟩
 z:ks 0=k+1
 st:∀ i x,xs[i]?=some x→NdC 143 [] p x (ks i) (es i)∧(tkA p.toks (ks i)).text≠⟨#[125]⟩∧(tkA p.toks (es i)).text=⟨#[59]⟩∧ks (i+1)=es i+1∧ks i≤es i
 c:(tkA p.toks (ks xs.length)).text=⟨#[125]⟩
 l:xs.length≤100000
def mesP (p:Ps) (w:World):Nat:=p.toks.length+1 - (match w.cell? ⟨p.PB,1,none⟩ with | some (.int _ n)=>n.toNat | _=>0)
theorem PsO.mes {w:World} {p:Ps} {k:Nat} (h:PsO w p k):mesP p w=p.toks.length+1 - k:=by
 unfold mesP
 rw [h.b.cell (j:=1) (v:=.int .i64 k) rfl]
 simp
structure BkI (w:World) (p:Ps) (xs:List Nd) (i pos:Nat) (wr:World):Prop where
 ps:PsO wr p pos
 fr:Fr w wr (fun k=>k=p.PB)
 rb:Bx wr w.heap.size #[.int .u8 0,.int .i64 0,.string ⟨#[]⟩,.slice none 0 0]
 kr:∃ A c cs,Bx wr (w.heap.size+1) #[.int .u8 57,.int .i64 0,.string ⟨#[]⟩,.slice A i c]∧KidsR wr (w.heap.size+2) (.slice A i c) xs i cs
 b:w.heap.size+2≤wr.heap.size
theorem BkI.frP {w wr w':World} {p:Ps} {xs:List Nd} {i pos pos':Nat} (h:BkI w p xs i pos wr) (hp:p.PB<w.heap.size) (h1:PsO w' p pos') (hf:Fr wr w' (fun k=>k=p.PB)):BkI w p xs i pos' w':=by
 obtain ⟨A,c,cs,h2,h3⟩:=h.kr
 exact ⟨h1,h.fr.then hf,h.rb.frP hf hp,⟨A,c,cs,h2.frP hf (by omega),h3.frP hf (by omega)⟩,Nat.le_trans h.b hf.size⟩
theorem BkI.push {w wr wm w9:World} {p:Ps} {xs:List Nd} {i pos pos':Nat} {y:Nd} {A A8:Option Addr} {c c8:Nat} {v':Value} {cs:List Value} (h:BkI w p xs i pos wr) (hH:FinH w p) (hy:xs[i]?=some y) (hk2:Bx wr (w.heap.size+1) #[.int .u8 57,.int .i64 0,.string ⟨#[]⟩,.slice A i c]) (hkr:KidsR wr (w.heap.size+2) (.slice A i c) xs i cs) (h1:PsO wm p pos') (hf:Fr wr wm (fun k=>k=p.PB)) (hD:NdsD wm wr.heap.size wm.heap.size A8 y.kids)
  (T:Nat) (hown:w9.ownsRow (w.heap.size+2) 26 4 v' (i+1) (cs++[.int .u8 y.kind,.int .i64 y.num,.string y.name,.slice A8 y.kids.length c8])) (hg:(wm.alloc (Obj.cells (ndC y A8 c8) T)).grownBy w9 (Value.slice A i c).ownBlock) (hat:v'.ownBlock=(Value.slice A i c).ownBlock∨v'.ownBlock=some (wm.alloc (Obj.cells (ndC y A8 c8) T)).heap.size):BkI w p xs (i+1) pos' (w9.setCell ⟨w.heap.size+1,3,none⟩ v'):=by
 have hp:=hH.pb
 have hm:=hH.mb
 have hkp:=hkr.pushP hy hf (by omega) hD h.b T hown hg hat
 obtain ⟨A9,c9,rfl,_,_⟩:=ofb hown
 have hba:=blb wm (Obj.cells (ndC y A8 c8) T)
 have f9:Fr wm w9 (fun k=>w.heap.size+2≤k):=(Fr.of_below hba _).trans ((Fr.of_grown hg).mono fun k _ e=>obg hkr.own k e.symm) fun _ _ e=>e
 have fS:=Fr.of_set w9 ⟨w.heap.size+1,3,none⟩ (.slice A9 (i+1) c9)
 have f10:Fr wm (w9.setCell ⟨w.heap.size+1,3,none⟩ (.slice A9 (i+1) c9)) (fun k=>w.heap.size+1≤k):=(f9.mono fun k _ e=>by have e':w.heap.size+2≤k:=e;show w.heap.size+1≤k;omega).trans fS fun k _ e=>by have e':k=w.heap.size+1:=e;show w.heap.size+1≤k;omega
 refine ⟨h1.fr0 f10 (fun e=>by have e':w.heap.size+1≤p.PB:=e;omega) (fun e=>by have e':w.heap.size+1≤p.MB:=e;omega) fun k _ e=>.inr fun b o hb e2=>by have e':w.heap.size+1≤k:=e;have:=hH.a b o hb;omega,(h.fr.then hf).trans f10 fun k hk e=>by have e':w.heap.size+1≤k:=e;omega,(h.rb.frP hf hp).fr f10 fun e=>by have e':w.heap.size+1≤w.heap.size:=e;omega,⟨A9,c9,_,((hk2.frP hf (by omega)).fr f9 fun e=>by have e':w.heap.size+2≤w.heap.size+1:=e;omega).set 3 _,hkp.frP fS (by show w.heap.size+1<w.heap.size+2;omega)⟩,Nat.le_trans h.b (Nat.le_trans hf.size f10.size)⟩
theorem block_parsed {p:Ps} {k:Nat} {xs:List Nd} {ks es:Nat→Nat} (hb:BlkS p xs k ks es):NdC 109 [] p (.mk 57 0 ⟨#[]⟩ xs) k (ks xs.length+1):=fun w h=>by
 have hlt:k<p.toks.length:=by
  rcases Nat.lt_or_ge k p.toks.length with e | e
  ·exact e
  ·have:=hb.o;rw [tkA_ge e] at this;exact absurd this (by decide)
 have HH:=kp (h.finH (by omega))
 have HT:=kp (two_box w (Obj.cells #[.int .u8 0,.int .i64 0,.string ⟨#[]⟩,.slice none 0 0] 26) (Obj.cells #[.int .u8 57,.int .i64 0,.string ⟨#[]⟩,.slice none 0 0] 26))
 have HR:=kp ((bxn w #[.int .u8 0,.int .i64 0,.string ⟨#[]⟩,.slice none 0 0] 26).below (blb _ (Obj.cells #[.int .u8 57,.int .i64 0,.string ⟨#[]⟩,.slice none 0 0] 26)))
 have HN:=kp (show Bx ((w.alloc (Obj.cells #[.int .u8 0,.int .i64 0,.string ⟨#[]⟩,.slice none 0 0] 26)).alloc (Obj.cells #[.int .u8 57,.int .i64 0,.string ⟨#[]⟩,.slice none 0 0] 26)) (w.heap.size+1) #[.int .u8 57,.int .i64 0,.string ⟨#[]⟩,.slice none 0 0] from by have:=bxn (w.alloc (Obj.cells #[.int .u8 0,.int .i64 0,.string ⟨#[]⟩,.slice none 0 0] 26)) #[.int .u8 57,.int .i64 0,.string ⟨#[]⟩,.slice none 0 0] 26;rwa [World.size_alloc] at this)
 have hzw:((w.alloc (Obj.cells #[.int .u8 0,.int .i64 0,.string ⟨#[]⟩,.slice none 0 0] 26)).alloc (Obj.cells #[.int .u8 57,.int .i64 0,.string ⟨#[]⟩,.slice none 0 0] 26)).heap.size=w.heap.size+2:=by simp
 have HP:=kp (h.below HT.out)
 have HS:=kp hb
 have HO:=kp (expect_any HP.out (s:=⟨#[123]⟩) (by decide) hb.o)
 obtain ⟨i0,hi0,hz0,hz1,hz2⟩:=info_parts info_nd
 have HI0:=kp (And.intro hi0 (And.intro hz0 (And.intro hz1 hz2)))
 clear h hb hlt hi0 hz0 hz1 hz2
 go_enter Tryz.func109,Tryz.ntmps109
 go_upto_region 2 with fail
 generalize (w.alloc _).alloc _=V at HT HR HN HP HO hzw ⊢
 have HV:=kp hzw
 clear hzw
 go_wp2_with fail
 refine HO.out.mono ?_
 rintro e V1 ⟨rfl,h1,h2⟩
 have HK1:=kp (show BkI w p xs 0 (ks 0) V1 from by
  rw [HS.out.z]
  refine ⟨h1,Fr.then (Fr.of_below HT.out _) h2,HR.out.frP h2 HH.out.pb,⟨none,0,[],HN.out.frP h2 (by have:=HH.out.pb;omega),KidsR.nil _ _ _⟩,?_⟩
  have:=h2.size;have:=HV.out;omega)
 clear h1 h2
 go_upto_region 3 with fail
 go_loopw [] (fun wr=>∃ i:Nat,i≤xs.length∧Hid (BkI w p xs i (ks i) wr)) (fun wr=>mesP p wr)
 case atStart=>exact ⟨0,by omega,HK1⟩
 case round=>
  obtain ⟨i,hi,HI⟩:=hrel
  by_cases hin:i<xs.length
  ·obtain ⟨s1,s2,s3,s4,s5⟩:=HS.out.st i _ (List.getElem?_eq_getElem hin)
   have HY:=kp (List.getElem?_eq_getElem hin)
   generalize xs[i]=y at s1 HY
   have HC:=kp s1
   have HA:=kp (fun (W:World) (hW:PsO W p (ks i))=>acc_no hW (s:=⟨#[125]⟩) (by decide) s2)
   have HE:=kp (fun (W:World) (hW:PsO W p (es i))=>expect_any hW (s:=⟨#[59]⟩) (by decide) s3)
   have HL:=kp (And.intro s4 s5)
   have HX:=kp HS.out.l
   clear s1 s2 s3 s4 s5
   obtain ⟨a0,a1,a2,a3,a4,a5⟩:=HI.out.ps.b.six1
   have hla:=HI.out.ps.b.lt
   clear a0 a1 a2 a3 a4
   go_wp2_with fail
   refine (HA.out wr HI.out.ps).mono ?_
   rintro e W1 ⟨rfl,h1,h2⟩
   have H1:=kp (HI.out.frP HH.out.pb h1 h2)
   have HM1:=kp (HI.out.ps.mes)
   clear h1 h2 a5 hla
   go_upto_region 4 with fail
   obtain ⟨A,c,cs,hnb,hkr⟩:=H1.out.kr
   have HNB:=kp hnb
   have HKR:=kp hkr
   have HC2:=kp (show Calls Tryz.prog 143 #[.pointer (some ⟨p.PB,0,none⟩)] W1.drew (PnP p y (es i) W1.drew) from HC.out W1.drew (H1.out.ps.below (bld (Below.refl _ _))))
   have HPB:=kp HH.out.pb
   obtain ⟨n0,n1,n2,n3,f0,f1,f2,f3⟩:=hnb.four
   have hln:=hnb.lt
   clear hnb hkr
   go_cut [] (fun wc=>Hid (BkI w p xs (i+1) (es i) wc))
   case first=>
    go_region_law (first
     | (refine step_app _ (by rfl) (.tmp 18) (.tmp 21) 24 (by rfl) (w.heap.size+2) 26 i0 (.agg #[.int .u8 0,.int .i64 0,.string ⟨#[]⟩,.slice none 0 0]) 4 56 Tryz.underlying24 HI0.out.1 HI0.out.2.1 HI0.out.2.2.1 HI0.out.2.2.2 rfl (by decide) (.slice A i c) i cs (by first | (simp [Act.eval];done) | (simp [Act.eval,Act.put];done)) (obl HO8.out (blb _ _)) (some ⟨w8.heap.size,0,none⟩) 1 1 [.int .u8 y.kind,.int .i64 y.num,.string y.name,.slice A8 y.kids.length c8] (by first | (simp [Act.eval];done) | (simp [Act.eval,Act.put];done)) rfl (cnu w8 rfl [.int .u8 y.kind,.int .i64 y.num,.string y.name,.slice A8 y.kids.length c8] _) (fun u hu=>by simp at hu;rcases hu with rfl | rfl | rfl | rfl<;>rfl) (by have:=HX.out;unfold maxLen;omega) (by have:=HX.out;omega) (by have:=HS8.out;simp;omega) ?_;intro v' w9 hown' hgrow hat;have HM:=kp (H1.out.push HH.out HY.out HNB.out HKR.out H8.out.1 H8.out.2.1 H8.out.2.2 _ hown' hgrow hat);have HQ:=kp ((HN8.out.below (blb w8 _)).fr (Fr.of_grown hgrow) (fun e=>by have:=obg HKR.out.own _ e.symm;omega));have z3:=HQ.out.cell (j:=3) rfl;have zf:=HQ.out.free 3;have hlz:=HQ.out.lt;obtain ⟨A9,c9,rfl,hc9,hqq⟩:=ofb hown';clear hqq hc9 hown' hgrow hat)
     | (go_simp;go_at_call 143;(with_reducible refine Calls.mono HC2.out ?_);rintro e w8 ⟨A8,c8,rfl,hD8,hS8,hp8,hf8⟩;have H8:=kp (And.intro hp8 (And.intro ((Fr.of_below (bld (Below.refl _ W1)) (fun k=>k=p.PB)).then hf8) (show NdsD w8 W1.heap.size w8.heap.size A8 y.kids from hD8)));have HN8:=kp (HNB.out.frP H8.out.2.1 (by have:=HPB.out;omega));have HO8:=kp (HKR.out.frP H8.out.2.1 (by have:=HPB.out;omega)).own;have HS8:=kp (Nat.le_trans H1.out.b H8.out.2.1.size);have n3:=HN8.out.cell (j:=3) rfl;have hln:=HN8.out.lt;clear hD8 hS8 hp8 hf8;dsimp only)
     | fail)
    all_goals
     go_simp
     go_wp2_with fail
     go_meet
     exact HM
   case rest=>
    go_wp2_with fail
    refine (HE.out wc hcut.out.ps).mono ?_
    rintro e W2 ⟨rfl,h1,h2⟩
    have H2:=kp (hcut.out.frP HH.out.pb h1 h2)
    clear h1 h2
    go_wp2_with fail
    refine ⟨⟨i+1,by omega,?_⟩,?_⟩
    ·rw [HL.out.1];exact H2
    ·rw [H2.out.ps.mes,HM1.out]
     have:=HL.out
     have:=HI.out.ps.le
     omega
  ·obtain rfl:i=xs.length:=by omega
   have HA:=kp (fun (W:World) (hW:PsO W p (ks xs.length))=>acc_yes hW (s:=⟨#[125]⟩) (by decide) HS.out.c)
   obtain ⟨a0,a1,a2,a3,a4,a5⟩:=HI.out.ps.b.six1
   have hla:=HI.out.ps.b.lt
   clear a0 a1 a2 a3 a4
   go_wp2_with fail
   refine (HA.out wr HI.out.ps).mono ?_
   rintro e W1 ⟨rfl,h1,h2⟩
   have H1:=kp (HI.out.frP HH.out.pb h1 h2)
   clear h1 h2 a5 hla
   obtain ⟨A,c,cs,hnb,hkr⟩:=H1.out.kr
   obtain ⟨A9,c9,e9,hs9,hd9⟩:=hkr.done
   injection e9 with e1 e2 e3
   subst e1 e3
   have HZ:=kp (nd_fin2 (k0:=57) (kz:=57) (n0:=0) (s0:=⟨#[]⟩) (ks:=xs) (A:=A) (c:=c) rfl rfl HH.out.pb HH.out.mb HH.out.a H1.out.ps H1.out.fr H1.out.rb (Nat.le_refl _) (lo:=w.heap.size+2) (by omega) hd9 hs9)
   obtain ⟨n0,n1,n2,n3,_⟩:=hnb.four
   have hln:=hnb.lt
   obtain ⟨r0,r1,r2,r3,f0,f1,f2,f3⟩:=H1.out.rb.four
   have hlr:=H1.out.rb.lt
   clear hnb hkr hs9 hd9
   go_wp2_with fail
   generalize World.setCell _ _ _=WF at HZ ⊢
   obtain ⟨q0,q1,q2,q3,_⟩:=HZ.out.1.four
   exact bodyPost_ret (v:=.agg #[.int .u8 57,.int .i64 0,.string ⟨#[]⟩,.slice A xs.length c]) (by simp [results,Tryz.results109,go_sem,q0,q1,q2,q3]) rfl HZ.out.2
theorem limit_ok {p:Ps} {k:Nat} {x:Nd} (hs:szT x≤2000) (hd:dpT x≤80) {w:World} (h:PsO w p k) {A:Option Addr} {c:Nat} (hK:NdsAt w A x.kids) (off:Int) :
  Calls Tryz.prog 110 #[.pointer (some ⟨p.PB,0,none⟩),.agg (ndC x A c),.int .i64 off] w fun e w'=>e=.returned (.tuple #[])∧Below w.heap.size w w':=by
 have HB:=kp (blb w (Obj.cells (ndC x A c) 26))
 have HR:=kp (bxn w (ndC x A c) 26)
 have HP:=kp (h.below HB.out)
 have HK:=kp (hK.mono HB.out)
 have HD:=kp (fun (V:World) (hV:NdsAt V A x.kids)=>depth_any _ x (Nat.le_refl _) (by omega) A c V hV)
 have HS:=kp (fun (V:World) (hV:NdsAt V A x.kids)=>size_any _ x (Nat.le_refl _) (by omega) A c V hV)
 have q1:¬ (80:Int)<dpT x:=by omega
 have q2:¬ (2000:Int)<szT x:=by omega
 clear h hK hs hd
 go_enter Tryz.func110,Tryz.ntmps110
 go_upto_region 1 with fail
 generalize w.alloc _=V at HB HR HP HK ⊢
 obtain ⟨a0,a1,a2,a3,a4,a5⟩:=HP.out.b.six1
 have hla:=HP.out.b.lt
 obtain ⟨r0,r1,r2,r3,_⟩:=HR.out.four
 have hlr:=HR.out.lt
 clear a0 a1 a2 a3 a4
 go_wp2_with fail
 refine (HD.out V HK.out).mono ?_
 rintro e V1 ⟨rfl,hb⟩
 have HB1:=kp (bls HB.out HB.out.size hb)
 have HR1:=kp (HR.out.below hb)
 have HK1:=kp (HK.out.mono hb)
 clear hb r0 r1 r2 r3 hlr a5 hla
 obtain ⟨r0,r1,r2,r3,_⟩:=HR1.out.four
 have hlr:=HR1.out.lt
 go_wp2_with fail
 refine (HS.out V1 HK1.out).mono ?_
 rintro e V2 ⟨rfl,hb⟩
 have HB2:=kp (bls HB1.out HB1.out.size hb)
 clear hb r0 r1 r2 r3 hlr
 go_wp2_with fail
 go_end0
 exact ⟨rfl,HB2.out⟩
theorem body_parsed {p:Ps} {k k':Nat} {x:Nd} (hs:szT x≤2000) (hd:dpT x≤80) (hlt:k<p.toks.length) (hC:NdC 109 [] p x k k'):NdC 77 [] p x k k':=fun w h=>by
 have HB:=kp (blb w (Obj.cells #[.int .u8 0,.int .i64 0,.string ⟨#[]⟩,.slice none 0 0] 26))
 have HR:=kp (bxn w #[.int .u8 0,.int .i64 0,.string ⟨#[]⟩,.slice none 0 0] 26)
 have HH:=kp (h.finH (by omega))
 have HP:=kp (h.below HB.out)
 have HPK:=kp (peek_any HP.out)
 have HC:=kp hC
 have HL:=kp (fun (V:World) (hV:PsO V p k') (A:Option Addr) (c:Nat) (hK:NdsAt V A x.kids) (off:Int)=>limit_ok hs hd hV (c:=c) hK off)
 have hf2:=fld2
 have hzw:(w.alloc (Obj.cells #[.int .u8 0,.int .i64 0,.string ⟨#[]⟩,.slice none 0 0] 26)).heap.size=w.heap.size+1:=by simp
 generalize tkA p.toks k=t at HPK
 clear h hC hlt hs hd
 go_enter Tryz.func77,Tryz.ntmps77
 go_upto_region 1 with fail
 generalize w.alloc _=V at HB HR HP HPK hzw ⊢
 have HV:=kp hzw
 clear hzw
 go_wp2_with fail
 refine HPK.out.mono ?_
 rintro e V1 ⟨rfl,hb1⟩
 have H1:=kp (And.intro (HP.out.below hb1) (Fr.from (PB:=p.PB) (Fr.of_below HB.out _) hb1))
 have HR1:=kp (HR.out.below hb1)
 have HS1:=kp hb1.size
 clear hb1
 go_wp2_with fail
 refine (HC.out V1 H1.out.1).mono ?_
 rintro e V2 ⟨A,c,rfl,hD,hS,h1,h2⟩
 have H2:=kp (And.intro h1 (Fr.then H1.out.2 h2))
 have HR2:=kp (HR1.out.frP h2 HH.out.pb)
 have HD2:=kp (And.intro hD hS)
 clear h1 h2 hD hS
 go_upto_region 3 with fail
 have HB3:=kp (blb V2 (Obj.cells (ndC x A c) 26))
 have HN3:=kp (bxn V2 (ndC x A c) 26)
 generalize V2.alloc _=V3 at HB3 HN3 ⊢
 have HR3:=kp (HR2.out.below HB3.out)
 have H3:=kp (And.intro (H2.out.1.below HB3.out) (H2.out.2.from HB3.out))
 have HD3:=kp (HD2.out.1.up HB3.out (Nat.le_refl _))
 have HL3:=kp (HL.out V3 H3.out.1 A c HD3.out.at_ t.pos)
 obtain ⟨n0,n1,n2,n3,_⟩:=HN3.out.four
 have hln:=HN3.out.lt
 go_wp2_with fail
 refine HL3.out.mono ?_
 rintro e V4 ⟨rfl,hb4⟩
 have HR4:=kp (HR3.out.below hb4)
 have HN4:=kp (HN3.out.below hb4)
 have H4:=kp (And.intro (H3.out.1.below hb4) (H3.out.2.from hb4))
 have HD4:=kp (HD3.out.up hb4 HB3.out.size)
 have HS4:=kp (Nat.le_trans HB3.out.size hb4.size)
 clear hb4 n0 n1 n2 n3 hln
 obtain ⟨n0,n1,n2,n3,_⟩:=HN4.out.four
 have hln:=HN4.out.lt
 obtain ⟨r0,r1,r2,r3,f0,f1,f2,f3⟩:=HR4.out.four
 have hlr:=HR4.out.lt
 have HZ:=kp (nd_fin HH.out.pb HH.out.mb H4.out.1 H4.out.2 HH.out.a HR4.out (Nat.le_refl _) (lo:=V1.heap.size) (by have:=HS1.out;have:=HV.out;omega) (HD4.out.wide (Nat.le_refl _) HS4.out) HD2.out.2)
 go_wp2_with fail
 generalize World.setCell _ _ _=WF at HZ ⊢
 obtain ⟨q0,q1,q2,q3,_⟩:=HZ.out.1.four
 exact bodyPost_ret (v:=.agg (ndC x A c)) (by simp [results,Tryz.results77,go_sem,q0,q1,q2,q3]) rfl HZ.out.2
theorem finish_ok {p:Ps} {w:World} (h:PsO w p p.toks.length) :
  Calls Tryz.prog 46 #[.pointer (some ⟨p.PB,0,none⟩)] w fun e w'=>e=.returned (.tuple #[])∧Below w.heap.size w w':=by
 have HP:=kp h
 have hq:¬ (p.toks.length:Int)<p.toks.length:=by omega
 clear h
 obtain ⟨a0,a1,a2,a3,a4,a5⟩:=HP.out.b.six1
 have hla:=HP.out.b.lt
 clear a2 a3 a4 a5
 go_enter Tryz.func46,Tryz.ntmps46
 go_upto_region 0 with fail
 go_region
 go_wp2_with fail
 go_end0
 exact ⟨rfl,bld (Below.refl _ _)⟩
def dclB (s:ByteArray):Bool:=decide (s=⟨#[105,110,116]⟩)||decide (s=⟨#[97,114,114,97,121]⟩)||decide (s=⟨#[115,116,97,99,107]⟩)
structure DclS (p:Ps) (vs:List Vd) (k:Nat) (ks:Nat→Nat):Prop where
 z:ks 0=k
 st:∀ i v,vs[i]?=some v→DcC 74 p v (ks i) (ks (i+1))∧dclB (tkA p.toks (ks i)).text=true∧ks i<ks (i+1)
 c:dclB (tkA p.toks (ks vs.length)).text=false
 l:vs.length≤32
abbrev pg0:Array Value:=#[.slice none 0 0,.slice none 0 0,.int .u8 0,.int .i64 0,.string ⟨#[]⟩,.slice none 0 0]
abbrev pgV (A:Option Addr) (n c:Nat):Array Value:=#[.slice A n c,.slice none 0 0,.int .u8 0,.int .i64 0,.string ⟨#[]⟩,.slice none 0 0]
structure DclI (w:World) (p:Ps) (vs:List Vd) (i pos:Nat) (wr:World):Prop where
 ps:PsO wr p pos
 fr:Fr w wr (fun k=>k=p.PB)
 rb:Bx wr w.heap.size pg0
 kr:∃ A c,Bx wr (w.heap.size+1) (pgV A i c)∧wr.ownsRow (w.heap.size+2) 62 3 (.slice A i c) i (vdCs (vs.take i))
 b:w.heap.size+2≤wr.heap.size
theorem DclI.frP {w wr w':World} {p:Ps} {vs:List Vd} {i pos pos':Nat} (h:DclI w p vs i pos wr) (hp:p.PB<w.heap.size) (h1:PsO w' p pos') (hf:Fr wr w' (fun k=>k=p.PB)):DclI w p vs i pos' w':=by
 obtain ⟨A,c,h2,h3⟩:=h.kr
 exact ⟨h1,h.fr.then hf,h.rb.frP hf hp,⟨A,c,h2.frP hf (by omega),hf.own h3 fun g hg e=>by have e':g=p.PB:=e;have:=obg h3 g hg;omega⟩,Nat.le_trans h.b hf.size⟩
theorem vdCs_take {vs:List Vd} {i:Nat} {v:Vd} (h:vs[i]?=some v):vdCs (vs.take (i+1))=vdCs (vs.take i)++v.cs:=by
 have hl:=(List.getElem?_eq_some_iff.1 h).1
 rw [← List.take_append_getElem hl,Option.some.inj ((List.getElem?_eq_getElem hl).symm.trans h),vdCs_snoc]
theorem DclI.push {w wr wm w9:World} {p:Ps} {vs:List Vd} {i pos pos':Nat} {y:Vd} {A:Option Addr} {c:Nat} {v':Value} (h:DclI w p vs i pos wr) (hH:FinH w p) (hy:vs[i]?=some y) (hk2:Bx wr (w.heap.size+1) (pgV A i c)) (hkr:wr.ownsRow (w.heap.size+2) 62 3 (.slice A i c) i (vdCs (vs.take i))) (h1:PsO wm p pos') (hf:Fr wr wm (fun k=>k=p.PB))
  (T:Nat) (hown:w9.ownsRow (w.heap.size+2) 62 3 v' (i+1) (vdCs (vs.take i)++[.string y.name,.int .u8 y.kind,.int .i64 y.len])) (hg:(wm.alloc (Obj.cells #[.string y.name,.int .u8 y.kind,.int .i64 y.len] T)).grownBy w9 (Value.slice A i c).ownBlock):DclI w p vs (i+1) pos' (w9.setCell ⟨w.heap.size+1,0,none⟩ v'):=by
 have hp:=hH.pb
 have hm:=hH.mb
 obtain ⟨A9,c9,rfl,_,_⟩:=ofb hown
 have hba:=blb wm (Obj.cells #[.string y.name,.int .u8 y.kind,.int .i64 y.len] T)
 have f9:Fr wm w9 (fun k=>w.heap.size+2≤k):=(Fr.of_below hba _).trans ((Fr.of_grown hg).mono fun k _ e=>obg hkr k e.symm) fun _ _ e=>e
 have fS:=Fr.of_set w9 ⟨w.heap.size+1,0,none⟩ (.slice A9 (i+1) c9)
 have f10:Fr wm (w9.setCell ⟨w.heap.size+1,0,none⟩ (.slice A9 (i+1) c9)) (fun k=>w.heap.size+1≤k):=(f9.mono fun k _ e=>by have e':w.heap.size+2≤k:=e;show w.heap.size+1≤k;omega).trans fS fun k _ e=>by have e':k=w.heap.size+1:=e;show w.heap.size+1≤k;omega
 refine ⟨h1.fr0 f10 (fun e=>by have e':w.heap.size+1≤p.PB:=e;omega) (fun e=>by have e':w.heap.size+1≤p.MB:=e;omega) fun k _ e=>.inr fun b o hb e2=>by have e':w.heap.size+1≤k:=e;have:=hH.a b o hb;omega,(h.fr.then hf).trans f10 fun k hk e=>by have e':w.heap.size+1≤k:=e;omega,(h.rb.frP hf hp).fr f10 fun e=>by have e':w.heap.size+1≤w.heap.size:=e;omega,⟨A9,c9,((hk2.frP hf (by omega)).fr f9 fun e=>by have e':w.heap.size+2≤w.heap.size+1:=e;omega).set 0 _,?_⟩,Nat.le_trans h.b (Nat.le_trans hf.size f10.size)⟩
 rw [vdCs_take hy]
 exact fS.own hown fun g hg e=>by have e':g=w.heap.size+1:=e;have:=obg hown g hg;omega
theorem vds_own {w Y:World} {B:Nat} {A:Option Addr} {c:Nat} {vs:List Vd} (h:w.ownsRow B 62 3 (.slice A vs.length c) vs.length (vdCs vs)) (hY:∀ g,(Value.slice A vs.length c).ownBlock=some g→Y.heap[g]?=w.heap[g]?):VdsAt Y A vs∧SlOk A vs.length c:=by
 have hY2:=hY
 rcases h.2 with ⟨e,h0⟩ | ⟨g,cap,cur,e,hg,hh,hc1,hc2,hc3,hc4⟩
 ·injection e with e1 e2 e3
  subst e1 e3
  refine ⟨fun k x hk=>?_,by omega,fun _=>rfl⟩
  have:=(List.getElem?_eq_some_iff.1 hk).1;omega
 ·injection e with e1 e2 e3
  subst e1 e3
  refine ⟨fun k x hk=>⟨g,0,rfl,?_⟩,hc1,fun e=>by cases e⟩
  have hcell:∀ (j:Nat) (u:Value),(vdCs vs)[j]?=some u→Y.cell? ⟨g,j,none⟩=some u:=fun j u hu=>by
   have:=h.cells (g:=g) rfl j u hu
   rw [add0] at this
   rw [World.cell?_of_block (hY g rfl)];exact this
  obtain ⟨q0,q1,q2⟩:=vdCs_get hk
  rw [Nat.zero_add]
  exact ⟨hcell _ _ q0,hcell _ _ q1,hcell _ _ q2⟩
def PgP (p:Ps) (P:Pg) (k:Nat) (w:World) (e:Ending) (w':World):Prop:=∃ Av cv Am cm,e=.returned (.agg (pgC P Av none Am cv 0 cm))∧(∀ Y:World,(∀ j,w.heap.size≤j→j<w'.heap.size→Y.heap[j]?=w'.heap[j]?)→PgAt Y Av none Am P)∧SlOk Av P.vars.length cv∧PsO w' p k∧Fr w w' (fun k=>k=p.PB)
theorem prog_fin {w V V2:World} {p:Ps} {vs:List Vd} {x:Nd} {k k':Nat} {A Am:Option Addr} {c cm:Nat} (hH:FinH w p) (h:DclI w p vs vs.length k V) (hk2:Bx V (w.heap.size+1) (pgV A vs.length c)) (hkr:V.ownsRow (w.heap.size+2) 62 3 (.slice A vs.length c) vs.length (vdCs vs)) (h1:PsO V2 p k') (hf:Fr V V2 (fun k=>k=p.PB)) (hD:NdsD V2 V.heap.size V2.heap.size Am x.kids) :
  Bx ((((V2.setCell ⟨w.heap.size+1,2,none⟩ (.int .u8 x.kind)).setCell ⟨w.heap.size+1,3,none⟩ (.int .i64 x.num)).setCell ⟨w.heap.size+1,4,none⟩ (.string x.name)).setCell ⟨w.heap.size+1,5,none⟩ (.slice Am x.kids.length cm)) (w.heap.size+1) (pgC ⟨vs,[],x⟩ A none Am c 0 cm)∧
  Bx ((((V2.setCell ⟨w.heap.size+1,2,none⟩ (.int .u8 x.kind)).setCell ⟨w.heap.size+1,3,none⟩ (.int .i64 x.num)).setCell ⟨w.heap.size+1,4,none⟩ (.string x.name)).setCell ⟨w.heap.size+1,5,none⟩ (.slice Am x.kids.length cm)) w.heap.size pg0∧
  ∀ WF:World,Fr ((((V2.setCell ⟨w.heap.size+1,2,none⟩ (.int .u8 x.kind)).setCell ⟨w.heap.size+1,3,none⟩ (.int .i64 x.num)).setCell ⟨w.heap.size+1,4,none⟩ (.string x.name)).setCell ⟨w.heap.size+1,5,none⟩ (.slice Am x.kids.length cm)) WF (fun k=>k=w.heap.size)→PgP p ⟨vs,[],x⟩ k' w (.returned (.agg (pgC ⟨vs,[],x⟩ A none Am c 0 cm))) WF:=by
 have hp:=hH.pb
 have hm:=hH.mb
 have hs:=h.b
 have hz2:=hf.size
 have hN:=(hk2.frP hf (by omega)).set 2 (.int .u8 x.kind)
 have hN:=hN.set 3 (.int .i64 x.num)
 have hN:=hN.set 4 (.string x.name)
 have hN:=hN.set 5 (.slice Am x.kids.length cm)
 have f4:Fr V2 ((((V2.setCell ⟨w.heap.size+1,2,none⟩ (.int .u8 x.kind)).setCell ⟨w.heap.size+1,3,none⟩ (.int .i64 x.num)).setCell ⟨w.heap.size+1,4,none⟩ (.string x.name)).setCell ⟨w.heap.size+1,5,none⟩ (.slice Am x.kids.length cm)) (fun k=>k=w.heap.size+1):=
  (((Fr.of_set V2 ⟨w.heap.size+1,2,none⟩ _).trans (Fr.of_set _ ⟨w.heap.size+1,3,none⟩ _) fun _ _ e=>e).trans (Fr.of_set _ ⟨w.heap.size+1,4,none⟩ _) fun _ _ e=>e).trans (Fr.of_set _ ⟨w.heap.size+1,5,none⟩ _) fun _ _ e=>e
 have hR:=(h.rb.frP hf hp).fr f4 (fun e=>by have e':w.heap.size=w.heap.size+1:=e;omega)
 refine ⟨hN,hR,fun WF hW=>?_⟩
 have f5:Fr V2 WF (fun k=>w.heap.size≤k∧k<w.heap.size+2):=(f4.mono fun k _ e=>by have e':k=w.heap.size+1:=e;show w.heap.size≤k∧k<w.heap.size+2;omega).trans hW fun k _ e=>by have e':k=w.heap.size:=e;show w.heap.size≤k∧k<w.heap.size+2;omega
 have hsl:=(vds_own hkr (Y:=V) fun _ _=>rfl).2
 refine ⟨A,c,Am,cm,rfl,fun Y hY=>⟨(vds_own hkr fun g hg=>?_).1,fun k q hq=>(nomatch hq),?_⟩,hsl,h1.fr0 f5 (fun e=>by have e':w.heap.size≤p.PB∧p.PB<w.heap.size+2:=e;omega) (fun e=>by have e':w.heap.size≤p.MB∧p.MB<w.heap.size+2:=e;omega) fun k _ e=>.inr fun b o hb e2=>by have e':w.heap.size≤k∧k<w.heap.size+2:=e;have:=hH.a b o hb;omega,(h.fr.then hf).trans f5 fun k hk e=>by have e':w.heap.size≤k∧k<w.heap.size+2:=e;omega⟩
 ·have hgl:=(hkr.lt g hg).2
  have hgb:=obg hkr g hg
  have hsz:=f5.size
  rw [hY g (by omega) (by omega),f5.block g (by omega) (fun e=>by have e':w.heap.size≤g∧g<w.heap.size+2:=e;omega)]
  exact hf.block g hgl fun e=>by have e':g=p.PB:=e;omega
 ·have hsz:=f5.size
  exact hD Y fun k q1 q2=>(hY k (by omega) (by omega)).trans (f5.block k q2 fun e=>by have e':w.heap.size≤k∧k<w.heap.size+2:=e;omega)
theorem program_parsed {p:Ps} {k k':Nat} {vs:List Vd} {x:Nd} {ks:Nat→Nat} (hd:DclS p vs k ks) (h0:0<p.toks.length) (hm:(tkA p.toks (ks vs.length)).text=⟨#[109,97,105,110]⟩) (hC:NdC 77 [] p x (ks vs.length+1) k') {w:World} (h:PsO w p k) :
  Calls Tryz.prog 45 #[.pointer (some ⟨p.PB,0,none⟩)] w (PgP p ⟨vs,[],x⟩ k' w):=by
 have HH:=kp (h.finH h0)
 have HT:=kp (two_box w (Obj.cells pg0 28) (Obj.cells pg0 28))
 have HR:=kp ((bxn w pg0 28).below (blb _ (Obj.cells pg0 28)))
 have HN:=kp (show Bx ((w.alloc (Obj.cells pg0 28)).alloc (Obj.cells pg0 28)) (w.heap.size+1) pg0 from by have:=bxn (w.alloc (Obj.cells pg0 28)) pg0 28;rwa [World.size_alloc] at this)
 have hzw:((w.alloc (Obj.cells pg0 28)).alloc (Obj.cells pg0 28)).heap.size=w.heap.size+2:=by simp
 have HP:=kp (h.below HT.out)
 have HS:=kp hd
 have HM:=kp hm
 have HC:=kp hC
 obtain ⟨i0,hi0,hz0,hz1,hz2⟩:=info_parts info_vd
 have HI0:=kp (And.intro hi0 (And.intro hz0 (And.intro hz1 hz2)))
 clear h hd h0 hm hC hi0 hz0 hz1 hz2
 go_enter Tryz.func45,Tryz.ntmps45
 go_upto_region 2 with fail
 generalize (w.alloc _).alloc _=V at HT HR HN HP hzw ⊢
 have HV:=kp hzw
 clear hzw
 have HK1:=kp (show DclI w p vs 0 (ks 0) V from by
  rw [HS.out.z]
  exact ⟨HP.out,Fr.of_below HT.out _,HR.out,⟨none,0,HN.out,World.ownsRow_nil _ _ _ _⟩,by have:=HV.out;omega⟩)
 go_loopw [] (fun wr=>∃ i:Nat,i≤vs.length∧Hid (DclI w p vs i (ks i) wr)) (fun wr=>mesP p wr)
 case atStart=>exact ⟨0,by omega,HK1⟩
 case round=>
  obtain ⟨i,hi,HI⟩:=hrel
  by_cases hin:i<vs.length
  ·obtain ⟨s1,s2,s3⟩:=HS.out.st i _ (List.getElem?_eq_getElem hin)
   have HY:=kp (List.getElem?_eq_getElem hin)
   generalize vs[i]=y at s1 HY
   have HA:=kp (atDecl_any (b:=true) HI.out.ps s2.symm)
   have HDC:=kp s1
   have HL:=kp s3
   have HX:=kp HS.out.l
   clear s1 s2 s3
   go_wp2_with fail
   refine HA.out.mono ?_
   rintro e W1 ⟨rfl,hb1⟩
   have H1:=kp (HI.out.frP (pos':=ks i) HH.out.pb (HI.out.ps.below hb1) (Fr.of_below hb1 _))
   have HM1:=kp (HI.out.ps.mes)
   clear hb1
   obtain ⟨A,c,hnb,hkr⟩:=H1.out.kr
   have HNB:=kp hnb
   have HKR:=kp hkr
   have n0:=hnb.cell (j:=0) rfl
   have hln:=hnb.lt
   have hq:((i:Int) == 32)=false:=beqF (b:=32) (by have:=HX.out;omega)
   clear hnb hkr
   go_upto_region 5 with fail
   have HC2:=kp (HDC.out W1.drew (H1.out.ps.below (bld (Below.refl _ _))))
   have HPB:=kp HH.out.pb
   have f0:=HNB.out.free 0
   go_region_law (first
    | (refine step_app _ (by rfl) (.tmp 16) (.tmp 19) 22 (by rfl) (w.heap.size+2) 62 i0 (.agg #[.string ⟨#[]⟩,.int .u8 0,.int .i64 0]) 3 32 Tryz.underlying22 HI0.out.1 HI0.out.2.1 HI0.out.2.2.1 HI0.out.2.2.2 rfl (by decide) (.slice A i c) i (vdCs (vs.take i)) (by first | (simp [Act.eval];done) | (simp [Act.eval,Act.put];done)) (obl HO8.out (blb _ _)) (some ⟨w8.heap.size,0,none⟩) 1 1 [.string y.name,.int .u8 y.kind,.int .i64 y.len] (by first | (simp [Act.eval];done) | (simp [Act.eval,Act.put];done)) rfl (cnu w8 rfl [.string y.name,.int .u8 y.kind,.int .i64 y.len] _) (fun u hu=>by simp at hu;rcases hu with rfl | rfl | rfl<;>rfl) (by have:=HX.out;unfold maxLen;omega) (by have:=HX.out;omega) (by have:=HS8.out;simp;omega) ?_;intro v' w9 hown' hgrow hat;have HMM:=kp (H1.out.push HH.out HY.out HNB.out HKR.out H8.out.1 H8.out.2 _ hown' hgrow);have HQ:=kp ((HN8.out.below (blb w8 _)).fr (Fr.of_grown hgrow) (fun e=>by have:=obg HKR.out _ e.symm;omega));have z0:=HQ.out.cell (j:=0) rfl;have zf:=HQ.out.free 0;have hlz:=HQ.out.lt;obtain ⟨A9,c9,rfl,hc9,hqq⟩:=ofb hown';clear hqq hc9 hown' hgrow hat)
    | (go_simp;go_at_call 74;(with_reducible refine Calls.mono HC2.out ?_);rintro e w8 ⟨rfl,hp8,hf8⟩;have H8:=kp (And.intro hp8 ((Fr.of_below (bld (Below.refl _ W1)) (fun k=>k=p.PB)).then hf8));have HN8:=kp (HNB.out.frP H8.out.2 (by have:=HPB.out;omega));have HO8:=kp (H8.out.2.own HKR.out (fun g hg e=>by have e':g=p.PB:=e;have:=obg HKR.out g hg;have:=HPB.out;omega));have HS8:=kp (Nat.le_trans H1.out.b H8.out.2.size);have n0:=HN8.out.cell (j:=0) rfl;have hln:=HN8.out.lt;clear hp8 hf8;dsimp only)
    | fail)
   all_goals
    go_simp
    go_wp2_with fail
    refine ⟨⟨i+1,by omega,HMM⟩,?_⟩
    rw [HMM.out.ps.mes,HM1.out]
    have:=HL.out
    have:=HI.out.ps.le
    omega
  ·obtain rfl:i=vs.length:=by omega
   have HA:=kp (atDecl_any (b:=false) HI.out.ps HS.out.c.symm)
   go_wp2_with fail
   refine HA.out.mono ?_
   rintro e W1 ⟨rfl,hb1⟩
   have H1:=kp (HI.out.frP (pos':=ks vs.length) HH.out.pb (HI.out.ps.below hb1) (Fr.of_below hb1 _))
   clear hb1
   obtain ⟨A,c,hnb,hkr⟩:=H1.out.kr
   rw [List.take_length] at hkr
   have HNB:=kp hnb
   have HKR:=kp hkr
   have HPK:=kp (fun (W:World) (hW:PsO W p (ks vs.length))=>peek_any hW)
   have e1:=lit_eq (tkA p.toks (ks vs.length)).text ⟨#[112,114,111,99]⟩ [112,114,111,99] (by decide +kernel)
   rw [decide_eq_false (by rw [HM.out];decide)] at e1
   have HE:=kp (fun (W:World) (hW:PsO W p (ks vs.length))=>expect_any hW (s:=⟨#[109,97,105,110]⟩) (by decide) HM.out)
   have hf1:=fld1
   generalize tkA p.toks (ks vs.length)=t at HPK e1
   clear hnb hkr hi hin
   obtain ⟨wo,rfl⟩:∃ y,y=wr:=⟨_,rfl⟩
   go_upto_region 6 with fail
   go_loopw [] (fun wr=>wr=W1) (fun _=>0)
   case atStart=>exact rfl
   case round=>
    obtain rfl:=hrel
    go_wp2_with fail
    refine (HPK.out wr H1.out.ps).mono ?_
    rintro e W2 ⟨rfl,hb2⟩
    have H2:=kp (And.intro (H1.out.ps.below hb2) (Fr.of_below hb2 (fun k=>k=p.PB)))
    clear hb2
    go_wp2_with fail
    refine (HE.out W2 H2.out.1).mono ?_
    rintro e W3 ⟨rfl,h1,h2⟩
    have H3:=kp (And.intro h1 (H2.out.2.then h2))
    clear h1 h2
    go_wp2_with fail
    refine (HC.out W3 H3.out.1).mono ?_
    rintro e W4 ⟨Am,cm,rfl,hD,hS,h1,h2⟩
    have hpb:p.PB<w.heap.size+1:=by have:=HH.out.pb;omega
    have HZ:=kp (prog_fin (cm:=cm) HH.out H1.out HNB.out HKR.out h1 (H3.out.2.then h2) (hD.wide H3.out.2.size (Nat.le_refl _)))
    have hN4:=kp (HNB.out.frP (H3.out.2.then h2) hpb)
    obtain ⟨a0,a1,a2,a3,a4,a5⟩:=hN4.out.six1
    have g2:=hN4.out.free 2
    have g3:=hN4.out.free 3
    have g4:=hN4.out.free 4
    have g5:=hN4.out.free 5
    have hla:=hN4.out.lt
    clear hD hS h1 h2
    go_upto_region 12 with fail
    generalize World.setCell _ _ _=W5 at HZ ⊢
    clear a0 a1 a2 a3 a4 a5 g2 g3 g4 g5 hla
    obtain ⟨a0,a1,a2,a3,a4,a5⟩:=HZ.out.1.six1
    have hla:=HZ.out.1.lt
    obtain ⟨⟨r0,r1,r2,r3,r4,r5⟩,f0,f1,f2,f3,f4,f5⟩:=HZ.out.2.1.six
    have hlr:=HZ.out.2.1.lt
    have HQ:=kp (HZ.out.2.1.set6 (.slice A vs.length c) (.slice none 0 0) (.int .u8 x.kind) (.int .i64 x.num) (.string x.name) (.slice Am x.kids.length cm))
    have HFF:=kp (Fr.set6 W5 w.heap.size (.slice A vs.length c) (.slice none 0 0) (.int .u8 x.kind) (.int .i64 x.num) (.string x.name) (.slice Am x.kids.length cm))
    go_wp2_with fail
    generalize World.setCell _ _ _=WF at HQ HFF ⊢
    obtain ⟨q0,q1,q2,q3,q4,q5⟩:=HQ.out.six1
    exact bodyPost_ret (v:=.agg (pgC ⟨vs,[],x⟩ A none Am c 0 cm)) (by simp [results,Tryz.results45,go_sem,q0,q1,q2,q3,q4,q5]) rfl (HZ.out.2.2 WF HFF.out)
end Go.Proofs.YtgbomnibedefoaaGreatDoor
