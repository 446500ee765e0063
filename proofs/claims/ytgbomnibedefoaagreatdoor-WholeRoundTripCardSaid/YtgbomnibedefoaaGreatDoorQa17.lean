import Derived.Test.YtgbomnibedefoaaGreatDoorQa16
set_option maxRecDepth 100000
set_option maxHeartbeats 8000000
namespace Go.Proofs.YtgbomnibedefoaaGreatDoor
open Go.ChangeShapes Go.WideShapes Go.ChangeAt Go.RowKit Go.Sort
def NdsD (w:World) (lo hi:Nat) (A:Option Addr) (l:List Nd):Prop:=∀ Y:World,(∀ k,lo≤k→k<hi→Y.heap[k]?=w.heap[k]?)→NdsAt Y A l
theorem NdsD.at_ {w:World} {lo hi:Nat} {A:Option Addr} {l:List Nd} (h:NdsD w lo hi A l):NdsAt w A l:=h w fun _ _ _=>rfl
theorem NdsD.move {w w':World} {lo hi:Nat} {A:Option Addr} {l:List Nd} (h:NdsD w lo hi A l) (hk:∀ k,lo≤k→k<hi→w'.heap[k]?=w.heap[k]?):NdsD w' lo hi A l:=fun Y hY=>h Y fun k h1 h2=>(hY k h1 h2).trans (hk k h1 h2)
theorem NdsD.wide {w:World} {lo hi lo' hi':Nat} {A:Option Addr} {l:List Nd} (h:NdsD w lo hi A l) (h1:lo'≤lo) (h2:hi≤hi'):NdsD w lo' hi' A l:=fun Y hY=>h Y fun k h3 h4=>hY k (Nat.le_trans h1 h3) (Nat.lt_of_lt_of_le h4 h2)
structure KidsR (wr:World) (B:Nat) (v:Value) (l:List Nd) (k:Nat) (cs:List Value):Prop where
 own:wr.ownsRow B 26 4 v k cs
 kids:∀ (i:Nat) (y:Nd),i<k→l[i]?=some y→∃ (A:Option Addr) (c lo hi:Nat),cs[i*4]?=some (.int .u8 y.kind)∧cs[i*4+1]?=some (.int .i64 y.num)∧cs[i*4+2]?=some (.string y.name)∧cs[i*4+3]?=some (.slice A y.kids.length c)∧NdsD wr lo hi A y.kids∧B≤lo∧hi≤wr.heap.size∧∀ g,v.ownBlock=some g→g<lo∨hi≤g
theorem KidsR.below {wr wm:World} {B:Nat} {v:Value} {l:List Nd} {k:Nat} {cs:List Value} (h:KidsR wr B v l k cs) (hb:Below wr.heap.size wr wm):KidsR wm B v l k cs:=by
 obtain ⟨h1,h2⟩:=h
 refine ⟨obl h1 hb,fun i y hi hy=>?_⟩
 obtain ⟨A,c,lo,hh,a,b,d,e,f,g,m,n⟩:=h2 i y hi hy
 exact ⟨A,c,lo,hh,a,b,d,e,f.move fun k _ hk=>hb.block k (by omega),g,Nat.le_trans m hb.size,n⟩
theorem KidsR.push {wr wm w9:World} {B:Nat} {v v':Value} {l:List Nd} {k:Nat} {cs:List Value} (h:KidsR wr B v l k cs) {y:Nd} (hy:l[k]?=some y) {A:Option Addr} {c:Nat} (hb:Below wr.heap.size wr wm) (hD:NdsD wm wr.heap.size wm.heap.size A y.kids) (hB:B≤wr.heap.size)
  (T:Nat) (hown:w9.ownsRow B 26 4 v' (k+1) (cs++[.int .u8 y.kind,.int .i64 y.num,.string y.name,.slice A y.kids.length c])) (hg:(wm.alloc (Obj.cells (ndC y A c) T)).grownBy w9 v.ownBlock) (hat:v'.ownBlock=v.ownBlock∨v'.ownBlock=some (wm.alloc (Obj.cells (ndC y A c) T)).heap.size):KidsR w9 B v' l (k+1) (cs++[.int .u8 y.kind,.int .i64 y.num,.string y.name,.slice A y.kids.length c]):=by
 obtain ⟨h1,h2⟩:=h
 have hlen:cs.length=k*4:=h1.1
 have hlt:∀ g,v.ownBlock=some g→g<wr.heap.size:=fun g hgg=>(h1.lt g hgg).2
 have hs:=hb.size
 have hs9:=hg.size
 rw [World.size_alloc] at hs9 hat
 have key:∀ kk,(∀ g,v.ownBlock=some g→g≠kk)→kk<wm.heap.size→w9.heap[kk]?=wm.heap[kk]?:=fun kk hn hk=>by
  rw [hg.block kk (by rw [World.size_alloc];omega) (fun e=>hn kk e.symm rfl)]
  exact (blb wm _).block kk hk
 refine ⟨hown,fun i z hi hz=>?_⟩
 by_cases hik:i<k
 ·obtain ⟨A2,c2,lo,hh,a,b,d,e,f,g,m,n⟩:=h2 i z hik hz
  refine ⟨A2,c2,lo,hh,?_,?_,?_,?_,f.move fun kk h3 h4=>?_,g,by omega,fun g' hg'=>?_⟩
  ·rw [List.getElem?_append_left (by omega)];exact a
  ·rw [List.getElem?_append_left (by omega)];exact b
  ·rw [List.getElem?_append_left (by omega)];exact d
  ·rw [List.getElem?_append_left (by omega)];exact e
  ·rw [key kk (fun g' hg' e'=>by rcases n g' hg' with q | q<;>omega) (by omega)]
   exact hb.block kk (by omega)
  ·rcases hat with q | q
   ·exact n g' (q▸hg')
   ·rw [q] at hg';cases hg';exact .inr (by omega)
 ·obtain rfl:i=k:=by omega
  rw [hy] at hz
  cases hz
  refine ⟨A,c,wr.heap.size,wm.heap.size,?_,?_,?_,?_,hD.move fun kk h3 h4=>key kk (fun g hg' e=>by have:=hlt g hg';omega) h4,hB,by omega,fun g hg'=>?_⟩
  ·rw [List.getElem?_append_right (by omega),hlen];simp
  ·rw [List.getElem?_append_right (by omega),hlen];simp
  ·rw [List.getElem?_append_right (by omega),hlen];simp
  ·rw [List.getElem?_append_right (by omega),hlen];simp
  ·rcases hat with q | q
   ·exact .inl (hlt g (q▸hg'))
   ·rw [q] at hg';cases hg';exact .inr (by omega)
theorem KidsR.done {wr:World} {B:Nat} {v:Value} {l:List Nd} {cs:List Value} (h:KidsR wr B v l l.length cs):∃ A c,v=.slice A l.length c∧SlOk A l.length c∧NdsD wr B wr.heap.size A l:=by
 obtain ⟨h1,h2⟩:=h
 rcases h1.2 with ⟨rfl,h0⟩ | ⟨g,cap,cur,rfl,hg,hh,hc1,hc2,hc3,hc4⟩
 ·refine ⟨none,0,by rw [h0],⟨by omega,fun _=>rfl⟩,fun Y _ k x hk=>?_⟩
  have:l=[]:=List.length_eq_zero_iff.1 h0
  subst this;simp at hk
 ·refine ⟨some ⟨g,0,none⟩,cap,rfl,⟨hc1,fun e=>by cases e⟩,fun Y hY k x hk=>⟨g,0,rfl,?_⟩⟩
  have hkl:k<l.length:=(List.getElem?_eq_some_iff.1 hk).1
  obtain ⟨A,c,lo,hi,a,b,d,e,f,gg,m,n⟩:=h2 k x hkl hk
  have hgl:g<wr.heap.size:=lt_of_block hh
  have hcell:∀ (j:Nat) (u:Value),cs[j]?=some u→Y.cell? ⟨g,j,none⟩=some u:=fun j u hu=>by
   have:=h1.cells (g:=g) rfl j u hu
   rw [add0] at this
   rw [World.cell?_of_block (hY g hg hgl)];exact this
  have hks:=f Y fun kk h3 h4=>hY kk (by omega) (by omega)
  rw [Nat.zero_add]
  refine NdO.mk (A:=A) (cap:=c) (b':=(A.getD ⟨0,0,none⟩).block) (o':=(A.getD ⟨0,0,none⟩).off) (hcell _ _ a) (hcell _ _ b) (hcell _ _ d) (hcell _ _ e) (fun hp=>?_) (fun kk y hy=>?_)
  ·obtain ⟨b',o',e',_⟩:=hks.at_ hp
   rw [e'];rfl
  ·obtain ⟨b',o',e',h'⟩:=hks kk y hy
   rw [e'];exact h'
theorem KidsR.nil (w:World) (B:Nat) (l:List Nd):KidsR w B (.slice none 0 0) l 0 []:=⟨⟨by simp,.inl ⟨rfl,rfl⟩⟩,fun i y hi=>by omega⟩
theorem info_nd:(Tryz.prog.info? 26).map (fun i=>(i.zero,i.size,i.bytes))=some (some (.agg #[.int .u8 0,.int .i64 0,.string ⟨#[]⟩,.slice none 0 0]),4,56):=by kernel_rfl
theorem Bx.set4 {w:World} {b:Nat} {u0 u1 u2 u3:Value} (h:Bx w b #[u0,u1,u2,u3]) (v0 v1 v2 v3:Value):Bx ((((w.setCell ⟨b,0,none⟩ v0).setCell ⟨b,1,none⟩ v1).setCell ⟨b,2,none⟩ v2).setCell ⟨b,3,none⟩ v3) b #[v0,v1,v2,v3]:=
 (((h.set 0 v0).set 1 v1).set 2 v2).set 3 v3
theorem Fr.set4 (w:World) (b:Nat) (v0 v1 v2 v3:Value):Fr w ((((w.setCell ⟨b,0,none⟩ v0).setCell ⟨b,1,none⟩ v1).setCell ⟨b,2,none⟩ v2).setCell ⟨b,3,none⟩ v3) (fun k=>k=b):=
 (((Fr.of_set w ⟨b,0,none⟩ v0).trans (Fr.of_set _ ⟨b,1,none⟩ v1) fun _ _ e=>e).trans (Fr.of_set _ ⟨b,2,none⟩ v2) fun _ _ e=>e).trans (Fr.of_set _ ⟨b,3,none⟩ v3) fun _ _ e=>e
def ClP (x:Nd) (w:World) (e:Ending) (w':World):Prop:=∃ A c,e=.returned (.agg (ndC x A c))∧NdsD w' w.heap.size w'.heap.size A x.kids∧SlOk A x.kids.length c∧Below w.heap.size w w'
theorem clone_any:∀ (N:Nat) (x:Nd),szT x≤N→N≤1000000→∀ (A:Option Addr) (cap:Nat) (w:World),NdsAt w A x.kids→Calls Tryz.prog 35 #[.agg (ndC x A cap)] w (ClP x w):=by
 intro N
 induction N with
 | zero=>intro x hx;have:=szT_pos x;omega
 | succ N ih=>
   intro x hx hN A cap w hK
   have hl:x.kids.length≤1000000:=by have:=szL_len x.kids;have:=szT_eq x;omega
   have HT:=kp (tw2 w (ndC x A cap) #[.int .u8 0,.int .i64 0,.string ⟨#[]⟩,.slice none 0 0] 26 26)
   have hsz:((w.alloc (Obj.cells (ndC x A cap) 26)).alloc (Obj.cells #[.int .u8 0,.int .i64 0,.string ⟨#[]⟩,.slice none 0 0] 26)).heap.size=w.heap.size+2:=by simp
   have HK:=kp (hK.mono HT.out.1)
   have HIH:=kp (fun (y:Nd) (hy:y∈x.kids)=>ih y (by have:=szT_kid hy;omega) (by omega))
   obtain ⟨i0,hi0,hz0,hz1,hz2⟩:=info_parts info_nd
   have HI:=kp (And.intro hi0 (And.intro hz0 (And.intro hz1 hz2)))
   clear hi0 hz0 hz1 hz2 hK ih
   go_enter Tryz.func35,Tryz.ntmps35
   go_upto_region 1 with fail
   generalize (w.alloc _).alloc _=W at HT HK hsz ⊢
   obtain ⟨a0,a1,a2,a3,_⟩:=HT.out.2.1.four
   have hla:=HT.out.2.1.lt
   go_wp2_with fail
   go_loopw [3,9] (fun v i wr=>∃ k:Nat,k≤x.kids.length∧i=.int .i64 k∧Hid ((∃ cs,KidsR wr W.heap.size v x.kids k cs)∧Below W.heap.size W wr)) (fun _ i _=>x.kids.length - (intOf i).toNat)
   case atStart=>exact ⟨0,by omega,rfl,kp ⟨⟨[],KidsR.nil _ _ _⟩,Below.refl _ _⟩⟩
   case round=>
    obtain ⟨k,hk,rfl,HR⟩:=hrel
    clear a0 a1 a2 a3 hla
    have HRW:=kp (HT.out.2.1.below HR.out.2)
    obtain ⟨a0,a1,a2,a3,_,_,_,af⟩:=HRW.out.four
    have hla:=HRW.out.lt
    by_cases hin:k<x.kids.length
    ·obtain ⟨bk,ok,A',cap',rfl,hbk,k0,k1,k2,k3,hKK⟩:=HK.out.kid hin
     have k0:=blc HR.out.2 k0
     have k1:=blc HR.out.2 k1
     have k2:=blc HR.out.2 k2
     have k3:=blc HR.out.2 k3
     have hbk:=block_lt_of_cell k0
     have HC:=kp (fun (V:World) (hV:Below wr.heap.size wr V)=>HIH.out x.kids[k] (List.getElem_mem hin) A' cap' V ((hKK.mono HR.out.2).mono hV))
     have HY:=kp (List.getElem?_eq_getElem hin)
     have r0:(0:Int)≤k:=by omega
     have r1:(k:Int)<x.kids.length:=by omega
     have HBX:=kp (blb wr (Obj.cells (ndC x.kids[k] A' cap') 26))
     have HRX:=kp (bxn wr (ndC x.kids[k] A' cap') 26)
     have hsz2:(wr.alloc (Obj.cells (ndC x.kids[k] A' cap') 26)).heap.size=wr.heap.size+1:=by simp
     clear hKK
     generalize x.kids[k]=y at *
     go_upto_region 5 with fail
     generalize wr.alloc _=V at HBX HRX hsz2 ⊢
     obtain ⟨b0,b1,b2,b3,_⟩:=HRX.out.four
     have hlb:=HRX.out.lt
     have HC1:=kp (HC.out V HBX.out)
     have HZB:=kp (show W.heap.size≤wr.heap.size from HR.out.2.size)
     go_wp2_with fail
     refine HC1.out.mono ?_
     rintro e w8 ⟨A8,c8,rfl,hd8,hs8,hb8⟩
     have HB8:=kp (bls HBX.out HBX.out.size hb8)
     obtain ⟨cs,hcs⟩:=HR.out.1
     have HCS:=kp hcs
     have hown:=(hcs.below HB8.out).own
     clear hcs
     have HD8:=kp (hd8.wide (lo':=wr.heap.size) (by omega) (Nat.le_refl _))
     obtain ⟨Av,cv,rfl,hcv,_⟩:=ofb hown
     have HO8:=kp hown
     have HZ8:=kp hb8.size
     clear hd8 hs8 hb8 hown
     go_wp2_with (at_builtin;go_loud (refine wpList_app _ rfl _ _ 24 rfl W.heap.size 26 i0 (.agg #[.int .u8 0,.int .i64 0,.string ⟨#[]⟩,.slice none 0 0]) 4 56 Tryz.underlying24 HI.out.1 HI.out.2.1 HI.out.2.2.1 HI.out.2.2.2 rfl (by decide) (.slice Av k cv) k cs rfl (obl HO8.out (blb _ _)) (some ⟨w8.heap.size,0,none⟩) 1 1 [.int .u8 y.kind,.int .i64 y.num,.string y.name,.slice A8 y.kids.length c8] rfl rfl (cnu w8 rfl [.int .u8 y.kind,.int .i64 y.num,.string y.name,.slice A8 y.kids.length c8] 26) (fun u hu=>by simp at hu;rcases hu with rfl | rfl | rfl | rfl<;>rfl) (by unfold maxLen;omega) (by omega) (by have:=HZB.out;have:=HZ8.out;simp;omega) ?_;intro v' w9 hown' hgrow hat))
     have HN:=kp (show (∃ cs',KidsR w9 W.heap.size v' x.kids (k+1) cs')∧Below W.heap.size W w9 from by
      refine ⟨⟨_,HCS.out.push HY.out HB8.out HD8.out HZB.out _ hown' hgrow hat⟩,?_⟩
      refine (Fr.of_grown hgrow).toBelow (bls (bls HR.out.2 HZB.out HB8.out) (by have:=HB8.out.size;have:=HZB.out;omega) (blb w8 _)) (by have:=HB8.out.size;have:=HZB.out;simp;omega) fun g hg=>obg HO8.out g hg.symm)
     clear hown' hgrow hat
     go_wp2_with fail
     exact ⟨⟨k+1,by omega,by go_num,HN⟩,by simp [intOf];omega⟩
    ·obtain rfl:k=x.kids.length:=by omega
     obtain ⟨cs,hcs⟩:=HR.out.1
     obtain ⟨A9,c9,rfl,hs9,hd9⟩:=hcs.done
     have HD9:=kp (And.intro hs9 hd9)
     clear hcs hs9 hd9
     have HQ:=kp (HT.out.2.2.below HR.out.2)
     obtain ⟨e0,e1,e2,e3,ef0,ef1,ef2,ef3⟩:=HQ.out.four
     have hle:=HQ.out.lt
     have HB9:=kp (show Bx (((((wr.setCell ⟨w.heap.size,3,none⟩ (.slice A9 x.kids.length c9)).setCell ⟨w.heap.size+1,0,none⟩ (.int .u8 x.kind)).setCell ⟨w.heap.size+1,1,none⟩ (.int .i64 x.num)).setCell ⟨w.heap.size+1,2,none⟩ (.string x.name)).setCell ⟨w.heap.size+1,3,none⟩ (.slice A9 x.kids.length c9)) (w.heap.size+1) (ndC x A9 c9) from (HQ.out.fr (Fr.of_set wr ⟨w.heap.size,3,none⟩ _) (fun e=>by have e':w.heap.size+1=w.heap.size:=e;omega)).set4 _ _ _ _)
     have HF9:=kp (show Fr wr (((((wr.setCell ⟨w.heap.size,3,none⟩ (.slice A9 x.kids.length c9)).setCell ⟨w.heap.size+1,0,none⟩ (.int .u8 x.kind)).setCell ⟨w.heap.size+1,1,none⟩ (.int .i64 x.num)).setCell ⟨w.heap.size+1,2,none⟩ (.string x.name)).setCell ⟨w.heap.size+1,3,none⟩ (.slice A9 x.kids.length c9)) (fun k=>w.heap.size≤k∧k<w.heap.size+2) from ((Fr.of_set wr ⟨w.heap.size,3,none⟩ _).mono fun k _ e=>⟨by have e':k=w.heap.size:=e;omega,by have e':k=w.heap.size:=e;omega⟩).trans (Fr.set4 _ (w.heap.size+1) _ _ _ _) fun k _ e=>⟨by omega,by omega⟩)
     go_wp2_with fail
     generalize World.setCell _ _ _=WF at HB9 HF9 ⊢
     obtain ⟨g0,g1,g2,g3,_⟩:=HB9.out.four
     exact bodyPost_ret (v:=.agg (ndC x A9 c9)) (by simp [results,Tryz.results35,go_sem,g0,g1,g2,g3]) rfl ⟨A9,c9,rfl,(HD9.out.2.move (w':=WF) fun k h1 h2=>HF9.out.block k h2 fun e=>by omega).wide (by omega) HF9.out.size,HD9.out.1,HF9.out.toBelow (bls HT.out.1 HT.out.1.size HR.out.2) (by have:=HR.out.2.size;omega) fun k e=>e.1⟩
mutual
theorem dpT_le:∀ x:Nd,dpT x≤szT x
 | .mk k nu nm kids=>by rw [dpT,szT];have:=dpL_le kids;omega
theorem dpL_le:∀ l:List Nd,dpL l≤szL l
 | []=>Nat.le_refl _
 | x::r=>by rw [dpL,szL];have:=dpT_le x;have:=dpL_le r;omega
end
def szA (l:List Nd) (m:Nat):Nat:=m+szL l
def dpA (l:List Nd) (m:Nat):Nat:=max m (dpL l)
theorem szA_at {l:List Nd} {k:Nat} (h:k<l.length) (m:Nat):szA (l.drop k) m=szA (l.drop (k+1)) (m+szT l[k]):=by
 rw [List.drop_eq_getElem_cons h];unfold szA;rw [szL];omega
theorem dpA_at {l:List Nd} {k:Nat} (h:k<l.length) (m:Nat):dpA (l.drop k) m=dpA (l.drop (k+1)) (max m (dpT l[k])):=by
 rw [List.drop_eq_getElem_cons h];unfold dpA;rw [dpL];omega
theorem size_any:∀ (N:Nat) (x:Nd),szT x≤N→N≤1000000→∀ (A:Option Addr) (cap:Nat) (w:World),NdsAt w A x.kids→Calls Tryz.prog 145 #[.agg (ndC x A cap)] w fun e w'=>e=.returned (.int .i64 (szT x))∧Below w.heap.size w w':=by
 intro N
 induction N with
 | zero=>intro x hx;have:=szT_pos x;omega
 | succ N ih=>
   intro x hx hN A cap w hK
   have hl:x.kids.length≤1000000:=by have:=szL_len x.kids;have:=szT_eq x;omega
   have HB:=kp (blb w (Obj.cells (ndC x A cap) 26))
   have HRX:=kp (bxn w (ndC x A cap) 26)
   have HK:=kp (hK.mono HB.out)
   have HIH:=kp (fun (y:Nd) (hy:y∈x.kids)=>ih y (by have:=szT_kid hy;omega) (by omega))
   have HSZ:=kp hx
   clear hK ih hx
   go_enter Tryz.func145,Tryz.ntmps145
   go_upto_region 1 with fail
   generalize w.alloc _=W at HB HRX HK ⊢
   obtain ⟨a0,a1,a2,a3,_⟩:=HRX.out.four
   have hla:=HRX.out.lt
   go_wp2_with fail
   go_loopw [3,9] (fun v i wr=>∃ k m:Nat,k≤x.kids.length∧i=.int .i64 k∧v=.int .i64 m∧m≤2000000∧Hid (szT x=szA (x.kids.drop k) m)∧Hid (Below W.heap.size W wr)) (fun _ i _=>x.kids.length - (intOf i).toNat)
   case atStart=>exact ⟨0,1,by omega,rfl,rfl,by omega,kp (by rw [List.drop_zero,szT_eq];unfold szA;omega),kp (Below.refl _ _)⟩
   case round=>
    obtain ⟨k,m,hk,rfl,rfl,hm,HE,HR⟩:=hrel
    clear a0 a1 a2 a3 hla
    have HRW:=kp (HRX.out.below HR.out)
    obtain ⟨a0,a1,a2,a3,_⟩:=HRW.out.four
    have hla:=HRW.out.lt
    by_cases hin:k<x.kids.length
    ·obtain ⟨bk,ok,A',cap',rfl,hbk,k0,k1,k2,k3,hKK⟩:=(HK.out.mono HR.out).kid hin
     have HC:=kp (fun (V:World) (hV:Below wr.heap.size wr V)=>HIH.out x.kids[k] (List.getElem_mem hin) A' cap' V (hKK.mono hV))
     have r0:(0:Int)≤k:=by omega
     have r1:(k:Int)<x.kids.length:=by omega
     have HBX:=kp (blb wr (Obj.cells (ndC x.kids[k] A' cap') 26))
     have HRY:=kp (bxn wr (ndC x.kids[k] A' cap') 26)
     have HZ:=kp (szA_at hin m)
     have hzk:szT x.kids[k]≤1000000:=by have h1:=szT_kid (List.getElem_mem hin);have:=HSZ.out;have:=dpT_le x.kids[k];omega
     clear hKK
     generalize szT x.kids[k]=n at *
     generalize x.kids[k]=y at *
     go_upto_region 5 with fail
     generalize wr.alloc _=V at HBX HRY ⊢
     obtain ⟨b0,b1,b2,b3,_⟩:=HRY.out.four
     have hlb:=HRY.out.lt
     have HC1:=kp (HC.out V HBX.out)
     go_wp2_with fail
     refine HC1.out.mono ?_
     rintro e w8 ⟨rfl,hb8⟩
     have HB8:=kp (bls HR.out HR.out.size (bls HBX.out HBX.out.size hb8))
     clear hb8
     have hmn:m+n≤1000000:=by
      have h1:=HE.out;rw [HZ.out] at h1;unfold szA at h1;have:=HSZ.out;omega
     go_wp2_with fail
     exact ⟨⟨k+1,m+n,by omega,by go_num,by go_num,by omega,kp (by rw [HE.out,HZ.out]),HB8⟩,by simp [intOf];omega⟩
    ·obtain rfl:k=x.kids.length:=by omega
     have HE2:=kp (show szT x=m from by rw [HE.out,List.drop_length];rfl)
     go_wp2_with fail
     go_ret
     exact ⟨by rw [HE2.out];rfl,bls HB.out HB.out.size HR.out⟩
theorem depth_any:∀ (N:Nat) (x:Nd),szT x≤N→N≤1000000→∀ (A:Option Addr) (cap:Nat) (w:World),NdsAt w A x.kids→Calls Tryz.prog 144 #[.agg (ndC x A cap)] w fun e w'=>e=.returned (.int .i64 (dpT x))∧Below w.heap.size w w':=by
 intro N
 induction N with
 | zero=>intro x hx;have:=szT_pos x;omega
 | succ N ih=>
   intro x hx hN A cap w hK
   have hl:x.kids.length≤1000000:=by have:=szL_len x.kids;have:=szT_eq x;omega
   have HB:=kp (blb w (Obj.cells (ndC x A cap) 26))
   have HRX:=kp (bxn w (ndC x A cap) 26)
   have HK:=kp (hK.mono HB.out)
   have HIH:=kp (fun (y:Nd) (hy:y∈x.kids)=>ih y (by have:=szT_kid hy;omega) (by omega))
   have HSZ:=kp hx
   clear hK ih hx
   go_enter Tryz.func144,Tryz.ntmps144
   go_upto_region 1 with fail
   generalize w.alloc _=W at HB HRX HK ⊢
   obtain ⟨a0,a1,a2,a3,_⟩:=HRX.out.four
   have hla:=HRX.out.lt
   go_wp2_with fail
   go_loopw [3,9] (fun v i wr=>∃ k m:Nat,k≤x.kids.length∧i=.int .i64 k∧v=.int .i64 m∧m≤2000000∧Hid (dpT x=dpA (x.kids.drop k) m+1)∧Hid (Below W.heap.size W wr)) (fun _ i _=>x.kids.length - (intOf i).toNat)
   case atStart=>exact ⟨0,0,by omega,rfl,rfl,by omega,kp (by rw [List.drop_zero,dpT_eq];unfold dpA;omega),kp (Below.refl _ _)⟩
   case round=>
    obtain ⟨k,m,hk,rfl,rfl,hm,HE,HR⟩:=hrel
    clear a0 a1 a2 a3 hla
    have HRW:=kp (HRX.out.below HR.out)
    obtain ⟨a0,a1,a2,a3,_⟩:=HRW.out.four
    have hla:=HRW.out.lt
    by_cases hin:k<x.kids.length
    ·obtain ⟨bk,ok,A',cap',rfl,hbk,k0,k1,k2,k3,hKK⟩:=(HK.out.mono HR.out).kid hin
     have HC:=kp (fun (V:World) (hV:Below wr.heap.size wr V)=>HIH.out x.kids[k] (List.getElem_mem hin) A' cap' V (hKK.mono hV))
     have r0:(0:Int)≤k:=by omega
     have r1:(k:Int)<x.kids.length:=by omega
     have HBX:=kp (blb wr (Obj.cells (ndC x.kids[k] A' cap') 26))
     have HRY:=kp (bxn wr (ndC x.kids[k] A' cap') 26)
     have HZ:=kp (dpA_at hin m)
     have hzk:dpT x.kids[k]≤1000000:=by have h1:=szT_kid (List.getElem_mem hin);have:=HSZ.out;have:=dpT_le x.kids[k];omega
     clear hKK
     generalize dpT x.kids[k]=n at *
     generalize x.kids[k]=y at *
     go_upto_region 5 with fail
     generalize wr.alloc _=V at HBX HRY ⊢
     obtain ⟨b0,b1,b2,b3,_⟩:=HRY.out.four
     have hlb:=HRY.out.lt
     have HC1:=kp (HC.out V HBX.out)
     go_wp2_with fail
     refine HC1.out.mono ?_
     rintro e w8 ⟨rfl,hb8⟩
     have HB8:=kp (bls HR.out HR.out.size (bls HBX.out HBX.out.size hb8))
     clear hb8
     go_wp2_with fail
     exact ⟨⟨k+1,max m n,by omega,by go_num,by split<;>(congr 1;omega),by omega,kp (by rw [HE.out,HZ.out]),HB8⟩,by simp [intOf];omega⟩
    ·obtain rfl:k=x.kids.length:=by omega
     have HE2:=kp (show dpT x=m+1 from by rw [HE.out,List.drop_length];show max m 0+1=_;omega)
     go_wp2_with fail
     go_ret
     exact ⟨by rw [HE2.out];rfl,bls HB.out HB.out.size HR.out⟩
def swapFL (l:List Nd):List Nd:=match l.head?,l.getLast? with
 | some a,some b=>(l.set 0 b).set (l.length - 1) a
 | _,_=>l
mutual
def invT:Nd→Nd
 | .mk k num name kids=>
   if k=57 then .mk k num name (invTL true kids).reverse
   else if k=52∨k=53∨k=54 then .mk k num name (swapFL (invTL false kids))
   else .mk (exK k) num name (invTL false kids)
def invTL (b:Bool):List Nd→List Nd
 | []=>[]
 | x::r=>(if b=true∨x.kind=57 then invT x else x)::invTL b r
end
def invK1 (b:Bool) (x:Nd):Nd:=if b=true∨x.kind=57 then invT x else x
theorem invTL_eq (b:Bool):∀ l:List Nd,invTL b l=l.map (invK1 b)
 | []=>rfl
 | x::r=>by rw [invTL,invTL_eq b r];rfl
theorem invT_eq (x:Nd):invT x=if x.kind=57 then .mk x.kind x.num x.name (x.kids.map (invK1 true)).reverse else if x.kind=52∨x.kind=53∨x.kind=54 then .mk x.kind x.num x.name (swapFL (x.kids.map (invK1 false))) else .mk (exK x.kind) x.num x.name (x.kids.map (invK1 false)):=by
 cases x;rw [invT,invTL_eq,invTL_eq];rfl
theorem ex_kind {y:Nd} (h:isExT y=true):y.kind≤23:=by
 rw [isExT_eq] at h
 unfold isExK at h
 by_cases h1:y.kind≤23
 ·exact h1
 ·rw [if_neg (by omega),if_neg (by omega),if_neg (by omega),if_neg (by omega),if_neg (by omega)] at h;cases h
theorem plc_kind {y:Nd} (h:plcB y=true):y.kind≤23:=by
 unfold plcB at h;rw [Bool.and_eq_true] at h;exact ex_kind h.2
def InvOk (x:Nd):Prop:=isStT x=true∨isBlT x=true
theorem InvOk.kid {x y:Nd} (h:InvOk x) (hy:y∈x.kids) (hk:x.kind=57∨y.kind=57):InvOk y:=by
 rcases h with h | h
 ·obtain ⟨i,hi⟩:=List.getElem?_of_mem hy
  have hil:=(List.getElem?_eq_some_iff.1 hi).1
  have hkd:=kid_eq hi
  rw [isStT_eq] at h
  unfold isStK at h
  have hbl:=blD hi
  have fin:y.kind≤23→InvOk y:=fun hle=>by
   rcases hk with hk | hk
   ·exfalso
    rw [hk] at h
    simp at h
   ·omega
  by_cases c1:x.kind=40∨x.kind=41∨x.kind=42∨x.kind=56
  ·rw [if_pos c1] at h
   simp only [Bool.and_eq_true,decide_eq_true_eq,List.all_cons,List.all_nil,id] at h
   obtain ⟨_,hl,h0,h1,_⟩:=h
   match i,hil,hkd with
   | 0,_,e=>exact fin (plc_kind (e▸h0))
   | 1,_,e=>exact fin (ex_kind (e▸h1))
   | i+2,hil,_=>omega
  rw [if_neg c1] at h
  by_cases c2:x.kind=43
  ·rw [if_pos c2] at h
   simp only [Bool.and_eq_true,decide_eq_true_eq,List.all_cons,List.all_nil,id] at h
   obtain ⟨_,hl,h0,h1,_⟩:=h
   match i,hil,hkd with
   | 0,_,e=>exact fin (plc_kind (e▸h0))
   | 1,_,e=>exact fin (plc_kind (e▸h1))
   | i+2,hil,_=>omega
  rw [if_neg c2] at h
  by_cases c3:x.kind=44∨x.kind=45
  ·rw [if_pos c3] at h
   simp only [Bool.and_eq_true,decide_eq_true_eq,List.all_cons,List.all_nil,id] at h
   obtain ⟨_,hl,h0,_⟩:=h
   match i,hil,hkd with
   | 0,_,e=>exact fin (plc_kind (e▸h0))
   | i+1,hil,_=>omega
  rw [if_neg c3] at h
  by_cases c4:x.kind=46∨x.kind=47∨x.kind=48∨x.kind=49
  ·rw [if_pos c4] at h
   simp only [Bool.and_eq_true,decide_eq_true_eq,List.all_cons,List.all_nil,id] at h
   obtain ⟨_,hl,h0,_⟩:=h
   match i,hil,hkd with
   | 0,_,e=>exact fin (plc_kind (e▸h0))
   | i+1,hil,_=>omega
  rw [if_neg c4] at h
  by_cases c5:x.kind=50∨x.kind=51
  ·rw [if_pos c5] at h
   simp only [Bool.and_eq_true] at h
   have:=List.all_eq_true.1 h.2 y hy
   unfold varB at this
   rw [Bool.and_eq_true] at this
   exact fin (ex_kind this.2)
  rw [if_neg c5] at h
  by_cases c6:x.kind=52∨x.kind=53
  ·rw [if_pos c6] at h
   simp only [Bool.and_eq_true,decide_eq_true_eq,List.all_cons,List.all_nil,id] at h
   obtain ⟨_,hl,h0,h1,h2,h3,_⟩:=h
   match i,hil,hkd,hbl with
   | 0,_,e,_=>exact fin (ex_kind (e▸h0))
   | 1,_,_,e=>exact .inr (e▸h1)
   | 2,_,_,e=>exact .inr (e▸h2)
   | 3,_,e,_=>exact fin (ex_kind (e▸h3))
   | i+4,hil,_,_=>omega
  rw [if_neg c6] at h
  by_cases c7:x.kind=54
  ·rw [if_pos c7] at h
   simp only [Bool.and_eq_true,decide_eq_true_eq,List.all_cons,List.all_nil,id] at h
   obtain ⟨_,hl,h0,h1,h2,_⟩:=h
   match i,hil,hkd,hbl with
   | 0,_,e,_=>exact fin (ex_kind (e▸h0))
   | 1,_,_,e=>exact .inr (e▸h1)
   | 2,_,e,_=>exact fin (ex_kind (e▸h2))
   | i+3,hil,_,_=>omega
  rw [if_neg c7] at h
  by_cases c8:x.kind=55
  ·rw [if_pos c8] at h
   simp only [Bool.and_eq_true,decide_eq_true_eq,List.all_cons,List.all_nil,id] at h
   obtain ⟨_,hl,h0,_⟩:=h
   match i,hil,hbl with
   | 0,_,e=>exact .inr (e▸h0)
   | i+1,hil,_=>omega
  rw [if_neg c8] at h
  cases h
 ·rw [isBlT_eq] at h
  simp only [Bool.and_eq_true] at h
  exact .inl (List.all_eq_true.1 h.2 y hy)
theorem InvOk.two {x:Nd} (h:InvOk x) (hk:x.kind=52∨x.kind=53∨x.kind=54):3≤x.kids.length:=by
 rcases h with h | h
 ·rw [isStT_eq] at h
  unfold isStK at h
  rw [if_neg (by omega),if_neg (by omega),if_neg (by omega),if_neg (by omega),if_neg (by omega)] at h
  by_cases c6:x.kind=52∨x.kind=53
  ·rw [if_pos c6] at h
   simp only [Bool.and_eq_true,decide_eq_true_eq] at h
   omega
  ·rw [if_neg c6,if_pos (by omega)] at h
   simp only [Bool.and_eq_true,decide_eq_true_eq] at h
   omega
 ·rw [isBlT_eq] at h
  simp only [Bool.and_eq_true,decide_eq_true_eq] at h
  omega
def zeroNd:Nd:=.mk 0 0 ⟨#[]⟩ []
structure RowN (w:World) (g B:Nat) (ys:List Nd):Prop where
 bx:∃ cs:Array Value,Bx w g cs∧cs.size=ys.length*4∧∀ (i:Nat) (y:Nd),ys[i]?=some y→∃ A c,cs[i*4]?=some (.int .u8 y.kind)∧cs[i*4+1]?=some (.int .i64 y.num)∧cs[i*4+2]?=some (.string y.name)∧cs[i*4+3]?=some (.slice A y.kids.length c)∧NdsD w B w.heap.size A y.kids
 lt:g<B
theorem RowN.glt {w:World} {g B:Nat} {ys:List Nd} (h:RowN w g B ys):g<w.heap.size:=by
 obtain ⟨cs,h1,_⟩:=h.bx
 exact h1.lt
theorem RowN.fr {w w':World} {g B:Nat} {ys:List Nd} (h:RowN w g B ys) {m:Nat→Prop} (hf:Fr w w' m) (hm:∀ k,B≤k→k<w.heap.size→¬ m k) (hg:¬ m g):RowN w' g B ys:=by
 obtain ⟨cs,h1,h2,h3⟩:=h.bx
 refine ⟨⟨cs,h1.fr hf hg,h2,fun i y hy=>?_⟩,h.lt⟩
 obtain ⟨A,c,a,b,d,e,f⟩:=h3 i y hy
 exact ⟨A,c,a,b,d,e,(f.move fun k hk hk2=>hf.block k hk2 (hm k hk hk2)).wide (Nat.le_refl _) hf.size⟩
theorem RowN.below {w w':World} {g B:Nat} {ys:List Nd} (h:RowN w g B ys) (hb:Below w.heap.size w w'):RowN w' g B ys:=h.fr (Fr.of_below hb fun _=>False) (fun _ _ _=>id) id
theorem RowN.get {w:World} {g B:Nat} {ys:List Nd} (h:RowN w g B ys) {i:Nat} {y:Nd} (hy:ys[i]?=some y):∃ A c,w.cell? ⟨g,i*4,none⟩=some (.int .u8 y.kind)∧w.cell? ⟨g,i*4+1,none⟩=some (.int .i64 y.num)∧w.cell? ⟨g,i*4+2,none⟩=some (.string y.name)∧w.cell? ⟨g,i*4+3,none⟩=some (.slice A y.kids.length c)∧NdsD w B w.heap.size A y.kids∧∀ j,w.frozen? ⟨g,j,none⟩=false:=by
 obtain ⟨cs,h1,h2,h3⟩:=h.bx
 obtain ⟨A,c,a,b,d,e,f⟩:=h3 i y hy
 exact ⟨A,c,h1.cell a,h1.cell b,h1.cell d,h1.cell e,f,h1.free⟩
abbrev setN (w:World) (g i:Nat) (x:Nd) (A:Option Addr) (c:Nat):World:=(((w.setCell ⟨g,i*4,none⟩ (.int .u8 x.kind)).setCell ⟨g,i*4+1,none⟩ (.int .i64 x.num)).setCell ⟨g,i*4+2,none⟩ (.string x.name)).setCell ⟨g,i*4+3,none⟩ (.slice A x.kids.length c)
theorem Fr.setN (w:World) (g i:Nat) (x:Nd) (A:Option Addr) (c:Nat):Fr w (setN w g i x A c) (fun k=>k=g):=
 (((Fr.of_set w ⟨g,i*4,none⟩ _).trans (Fr.of_set _ ⟨g,i*4+1,none⟩ _) fun _ _ e=>e).trans (Fr.of_set _ ⟨g,i*4+2,none⟩ _) fun _ _ e=>e).trans (Fr.of_set _ ⟨g,i*4+3,none⟩ _) fun _ _ e=>e
theorem RowN.set {w:World} {g B:Nat} {ys:List Nd} (h:RowN w g B ys) {i:Nat} (hi:i<ys.length) (x:Nd) {A:Option Addr} {c:Nat} (hD:NdsD w B w.heap.size A x.kids):RowN (setN w g i x A c) g B (ys.set i x):=by
 obtain ⟨cs,h1,h2,h3⟩:=h.bx
 have hlt:=h.lt
 have hf:=Fr.setN w g i x A c
 have mv:∀ {A':Option Addr} {l:List Nd},NdsD w B w.heap.size A' l→NdsD (setN w g i x A c) B (setN w g i x A c).heap.size A' l:=fun hD'=>(hD'.move fun k hk hk2=>hf.block k hk2 (by omega)).wide (Nat.le_refl _) hf.size
 refine ⟨⟨_,(((h1.set _ _).set _ _).set _ _).set _ _,by simp [h2],fun j y hy=>?_⟩,hlt⟩
 by_cases hji:j=i
 ·subst hji
  rw [List.getElem?_set_self hi] at hy
  cases hy
  refine ⟨A,c,?_,?_,?_,?_,mv hD⟩
  ·simp [Array.getElem?_setIfInBounds,h2];omega
  ·simp [Array.getElem?_setIfInBounds,h2];omega
  ·simp [Array.getElem?_setIfInBounds,h2];omega
  ·simp [Array.getElem?_setIfInBounds,h2];omega
 ·rw [List.getElem?_set_ne (Ne.symm hji)] at hy
  obtain ⟨A',c',a,b,d,e,f⟩:=h3 j y hy
  refine ⟨A',c',?_,?_,?_,?_,mv f⟩
  ·rw [Array.getElem?_setIfInBounds_ne (by omega),Array.getElem?_setIfInBounds_ne (by omega),Array.getElem?_setIfInBounds_ne (by omega),Array.getElem?_setIfInBounds_ne (by omega)];exact a
  ·rw [Array.getElem?_setIfInBounds_ne (by omega),Array.getElem?_setIfInBounds_ne (by omega),Array.getElem?_setIfInBounds_ne (by omega),Array.getElem?_setIfInBounds_ne (by omega)];exact b
  ·rw [Array.getElem?_setIfInBounds_ne (by omega),Array.getElem?_setIfInBounds_ne (by omega),Array.getElem?_setIfInBounds_ne (by omega),Array.getElem?_setIfInBounds_ne (by omega)];exact d
  ·rw [Array.getElem?_setIfInBounds_ne (by omega),Array.getElem?_setIfInBounds_ne (by omega),Array.getElem?_setIfInBounds_ne (by omega),Array.getElem?_setIfInBounds_ne (by omega)];exact e
theorem RowN.nds {w:World} {g B lo:Nat} {ys:List Nd} (h:RowN w g B ys) (hlo:lo≤g):NdsD w lo w.heap.size (some ⟨g,0,none⟩) ys:=fun Y hY k x hk=>⟨g,0,rfl,by
 have hlt:=h.lt
 obtain ⟨A,c,a,b,d,e,f,_⟩:=h.get hk
 have hg:=block_lt_of_cell a
 have hcell:∀ (j:Nat) (u:Value),w.cell? ⟨g,j,none⟩=some u→Y.cell? ⟨g,j,none⟩=some u:=fun j u hu=>by rw [World.cell?_of_block (hY g hlo hg)];exact hu
 have hks:=f Y fun kk h3 h4=>hY kk (by omega) (by omega)
 rw [Nat.zero_add]
 refine NdO.mk (A:=A) (cap:=c) (b':=(A.getD ⟨0,0,none⟩).block) (o':=(A.getD ⟨0,0,none⟩).off) (hcell _ _ a) (hcell _ _ b) (hcell _ _ d) (hcell _ _ e) (fun hp=>?_) (fun kk y hy=>?_)
 ·obtain ⟨b',o',e',_⟩:=hks.at_ hp
  rw [e'];rfl
 ·obtain ⟨b',o',e',h'⟩:=hks kk y hy
  rw [e'];exact h'⟩
theorem RowN.made {w w':World} {g B n:Nat} {cs:Array Value} (hb:Bx w g cs) (hc:cs=madeCells (Value.agg #[.int .u8 0,.int .i64 0,.string ⟨#[]⟩,.slice none 0 0]).cells (n*4)) (hlt:g<B) (hw:w'=w):RowN w' g B (List.replicate n zeroNd):=by
 subst hw
 refine ⟨⟨cs,hb,by rw [hc];simp [madeCells],fun i y hy=>?_⟩,hlt⟩
 have hi:i<n:=by have:=(List.getElem?_eq_some_iff.1 hy).1;simpa using this
 obtain rfl:y=zeroNd:=by rw [List.getElem?_replicate,if_pos hi] at hy;exact (Option.some.inj hy).symm
 have key:∀ r,r<4→cs[i*4+r]?=(#[Value.int .u8 0,.int .i64 0,.string ⟨#[]⟩,.slice none 0 0]:Array Value)[r]?:=fun r hr=>by
  rw [hc]
  show (madeCells #[Value.int .u8 0,.int .i64 0,.string ⟨#[]⟩,.slice none 0 0] (n*4))[i*4+r]?=_
  unfold madeCells
  rw [Array.getElem?_map,Array.getElem?_range]
  rw [if_pos (by omega)]
  show some ((#[Value.int .u8 0,.int .i64 0,.string ⟨#[]⟩,.slice none 0 0]:Array Value)[(i*4+r) % 4]!)=_
  rw [show (i*4+r) % 4=r by omega]
  match r,hr with
  | 0,_=>rfl
  | 1,_=>rfl
  | 2,_=>rfl
  | 3,_=>rfl
 exact ⟨none,0,key 0 (by omega),key 1 (by omega),key 2 (by omega),key 3 (by omega),fun Y _ k x hk=>by simp [zeroNd,Nd.kids] at hk⟩
def revK (l:List Nd) (k:Nat):List Nd:=(List.range l.length).map fun i=>if i<k∨l.length - k≤i then l[l.length - 1 - i]?.getD zeroNd else l[i]?.getD zeroNd
theorem revK_len (l:List Nd) (k:Nat):(revK l k).length=l.length:=by simp [revK]
theorem revK_get {l:List Nd} {k i:Nat} (h:i<l.length):(revK l k)[i]?=some (if i<k∨l.length - k≤i then l[l.length - 1 - i]?.getD zeroNd else l[i]?.getD zeroNd):=by
 unfold revK;rw [List.getElem?_map,List.getElem?_range h];rfl
theorem revK_zero (l:List Nd):revK l 0=l:=by
 apply List.ext_getElem?
 intro i
 by_cases h:i<l.length
 ·rw [revK_get h,if_neg (by omega),List.getElem?_eq_getElem h];rfl
 ·rw [List.getElem?_eq_none (by rw [revK_len];omega),List.getElem?_eq_none (by omega)]
theorem revK_full {l:List Nd} {k:Nat} (h:l.length≤2*k+1):revK l k=l.reverse:=by
 apply List.ext_getElem?
 intro i
 by_cases hi:i<l.length
 ·rw [revK_get hi,List.getElem?_reverse hi]
  have h1:l.length - 1 - i<l.length:=by omega
  rw [List.getElem?_eq_getElem h1]
  split
  ·rfl
  ·have:l.length - 1 - i=i:=by omega
   rw [List.getElem?_eq_getElem hi]
   simp [this]
 ·rw [List.getElem?_eq_none (by rw [revK_len];omega),List.getElem?_eq_none (by rw [List.length_reverse];omega)]
theorem revK_step {l:List Nd} {k:Nat} (h:2*k+1<l.length) {a b:Nd} (ha:(revK l k)[k]?=some a) (hb:(revK l k)[l.length - 1 - k]?=some b):((revK l k).set k b).set (l.length - 1 - k) a=revK l (k+1):=by
 rw [revK_get (by omega),if_neg (by omega)] at ha hb
 cases ha
 cases hb
 apply List.ext_getElem?
 intro i
 by_cases hi:i<l.length
 ·rw [revK_get hi]
  by_cases h1:i=l.length - 1 - k
  ·subst h1
   rw [List.getElem?_set_self (by rw [List.length_set,revK_len];omega),if_pos (by omega)]
   congr 3;omega
  ·rw [List.getElem?_set_ne (Ne.symm h1)]
   by_cases h2:i=k
   ·subst h2
    rw [List.getElem?_set_self (by rw [revK_len];omega),if_pos (by omega)]
   ·rw [List.getElem?_set_ne (Ne.symm h2),revK_get hi]
    by_cases h3:i<k∨l.length - k≤i
    ·rw [if_pos h3,if_pos (by omega)]
    ·rw [if_neg h3,if_neg (by omega)]
 ·rw [List.getElem?_eq_none (by simp [revK_len];omega),List.getElem?_eq_none (by rw [revK_len];omega)]
theorem rev_any (l:List Nd) (hl:l.length≤1000000) (g B cap:Nat) (w:World) (hR:RowN w g B l) :
  Calls Tryz.prog 36 #[.slice (some ⟨g,0,none⟩) l.length cap] w fun e w'=>e=.returned (.tuple #[])∧RowN w' g B l.reverse∧Fr w w' (fun k=>k=g):=by
 have HR0:=kp hR
 clear hR
 go_enter Tryz.func36,Tryz.ntmps36
 go_wp2_with fail
 go_loopw [2,3] (fun i j wr=>∃ k:Nat,2*k≤l.length+1∧i=.int .i64 k∧j=.int .i64 ((l.length:Int) - 1 - k)∧Hid (RowN wr g B (revK l k)∧Fr w wr (fun k=>k=g))) (fun i _ _=>l.length - (intOf i).toNat)
 case atStart=>exact ⟨0,by omega,rfl,by simp,kp ⟨by rw [revK_zero];exact HR0.out,Fr.refl _ _⟩⟩
 case round=>
  obtain ⟨k,hk,rfl,rfl,HR⟩:=hrel
  by_cases hin:2*k+1<l.length
  ·obtain ⟨m,hm⟩:∃ m:Nat,(l.length:Int) - 1 - k=(m:Int):=⟨l.length - 1 - k,by omega⟩
   have hml:m<(revK l k).length:=by rw [revK_len];omega
   have hkl:k<(revK l k).length:=by rw [revK_len];omega
   obtain ⟨a,ha⟩:∃ a,(revK l k)[k]?=some a:=⟨_,List.getElem?_eq_getElem hkl⟩
   obtain ⟨b,hb⟩:∃ b,(revK l k)[m]?=some b:=⟨_,List.getElem?_eq_getElem hml⟩
   have HS:=kp (revK_step hin ha (by rw [show l.length - 1 - k=m by omega];exact hb))
   obtain ⟨Aa,ca,x0,x1,x2,x3,xd,hfz⟩:=HR.out.1.get ha
   obtain ⟨Ab,cb,y0,y1,y2,y3,yd,_⟩:=HR.out.1.get hb
   have HD:=kp (And.intro xd yd)
   have hlg:=HR.out.1.glt
   rw [hm]
   have r0:(0:Int)≤k:=by omega
   have r1:(k:Int)<l.length:=by omega
   have r2:(0:Int)≤m:=by omega
   have r3:(m:Int)<l.length:=by omega
   have r4:(k:Int)<m:=by omega
   have hmk:m=l.length - 1 - k:=by omega
   have HM:=kp (And.intro hm hmk)
   have q1:k≠m:=by omega
   have q2:m≠k:=by omega
   clear ha hb xd yd hm hmk
   go_wp2_with fail
   go_region
   have HN:=kp (show RowN (setN (setN wr g k b Ab cb) g m a Aa ca).drew g B (revK l (k+1))∧Fr w (setN (setN wr g k b Ab cb) g m a Aa ca).drew (fun k=>k=g) from by
    have h1:=HR.out.1.set hkl b (c:=cb) HD.out.2
    have hf:=Fr.setN wr g k b Ab cb
    have hlt:=HR.out.1.lt
    have h2:=h1.set (i:=m) (c:=ca) (by rw [List.length_set];exact hml) a ((HD.out.1.move fun j hj hj2=>hf.block j hj2 (by omega)).wide (Nat.le_refl _) hf.size)
    rw [HM.out.2,HS.out,← HM.out.2] at h2
    exact ⟨h2.below (bld (Below.refl _ _)),((HR.out.2.trans hf fun _ _ e=>e).trans (Fr.setN _ g m a Aa ca) fun _ _ e=>e).trans (Fr.of_below (bld (Below.refl _ _)) _) fun _ _ e=>e⟩)
   unfold setN at HN
   clear x0 x1 x2 x3 y0 y1 y2 y3 hfz
   generalize World.drew _=WN at HN ⊢
   go_wp2_with fail
   have hm2:=HM.out.1
   exact ⟨⟨k+1,by omega,by go_num,by congr 1;omega,HN⟩,by simp [intOf];omega⟩
  ·have HN:=kp (show RowN wr g B l.reverse∧Fr w wr (fun k=>k=g) from ⟨by rw [← revK_full (k:=k) (by omega)];exact HR.out.1,HR.out.2⟩)
   have r0:¬ (k:Int)<(l.length:Int) - 1 - k:=by omega
   go_wp2_with fail
   go_end0
   exact ⟨rfl,HN.out⟩
end Go.Proofs.YtgbomnibedefoaaGreatDoor
