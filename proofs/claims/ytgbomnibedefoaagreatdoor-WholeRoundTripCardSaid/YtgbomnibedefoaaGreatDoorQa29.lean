import Derived.RangeFuncNested
import Derived.RangeFuncBound
import Derived.RangeFuncCalls
import Derived.RangeFuncLeaves
import Derived.Shelf.RegionOpen
import Derived.OwnWalkIn
import Derived.TacticsInMore
import Derived.Test.YtgbomnibedefoaaGreatDoorQa28
set_option maxRecDepth 100000
set_option maxHeartbeats 8000000
namespace Go.Proofs.YtgbomnibedefoaaGreatDoor
open Go.ChangeShapes Go.WideShapes Go.ChangeAt Go.RowKit Go.Sort
abbrev WI:=(Nat→Prop)→List Nd→World→Prop
def RngI (J:WI):Prop:=∀ (X X':Nat→Prop) (pre:List Nd) (A B:World),J X pre A→Fr A B X→(∀ k,X k→X' k)→(∀ k,X' k→X k∨(A.heap.size≤k∧k<B.heap.size))→J X' pre B
def YldC (l:Nat) (J:WI) (Jx:List Nd→World→Prop) (ys:List Nd):Prop:=∀ (X:Nat→Prop) (pre:List Nd) (x:Nd) (A:Option Addr) (cap:Nat) (Ap:Option Addr) (np cp:Nat) (W:World),J X pre W→(∀ k,X k→k<W.heap.size)→NdsAt W A x.kids→x.kids.length≤cap→pre++[x] <+: ys→
 YieldAt Fence.wide 0 Tryz.prog l #[.slice Ap np cp,.agg (ndC x A cap)] W fun e W'=>(e=.returned (.bool true)∧J X (pre++[x]) W'∧Fr W W' (fun k=>¬ X k))∨(e=.returned (.bool false)∧Jx (pre++[x]) W')
structure ItS (l YB PB VB BT lo hi:Nat) (W0:World) (X:Nat→Prop) (v:Value) (ps:List Int) (W:World):Prop where
 yb:Bx W YB #[.func (.yield l) #[] #[]]
 pb:Bx W PB #[v]
 vb:Bx W VB #[.func (.func 122) #[] #[.pointer (some ⟨YB,0,none⟩),.pointer (some ⟨PB,0,none⟩),.pointer (some ⟨VB,0,none⟩)]]
 own:W.ownsRow BT 3 1 v ps.length (ps.map (.int .i64))
 keep:∀ k,lo≤k→k<hi→W.heap[k]?=W0.heap[k]?
 xr:∀ k,lo≤k→k<hi→X k
 xo:X YB∧X PB∧X VB
 xv:∀ g,v.ownBlock=some g→X g
 xl:∀ k,X k→k<W.heap.size
 ord:hi≤YB∧YB<BT∧hi≤PB∧PB<BT∧hi≤VB∧VB<BT∧YB≠PB∧VB≠PB∧BT≤W.heap.size
section
variable {l YB PB VB BT lo hi:Nat} {W0 W W':World} {X X':Nat→Prop} {v:Value} {ps:List Int}
theorem ItS.row (h:ItS l YB PB VB BT lo hi W0 X v ps W) {g:Nat} (hg:v.ownBlock=some g):BT≤g:=obg h.own g hg
theorem ItS.round (h:ItS l YB PB VB BT lo hi W0 X v ps W) (hf:Fr W W' (fun k=>¬ X k)):ItS l YB PB VB BT lo hi W0 X v ps W':=
 ⟨h.yb.fr hf fun e=>e h.xo.1,h.pb.fr hf fun e=>e h.xo.2.1,h.vb.fr hf fun e=>e h.xo.2.2,hf.own h.own fun g hg e=>e (h.xv g hg),fun k h1 h2=>(hf.block k (h.xl k (h.xr k h1 h2)) fun e=>e (h.xr k h1 h2)).trans (h.keep k h1 h2),h.xr,h.xo,h.xv,fun k hk=>Nat.lt_of_lt_of_le (h.xl k hk) hf.size,by
  obtain ⟨a,b,c,d,e,f,g,i,j⟩:=h.ord
  exact ⟨a,b,c,d,e,f,g,i,Nat.le_trans j hf.size⟩⟩
theorem ItS.wide (h:ItS l YB PB VB BT lo hi W0 X v ps W) (hb:Below W.heap.size W W') (h1:∀ k,X k→X' k) (h2:∀ k,X' k→k<W'.heap.size):ItS l YB PB VB BT lo hi W0 X' v ps W':=
 ⟨h.yb.below hb,h.pb.below hb,h.vb.below hb,obl h.own hb,fun k h3 h4=>(hb.block k (h.xl k (h.xr k h3 h4))).trans (h.keep k h3 h4),fun k h3 h4=>h1 k (h.xr k h3 h4),⟨h1 _ h.xo.1,h1 _ h.xo.2.1,h1 _ h.xo.2.2⟩,fun g hg=>h1 g (h.xv g hg),h2,by
  obtain ⟨a,b,c,d,e,f,g,i,j⟩:=h.ord
  exact ⟨a,b,c,d,e,f,g,i,Nat.le_trans j hb.size⟩⟩
theorem ItS.path (h:ItS l YB PB VB BT lo hi W0 X v ps W) {W1:World} {v':Value} {ps':List Int} (hf:Fr W W1 (fun k=>some k=v.ownBlock)) (ho:W1.ownsRow BT 3 1 v' ps'.length (ps'.map (.int .i64))) (h1:∀ k,X k→X' k) (h2:∀ k,X' k→k<W1.heap.size) (h3:∀ g,v'.ownBlock=some g→X' g):ItS l YB PB VB BT lo hi W0 X' v' ps' (W1.setCell ⟨PB,0,none⟩ v'):=by
 obtain ⟨a,b,c,d,e,f,g,i,j⟩:=h.ord
 have q:∀ k,k<BT→¬ some k=v.ownBlock:=fun k hk e=>by have:=h.row e.symm;omega
 have hs:Fr W1 (W1.setCell ⟨PB,0,none⟩ v') (fun k=>k=PB):=Fr.of_set _ _ _
 have ht:Fr W (W1.setCell ⟨PB,0,none⟩ v') (fun k=>some k=v.ownBlock∨k=PB):=(hf.mono fun k _ e=>.inl e).trans hs fun k _ e=>.inr e
 refine ⟨h.yb.fr ht ?_,(h.pb.fr hf (q _ d)).set 0 v',h.vb.fr ht ?_,hs.own ho fun g hg=>?_,fun k h4 h5=>(ht.block k (h.xl k (h.xr k h4 h5)) ?_).trans (h.keep k h4 h5),fun k h4 h5=>h1 k (h.xr k h4 h5),⟨h1 _ h.xo.1,h1 _ h.xo.2.1,h1 _ h.xo.2.2⟩,h3,fun k hk=>by rw [World.size_setCell];exact h2 k hk,a,b,c,d,e,f,g,i,Nat.le_trans j ht.size⟩
 ·rintro (e | e)
  ·exact q _ b e
  ·exact g e
 ·rintro (e | e)
  ·exact q _ f e
  ·exact i e
 ·have:=obg ho g hg;omega
 ·rintro (e | e)
  ·exact q _ (by omega) e
  ·omega
end
theorem NdsD.kid {w:World} {lo hi:Nat} {A:Option Addr} {l:List Nd} (h:NdsD w lo hi A l) {k:Nat} (hk:k<l.length):∃ b o A' cap',A=some ⟨b,o,none⟩∧lo≤b∧b<hi∧w.cell? ⟨b,o+k*4,none⟩=some (.int .u8 l[k].kind)∧w.cell? ⟨b,o+k*4+1,none⟩=some (.int .i64 l[k].num)∧w.cell? ⟨b,o+k*4+2,none⟩=some (.string l[k].name)∧w.cell? ⟨b,o+k*4+3,none⟩=some (.slice A' l[k].kids.length cap')∧NdsD w lo hi A' l[k].kids:=by
 obtain ⟨b,o,A',cap',e,hb,h0,h1,h2,h3,_⟩:=h.at_.kid hk
 have hin:lo≤b∧b<hi:=by
  apply Classical.byContradiction
  intro hn
  obtain ⟨b',o',A'',c'',e',hb',k0,_⟩:=(h { w with heap:=w.heap.setIfInBounds b (.cells #[] 0 (0,0)) } fun k h1 h2=>by
   rw [Array.getElem?_setIfInBounds_ne]
   intro e;subst e;exact hn ⟨h1,h2⟩).kid hk
  rw [e] at e'
  injection e' with e'
  injection e' with e1 e2
  subst e1
  simp [World.cell?,Array.getElem?_setIfInBounds_self_of_lt hb] at k0
 refine ⟨b,o,A',cap',e,hin.1,hin.2,h0,h1,h2,h3,fun Y hY=>?_⟩
 obtain ⟨b',o',A'',c'',e',hb',k0,k1,k2,k3,hk'⟩:=(h Y hY).kid hk
 rw [e] at e'
 injection e' with e'
 injection e' with e1 e2
 subst e1 e2
 have:Y.cell? ⟨b,o+k*4+3,none⟩=w.cell? ⟨b,o+k*4+3,none⟩:=by simp only [World.cell?,hY b hin.1 hin.2]
 rw [k3,h3] at this
 injection this with this
 injection this with e1 e2 e3
 subst e1
 exact hk'
theorem NdsD.same {w:World} {lo hi:Nat} {W:World} (h:∀ k,lo≤k→k<hi→W.heap[k]?=w.heap[k]?) {b j:Nat} (h1:lo≤b) (h2:b<hi):W.cell? ⟨b,j,none⟩=w.cell? ⟨b,j,none⟩:=by simp only [World.cell?,h b h1 h2]
def VsQ (J:WI) (Jx:List Nd→World→Prop) (l YB PB VB BT lo hi:Nat) (W0:World) (X:Nat→Prop) (pre:List Nd) (v:Value) (ps:List Int) (ys:List Nd) (W:World) (e:Ending) (W':World):Prop:=
 (e=.returned (.bool true)∧∃ X' v',J X' (pre++ys) W'∧ItS l YB PB VB BT lo hi W0 X' v' ps W'∧(∀ k,X k→X' k)∧(∀ g,v'.ownBlock=some g→v.ownBlock=some g∨W.heap.size≤g)∧(∀ k,X k→k≠PB→some k≠v.ownBlock→W'.heap[k]?=W.heap[k]?)∧W.heap.size≤W'.heap.size)∨
 (e=.returned (.bool false)∧∃ q,q <+: ys∧Jx (pre++q) W')
def VsR (J:WI) (l YB PB VB BT lo hi:Nat) (W0:World) (X:Nat→Prop) (pre:List Nd) (v:Value) (ps:List Int) (ys:List Nd) (W:World) (b0:Nat) (cs:Array Value) (W':World):Prop:=
 ∃ X' v',J X' (pre++ys) W'∧ItS l YB PB VB BT lo hi W0 X' v' ps W'∧Bx W' b0 cs∧X' b0∧W.heap.size≤b0∧(∀ k,X k→X' k)∧(∀ g,v'.ownBlock=some g→v.ownBlock=some g∨b0<g)∧(∀ k,X k→k≠PB→some k≠v.ownBlock→W'.heap[k]?=W.heap[k]?)∧b0<W'.heap.size
theorem visit_rnd {J:WI} {Jx:List Nd→World→Prop} {ys:List Nd} {l YB PB VB BT lo hi:Nat} {W0:World} (hJ:RngI J) (hY:YldC l J Jx ys) {N:Nat} {x:Nd} (hx:szT x≤N) (hN:N≤1000000) {X:Nat→Prop} {pre:List Nd} {v:Value} {ps:List Int} {W V:World} {A:Option Addr} {cap b0:Nat} (hj:J X pre W) (hi':ItS l YB PB VB BT lo hi W0 X v ps W) (hD:NdsD W0 lo hi A x.kids) (hps:ps.length≤1000) (hpre:pre++[x] <+: ys) (hb:Below W.heap.size W V) (hb0:W.heap.size≤b0) (hbx:Bx V b0 (ndC x A cap)) :
  Calls Tryz.prog 52 #[v] V (fun e W1=>∃ Ap np cp,e=.returned (.slice Ap np cp)∧Below V.heap.size V W1∧Calls Tryz.prog 35 #[.agg (ndC x A cap)] W1 (fun e W2=>∃ A2 c2,e=.returned (.agg (ndC x A2 c2))∧Below W1.heap.size W1 W2∧YieldAt Fence.wide 0 Tryz.prog l #[.slice Ap np cp,.agg (ndC x A2 c2)] W2 (fun e W3=>∃ b,e=.returned (.bool b)∧Hid ((b=true∧VsR J l YB PB VB BT lo hi W0 X pre v ps [x] W b0 (ndC x A cap) W3)∨(b=false∧Jx (pre++[x]) W3))))):=by
 have hiV:=hi'.wide (X':=X) hb (fun _ h=>h) (fun k hk=>Nat.lt_of_lt_of_le (hi'.xl k hk) hb.size)
 obtain ⟨Av,cv,rfl,hIv,_⟩:=ints_own_ok hiV.own
 refine (cla ps (by omega) Av cv V hIv).mono ?_
 rintro e W1 ⟨v1,rfl,ho1,hb1⟩
 obtain ⟨A1,c1,rfl,_,_⟩:=ofb ho1
 refine ⟨A1,_,c1,rfl,hb1,?_⟩
 have hbW1:=bls hb hb.size hb1
 have hi1:=hi'.wide (X':=X) hbW1 (fun _ h=>h) (fun k hk=>Nat.lt_of_lt_of_le (hi'.xl k hk) hbW1.size)
 have hA1:NdsAt W1 A x.kids:=hD W1 fun k h1 h2=>hi1.keep k h1 h2
 refine (clone_any N x hx hN A cap W1 hA1).mono ?_
 rintro e W2 ⟨A2,c2,rfl,hd2,hs2,hb2⟩
 refine ⟨A2,c2,rfl,hb2,?_⟩
 have hbW2:=bls hbW1 hbW1.size hb2
 have hbV2:=bls hb1 hb1.size hb2
 have hx2:∀ k,(X k∨(W.heap.size≤k∧k<W2.heap.size))→k<W2.heap.size:=fun k hk=>hk.elim (fun h=>Nat.lt_of_lt_of_le (hi'.xl k h) hbW2.size) (fun h=>h.2)
 have hi2:=hi'.wide (X':=fun k=>X k∨(W.heap.size≤k∧k<W2.heap.size)) hbW2 (fun _ h=>.inl h) hx2
 have hj2:=hJ X (fun k=>X k∨(W.heap.size≤k∧k<W2.heap.size)) pre W W2 hj (Fr.of_below hbW2 _) (fun _ h=>.inl h) (fun k h=>h)
 have hbx2:=hbx.below hbV2
 refine YieldAt.mono (hY _ pre x A2 c2 A1 _ c1 W2 hj2 hx2 hd2.at_ hs2.1 hpre) ?_
 rintro e W3 (⟨rfl,hj3,hf3⟩ | ⟨rfl,hx3⟩)
 ·refine ⟨true,rfl,kp (.inl ⟨rfl,_,_,hj3,hi2.round hf3,hbx2.fr hf3 (fun e=>e (.inr ⟨hb0,hbx2.lt⟩)),.inr ⟨hb0,hbx2.lt⟩,hb0,fun _ h=>.inl h,fun g hg=>.inl hg,fun k hk _ _=>?_,Nat.lt_of_lt_of_le hbx2.lt hf3.size⟩)⟩
  rw [hf3.block k (hx2 k (.inl hk)) (fun e=>e (.inl hk)),hbW2.block k (hi'.xl k hk)]
 ·exact ⟨false,rfl,kp (.inr ⟨rfl,hx3⟩)⟩
theorem preTL_append:∀ (a b:List Nd),preTL (a++b)=preTL a++preTL b
 | [],b=>by rw [preTL];rfl
 | x::r,b=>by rw [List.cons_append,preTL,preTL,preTL_append r b,List.append_assoc]
theorem preTL_take (l:List Nd) {k:Nat} (hk:k<l.length):preTL (l.take (k+1))=preTL (l.take k)++preT l[k]:=by
 rw [List.take_succ_eq_append_getElem hk,preTL_append]
 show _++preTL [l[k]]=_
 rw [preTL,preTL,List.append_nil]
theorem preTL_pre (l:List Nd) {k:Nat} (hk:k<l.length):preTL (l.take k)++preT l[k] <+: preTL l:=by
 rw [← preTL_take l hk]
 exact ⟨preTL (l.drop (k+1)),by rw [← preTL_append,List.take_append_drop]⟩
theorem own_ltW {w:World} {B:Nat} {e:TypeId} {v:Value} {n:Nat} {xs:List Value} (h:w.ownsRow B e 1 v n xs) {g:Nat} (hg:v.ownBlock=some g):g<w.heap.size:=by
 rcases h.2 with ⟨rfl,_⟩ | ⟨g',cap,cur,rfl,_,hc,_⟩
 ·cases hg
 ·injection hg with e
  subst e
  exact (Array.getElem?_eq_some_iff.1 hc).1
def VsK (J:WI) (l YB PB VB BT lo hi:Nat) (W0:World) (X:Nat→Prop) (pre:List Nd) (v:Value) (ps:List Int) (ys:List Nd) (W:World) (b0:Nat) (cs:Array Value) (W':World):Prop:=
 ∃ A5 c5,W'.cell? ⟨PB,0,none⟩=some (.slice A5 (ps.length+1) c5)∧W'.frozen? ⟨PB,0,none⟩=false∧ps.length+1≤c5∧(∃ g,A5=some ⟨g,0,none⟩)∧Hid (VsR J l YB PB VB BT lo hi W0 X pre v ps ys W b0 cs (W'.setCell ⟨PB,0,none⟩ (.slice A5 ps.length c5)))
theorem visit_kid {J:WI} {Jx:List Nd→World→Prop} {ys:List Nd} {l YB PB VB BT lo hi:Nat} {W0:World} (hJ:RngI J) {x:Nd} {X:Nat→Prop} {pre:List Nd} {v:Value} {ps:List Int} {W wr U w9:World} {b0 k:Nat} {cs:Array Value} (hxl:∀ j,X j→j<W.heap.size) (hxv:∀ g,v.ownBlock=some g→X g) (hpb:PB<W.heap.size) (hk:k<x.kids.length)
  {X3:Nat→Prop} {v3 v':Value} (hj3:J X3 (pre++(x::preTL (x.kids.take k))) wr) (hi3:ItS l YB PB VB BT lo hi W0 X3 v3 ps wr) (hb3:Bx wr b0 cs) (hx3:X3 b0) (hWb:W.heap.size≤b0) (hXX:∀ j,X j→X3 j) (hv3:∀ g,v3.ownBlock=some g→v.ownBlock=some g∨b0<g) (hkp:∀ j,X j→j≠PB→some j≠v.ownBlock→wr.heap[j]?=W.heap[j]?)
  (hU:Below wr.heap.size wr U) (hown:w9.ownsRow BT 3 1 v' (ps.length+1) (ps.map (.int .i64)++[.int .i64 k])) (hgrow:U.grownBy w9 v3.ownBlock) (hat:v'.ownBlock=v3.ownBlock∨v'.ownBlock=some U.heap.size)
  {A':Option Addr} {c':Nat} (hD:NdsD W0 lo hi A' (x.kids[k]).kids) (hdp:ps.length+dpT x≤1000) (hpre:pre++preT x <+: ys)
  (ih:∀ (X:Nat→Prop) (pre:List Nd) (v:Value) (ps:List Int) (W:World) (A:Option Addr) (cap:Nat),J X pre W→ItS l YB PB VB BT lo hi W0 X v ps W→NdsD W0 lo hi A (x.kids[k]).kids→ps.length+dpT x.kids[k]≤1000→pre++preT x.kids[k] <+: ys→
   Calls Tryz.prog 122 #[.agg (ndC x.kids[k] A cap),.pointer (some ⟨YB,0,none⟩),.pointer (some ⟨PB,0,none⟩),.pointer (some ⟨VB,0,none⟩)] W (VsQ J Jx l YB PB VB BT lo hi W0 X pre v ps (preT x.kids[k]) W)) :
  ItS l YB PB VB BT lo hi W0 (fun j=>X3 j∨(wr.heap.size≤j∧j<w9.heap.size)) v' (ps++[(k:Int)]) (w9.setCell ⟨PB,0,none⟩ v')∧
  Calls Tryz.prog 122 #[.agg (ndC x.kids[k] A' c'),.pointer (some ⟨YB,0,none⟩),.pointer (some ⟨PB,0,none⟩),.pointer (some ⟨VB,0,none⟩)] (w9.setCell ⟨PB,0,none⟩ v') (fun e W'=>∃ b,e=.returned (.bool b)∧Hid ((b=true∧VsK J l YB PB VB BT lo hi W0 X pre v ps (x::preTL (x.kids.take (k+1))) W b0 cs W')∨(b=false∧∃ q,q <+: preT x∧Jx (pre++q) W'))):=by
 have hf9:Fr wr w9 (fun j=>some j=v3.ownBlock):=(Fr.of_below hU _).trans (Fr.of_grown hgrow) fun _ _ e=>e
 have hgU:wr.heap.size≤U.heap.size:=hU.size
 have hlt':∀ g,v'.ownBlock=some g→g<w9.heap.size:=fun g hg=>own_ltW hown hg
 have ho':w9.ownsRow BT 3 1 v' (ps++[(k:Int)]).length ((ps++[(k:Int)]).map (.int .i64)):=by
  rw [List.length_append,List.map_append];exact hown
 have hv':∀ g,v'.ownBlock=some g→v3.ownBlock=some g∨wr.heap.size≤g:=fun g hg=>by
  rcases hat with e | e
  ·exact .inl (e▸hg)
  ·rw [e] at hg;cases hg;exact .inr hgU
 have hx4:∀ j,(X3 j∨(wr.heap.size≤j∧j<w9.heap.size))→j<w9.heap.size:=fun j h=>h.elim (fun h=>Nat.lt_of_lt_of_le (hi3.xl j h) hf9.size) (fun h=>h.2)
 have hi4:ItS l YB PB VB BT lo hi W0 (fun j=>X3 j∨(wr.heap.size≤j∧j<w9.heap.size)) v' (ps++[(k:Int)]) (w9.setCell ⟨PB,0,none⟩ v'):=
  hi3.path hf9 ho' (fun _ h=>.inl h) hx4 fun g hg=>(hv' g hg).elim (fun e=>.inl (hi3.xv g e)) (fun e=>.inr ⟨e,hlt' g hg⟩)
 refine ⟨hi4,?_⟩
 have hf4:Fr wr (w9.setCell ⟨PB,0,none⟩ v') X3:=(hf9.mono fun j _ e=>hi3.xv j e.symm).trans (Fr.of_set w9 ⟨PB,0,none⟩ v') fun j _ e=>by rw [show j=PB from e];exact hi3.xo.2.1
 have hj4:=hJ X3 (fun j=>X3 j∨(wr.heap.size≤j∧j<w9.heap.size)) _ wr _ hj3 hf4 (fun _ h=>.inl h) (fun j h=>by rw [World.size_setCell];exact h)
 have hbw:b0<wr.heap.size:=hb3.lt
 have hne3:¬ some b0=v3.ownBlock:=fun e=>(hv3 b0 e.symm).elim (fun e=>by have:=hxl _ (hxv _ e);omega) (fun e=>by omega)
 have hneP:b0≠PB:=by omega
 have hb4:Bx (w9.setCell ⟨PB,0,none⟩ v') b0 cs:=(hb3.fr hf9 hne3).fr (Fr.of_set _ _ _) hneP
 have hkpX:∀ j,X j→j≠PB→some j≠v.ownBlock→some j≠v3.ownBlock∧some j≠v'.ownBlock:=fun j h1 h2 h3=>by
  have a:some j≠v3.ownBlock:=fun e=>(hv3 j e.symm).elim (fun e=>h3 e.symm) (fun e=>by have:=hxl _ h1;omega)
  exact ⟨a,fun e=>(hv' j e.symm).elim (fun e=>a e.symm) (fun e=>by have:=hxl _ h1;omega)⟩
 have hdk:=dpT_kid (List.getElem_mem hk)
 refine (ih _ _ v' (ps++[(k:Int)]) _ A' c' hj4 hi4 hD (by rw [List.length_append];simp;omega) (by rw [List.append_assoc];refine ((List.prefix_append_right_inj _).2 ?_).trans hpre;rw [preT_eq x,List.cons_append];exact (List.prefix_cons_inj _).2 (preTL_pre _ hk))).mono ?_
 rintro e W' (⟨rfl,X5,v5,hj5,hi5,hX5,hv5,hkp5,hsz5⟩ | ⟨rfl,q,hq,hx⟩)
 ·refine ⟨true,rfl,kp (.inl ⟨rfl,?_⟩)⟩
  rw [World.size_setCell] at hv5 hsz5
  obtain ⟨A5,c5,e5,hc5,hg5⟩:=ofb hi5.own
  rw [List.length_append] at e5 hc5 hg5
  obtain ⟨g5,rfl,_⟩:=hg5 (by simp)
  have ho6:W'.ownsRow BT 3 1 (.slice (some ⟨g5,0,none⟩) ps.length c5) ps.length (ps.map (.int .i64)):=by
   have h1:=hi5.own
   rw [e5,List.length_append,List.map_append] at h1
   have h2:=own_prefix h1
   simpa using h2
  have he6:(Value.slice (some ⟨g5,0,none⟩) ps.length c5).ownBlock=v5.ownBlock:=by rw [e5];rfl
  have hi6:=hi5.path (X':=X5) (Fr.refl W' _) ho6 (fun _ h=>h) hi5.xl (fun g hg=>hi5.xv g (he6▸hg))
  have hj6:=hJ X5 X5 _ W' (W'.setCell ⟨PB,0,none⟩ (.slice (some ⟨g5,0,none⟩) ps.length c5)) hj5 ((Fr.of_set _ _ _).mono fun j _ e=>by rw [show j=PB from e];exact hi5.xo.2.1) (fun _ h=>h) (fun _ h=>.inl h)
  have hne':some b0≠v'.ownBlock:=fun e=>(hv' b0 e.symm).elim (fun e=>hne3 e.symm) (fun e=>by omega)
  have hb5:Bx W' b0 cs:=by
   obtain ⟨T,hT⟩:=hb4
   exact ⟨T,(hkp5 b0 (.inl hx3) hneP hne').trans hT⟩
  refine ⟨_,c5,by rw [← show v5=.slice (some ⟨g5,0,none⟩) (ps.length+1) c5 from e5];exact hi5.pb.cell rfl,hi5.pb.free 0,hc5,⟨g5,rfl⟩,kp ⟨X5,_,?_,hi6,hb5.fr (Fr.of_set _ _ _) hneP,hX5 _ (.inl hx3),hWb,fun j h=>hX5 j (.inl (hXX j h)),fun g hg=>?_,fun j h1 h2 h3=>?_,?_⟩⟩
  ·rw [preTL_take _ hk,← List.cons_append,← List.append_assoc];exact hj6
  ·rcases hv5 g (he6▸hg) with e | e
   ·rcases hv' g e with e | e
    ·exact hv3 g e
    ·exact .inr (by omega)
   ·have:=hf9.size;exact .inr (by omega)
  ·obtain ⟨q1,q2⟩:=hkpX j h1 h2 h3
   have hjl:=hxl j h1
   rw [(Fr.of_set W' ⟨PB,0,none⟩ _).block j (Nat.lt_of_lt_of_le (hi3.xl j (hXX j h1)) (Nat.le_trans hf9.size hsz5)) h2,hkp5 j (.inl (hXX j h1)) h2 q2,(Fr.of_set w9 ⟨PB,0,none⟩ v').block j (Nat.lt_of_lt_of_le (hi3.xl j (hXX j h1)) hf9.size) h2,hf9.block j (hi3.xl j (hXX j h1)) q1]
   exact hkp j h1 h2 h3
  ·rw [World.size_setCell];exact Nat.lt_of_lt_of_le (Nat.lt_of_lt_of_le hbw hf9.size) hsz5
 ·refine ⟨false,rfl,kp (.inr ⟨rfl,(x::preTL (x.kids.take k))++q,?_,by rw [← List.append_assoc];exact hx⟩)⟩
  rw [preT_eq,List.cons_append]
  exact (List.prefix_cons_inj _).2 (((List.prefix_append_right_inj _).2 hq).trans (preTL_pre _ hk))
theorem wide_fn (k:Nat):Fence.wide.fn k:=trivial
theorem wide_depth:Fence.wide.depth=none:=rfl
attribute [local go_sem] Oper.semAt_some wide_fn wide_depth in
theorem visit_any {J:WI} {Jx:List Nd→World→Prop} {ys:List Nd} {l YB PB VB BT lo hi:Nat} {W0:World} (hJ:RngI J) (hY:YldC l J Jx ys):∀ (N:Nat) (x:Nd),szT x≤N→N≤100000→∀ (X:Nat→Prop) (pre:List Nd) (v:Value) (ps:List Int) (W:World) (A:Option Addr) (cap:Nat),J X pre W→ItS l YB PB VB BT lo hi W0 X v ps W→NdsD W0 lo hi A x.kids→ps.length+dpT x≤1000→pre++preT x <+: ys→
  Calls Tryz.prog 122 #[.agg (ndC x A cap),.pointer (some ⟨YB,0,none⟩),.pointer (some ⟨PB,0,none⟩),.pointer (some ⟨VB,0,none⟩)] W (VsQ J Jx l YB PB VB BT lo hi W0 X pre v ps (preT x) W):=by
 intro N
 induction N with
 | zero=>intro x hx;have:=szT_pos x;omega
 | succ N ih=>
   intro x hx hN X pre v ps W A cap hj hi' hD hm hpre
   obtain ⟨Av,cv,rfl,hcv,_⟩:=ofb hi'.own
   have HRN:=kp (visit_rnd (A:=A) (cap:=cap) (b0:=W.heap.size) hJ hY hx (by omega) hj hi' hD (by omega) (((List.prefix_append_right_inj _).2 (by rw [preT_eq];exact ⟨preTL x.kids,rfl⟩)).trans hpre) (bld (blb W (Obj.cells (ndC x A cap) 26))) (Nat.le_refl _) ((bxn W (ndC x A cap) 26).below (bld (Below.refl _ _))))
   have HB:=kp (blb W (Obj.cells (ndC x A cap) 26))
   have HRX:=kp (bxn W (ndC x A cap) 26)
   have HIT:=kp (And.intro hi' (And.intro hD hm))
   have HPR:=kp hpre
   have HIH:=kp (fun (y:Nd) (hy:y∈x.kids)=>ih y (by have:=szT_kid hy;omega) (by omega))
   have HBY:=kp (And.intro ((hi'.yb.below HB.out).cell (j:=0) rfl) ((hi'.yb.below HB.out).free 0))
   have HBP:=kp (And.intro ((hi'.pb.below HB.out).cell (j:=0) rfl) ((hi'.pb.below HB.out).free 0))
   clear hj hi' hD hm ih hpre
   have hmx:Tryz.prog.follows .mixedOrders=true:=by kernel_rfl
   go_enter Tryz.func122,Tryz.ntmps122
   go_upto_region 1 with fail
   generalize hV:W.alloc _=V at HB HRX HBY HBP HRN ⊢
   clear hV
   go_cut [14] (fun t wc=>∃ b:Bool,t=.bool (!b)∧Hid ((b=true∧VsR J l YB PB VB BT lo hi W0 X pre (.slice Av ps.length cv) ps [x] W W.heap.size (ndC x A cap) wc)∨(b=false∧Jx (pre++[x]) wc)))
   case first=>
    obtain ⟨a0,a1,a2,a3,_⟩:=HRX.out.four
    obtain ⟨y0,_⟩:=HBY.out
    obtain ⟨y1,_⟩:=HBP.out
    refine (wpIn_wide (n:=0)).1 ?_
    gi_region_with_o (first
     | (gi_at_call 52;refine (callsIn_wide.2 HRN.out).mono ?_;rintro e W1 ⟨Ap,np,cp,rfl,hb1,hc2⟩;have HC2:=kp hc2;obtain ⟨a0,a1,a2,a3,_⟩:=(HRX.out.below ((bld (Below.refl _ _)).trans hb1)).four;have y0:=blc ((bld (Below.refl _ _)).trans hb1) HBY.out.1;clear hc2)
     | (gi_at_call 35;refine (callsIn_wide.2 HC2.out).mono ?_;rintro e W2 ⟨A2,c2,rfl,hb2,fn,tmps,assign,body,hy,hR⟩;have y0:=blc hb2 y0)
     | (refine hR.mono ?_;clear hR;rintro e W3 ⟨b,rfl,HQ⟩))
    all_goals
     go_simp
     go_wp2_with fail
     go_meet
     exact ⟨_,rfl,HQ⟩
   case rest=>
    obtain ⟨b,rfl,HQ⟩:=hcut
    cases b with
    | false=>
      have HX:=kp (show VsQ J Jx l YB PB VB BT lo hi W0 X pre (.slice Av ps.length cv) ps (preT x) W (.returned (.bool false)) wc from by
       rcases HQ.out with ⟨e,_⟩ | ⟨_,h⟩
       ·cases e
       ·exact .inr ⟨rfl,[x],by rw [preT_eq];exact ⟨preTL x.kids,rfl⟩,h⟩)
      go_wp2_with fail
      go_ret
      exact HX.out
    | true=>
      have HR0:=kp (show VsR J l YB PB VB BT lo hi W0 X pre (.slice Av ps.length cv) ps (x::preTL (x.kids.take 0)) W W.heap.size (ndC x A cap) wc from by
       rcases HQ.out with ⟨_,h⟩ | ⟨e,_⟩
       ·rw [List.take_zero,preTL];exact h
       ·cases e)
      have HB0:=kp (show Bx wc W.heap.size (ndC x A cap) from by obtain ⟨_,_,_,_,h,_⟩:=HR0.out;exact h)
      obtain ⟨i0,hi0,hz0,hz1,hz2⟩:=info_parts info_int
      have HI:=kp (And.intro hi0 (And.intro hz0 (And.intro hz1 hz2)))
      have hl:x.kids.length≤1000000:=by have:=szL_len x.kids;have:=szT_eq x;omega
      clear hi0 hz0 hz1 hz2 HQ
      obtain ⟨a0,a1,a2,a3,_⟩:=HB0.out.four
      have hla:=HB0.out.lt
      go_upto_region 4 with fail
      go_loopw [18] (fun i wr=>∃ k:Nat,k≤x.kids.length∧i=.int .i64 k∧Hid (VsR J l YB PB VB BT lo hi W0 X pre (.slice Av ps.length cv) ps (x::preTL (x.kids.take k)) W W.heap.size (ndC x A cap) wr)) (fun i _=>x.kids.length - (intOf i).toNat)
      case atStart=>exact ⟨0,by omega,rfl,HR0⟩
      case round=>
       obtain ⟨k,hk,rfl,HR⟩:=hrel
       clear a0 a1 a2 a3 hla
       by_cases hin:k<x.kids.length
       ·obtain ⟨X3,v3,hj3,hi3,hb3,hx3,hWb,hXX,hv3,hkp,hsz⟩:=HR.out
        obtain ⟨Ao3,c3,e3,hc3,_⟩:=ofb hi3.own
        have hiW:=HIT.out.1
        have hPW:PB<W.heap.size:=hiW.pb.lt
        have hP3:¬ some PB=v3.ownBlock:=fun e=>by have:=hi3.row e.symm;have:=hi3.ord;omega
        have hC3:¬ some wr.heap.size=v3.ownBlock:=fun e=>by have:=own_ltW hi3.own e.symm;omega
        obtain ⟨bk,ok,A',c',hA',q1,q2,k0,k1,k2,k3,hDK⟩:=HIT.out.2.1.kid hin
        have k0:=(NdsD.same hi3.keep q1 q2).trans k0
        have k1:=(NdsD.same hi3.keep q1 q2).trans k1
        have k2:=(NdsD.same hi3.keep q1 q2).trans k2
        have k3:=(NdsD.same hi3.keep q1 q2).trans k3
        have hbk:=block_lt_of_cell k0
        have hKS:=fun (U w9:World) (v':Value) (hU:Below wr.heap.size wr U) (hown:w9.ownsRow BT 3 1 v' (ps.length+1) (ps.map (.int .i64)++[.int .i64 k])) (hgrow:U.grownBy w9 v3.ownBlock) (hat:v'.ownBlock=v3.ownBlock∨v'.ownBlock=some U.heap.size)=>visit_kid (c':=c') hJ (x:=x) (fun j=>hiW.xl j) (fun g=>hiW.xv g) hPW hin hj3 hi3 hb3 hx3 hWb hXX hv3 hkp hU hown hgrow hat hDK HIT.out.2.2 HPR.out (fun X pre v ps W A cap=>HIH.out x.kids[k] (List.getElem_mem hin) X pre v ps W A cap)
        have HKS:=kp hKS
        have HMV:=kp (fun (U w9:World) (v':Value) (y:Nd) (hU:Below wr.heap.size wr U) (hg:U.grownBy w9 v3.ownBlock) (hc:Bx U wr.heap.size (ndC y A' c'))=>show Bx w9 PB #[v3]∧Bx (w9.setCell ⟨PB,0,none⟩ v') wr.heap.size (ndC y A' c') from ⟨(hi3.pb.below hU).fr (Fr.of_grown hg) hP3,(hc.fr (Fr.of_grown hg) hC3).fr (Fr.of_set _ _ _) (fun e=>by have e':wr.heap.size=PB:=e;have:=hi3.pb.lt;omega)⟩)
        have HO3:=kp (e3▸hi3.own)
        have y1:wr.cell? ⟨PB,0,none⟩=some (.slice Ao3 ps.length c3):=by rw [← e3];exact hi3.pb.cell rfl
        have HEQ:=kp e3
        have hBT:BT≤wr.heap.size:=hi3.ord.2.2.2.2.2.2.2.2
        have hdn:ps.length≤1000:=by have:=HIT.out.2.2;omega
        have r0:(0:Int)≤k:=by omega
        have r1:(k:Int)<x.kids.length:=by omega
        have HBX:=kp (blb wr (Obj.cells (ndC x.kids[k] A' c') 26))
        have HRX2:=kp (bxn wr (ndC x.kids[k] A' c') 26)
        have hsz2:(wr.alloc (Obj.cells (ndC x.kids[k] A' c') 26)).heap.size=wr.heap.size+1:=by simp
        clear hKS hj3 hi3 hb3 hx3 hWb hXX hv3 hkp hsz hiW hDK hP3 hC3 e3 hPW
        subst hA'
        generalize x.kids[k]=y at *
        go_upto_region 6 with fail
        generalize wr.alloc _=V2 at HBX HRX2 hsz2 ⊢
        have y1:=blc HBX.out y1
        have HO4:=kp (obl HO3.out HBX.out)
        have HAP:=kp (fun (v':Value) (w9:World) (hown:w9.ownsRow BT 3 1 v' (ps.length+1) (ps.map (.int .i64)++[.int .i64 k])) (hgrow:(V2.alloc (Obj.cells #[.int .i64 k] 3)).grownBy w9 (Value.slice Ao3 ps.length c3).ownBlock) (hat:v'.ownBlock=(Value.slice Ao3 ps.length c3).ownBlock∨v'.ownBlock=some (V2.alloc (Obj.cells #[.int .i64 k] 3)).heap.size)=>show (w9.cell? ⟨PB,0,none⟩=some (.slice Ao3 ps.length c3)∧w9.frozen? ⟨PB,0,none⟩=false∧PB<w9.heap.size)∧Hid (Bx (w9.setCell ⟨PB,0,none⟩ v') wr.heap.size (ndC y A' c')∧Bx (w9.setCell ⟨PB,0,none⟩ v') VB #[.func (.func 122) #[] #[.pointer (some ⟨YB,0,none⟩),.pointer (some ⟨PB,0,none⟩),.pointer (some ⟨VB,0,none⟩)]]∧Calls Tryz.prog 122 #[.agg (ndC y A' c'),.pointer (some ⟨YB,0,none⟩),.pointer (some ⟨PB,0,none⟩),.pointer (some ⟨VB,0,none⟩)] (w9.setCell ⟨PB,0,none⟩ v') (fun e W'=>∃ b,e=.returned (.bool b)∧Hid ((b=true∧VsK J l YB PB VB BT lo hi W0 X pre (.slice Av ps.length cv) ps (x::preTL (x.kids.take (k+1))) W W.heap.size (ndC x (some ⟨bk,ok,none⟩) cap) W')∨(b=false∧∃ q,q <+: preT x∧Jx (pre++q) W')))) from by
         rw [← HEQ.out] at hgrow hat
         have hU:=bls HBX.out HBX.out.size (blb V2 (Obj.cells #[.int .i64 k] 3))
         obtain ⟨m1,m2⟩:=HMV.out _ w9 v' y hU hgrow (HRX2.out.below (blb _ _))
         obtain ⟨m3,m4⟩:=HKS.out _ w9 v' hU hown hgrow hat
         exact ⟨⟨by rw [← HEQ.out];exact m1.cell rfl,m1.free 0,m1.lt⟩,kp ⟨m2,m3.vb,m4⟩⟩)
        go_upto_region 7 with (at_builtin;go_loud (refine wpList_app _ rfl _ _ 30 rfl BT 3 i0 (.int .i64 0) 1 8 Tryz.underlying30 HI.out.1 HI.out.2.1 HI.out.2.2.1 HI.out.2.2.2 rfl (by decide) (.slice Ao3 ps.length c3) ps.length (ps.map (.int .i64)) rfl (obl HO4.out (blb _ _)) (some ⟨wr.heap.size+1,0,none⟩) 1 1 [.int .i64 k] rfl rfl (cnu V2 hsz2 [.int .i64 k] 3) (one_i64 _) (by unfold maxLen;omega) (by omega) (by simp;omega) ?_;intro v' w9 hown hgrow hat;obtain ⟨⟨z0,z1,z2⟩,HM⟩:=HAP.out v' w9 hown hgrow hat;obtain ⟨A9,c9,rfl,hc9,hqq⟩:=ofb hown;clear hqq hown hgrow hat))
        clear HAP HMV HKS
        generalize World.setCell _ _ _=Wp at HM ⊢
        obtain ⟨b0,b1,b2,b3,_⟩:=HM.out.1.four
        have hlb:=HM.out.1.lt
        have v0:=HM.out.2.1.cell (j:=0) rfl
        have hlv:=HM.out.2.1.lt
        go_wp2_with fail
        refine HM.out.2.2.mono ?_
        rintro e W1 ⟨b,rfl,HQ⟩
        cases b with
        | false=>
          have HX:=kp (show VsQ J Jx l YB PB VB BT lo hi W0 X pre (.slice Av ps.length cv) ps (preT x) W (.returned (.bool false)) W1 from by
           rcases HQ.out with ⟨e,_⟩ | ⟨_,h⟩
           ·cases e
           ·exact .inr ⟨rfl,h⟩)
          go_wp2_with fail
          go_ret
          exact HX.out
        | true=>
          have HV:=kp (show VsK J l YB PB VB BT lo hi W0 X pre (.slice Av ps.length cv) ps (x::preTL (x.kids.take (k+1))) W W.heap.size (ndC x (some ⟨bk,ok,none⟩) cap) W1 from by
           rcases HQ.out with ⟨_,h⟩ | ⟨e,_⟩
           ·exact h
           ·cases e)
          obtain ⟨A5,c5,p0,p1,p2,⟨g5,rfl⟩,HN⟩:=HV.out
          have hlp:=block_lt_of_cell p0
          have s0:((ps.length:Int)+1) - 1=ps.length:=by omega
          have s1:(0:Int)≤ps.length:=by omega
          have s2:(ps.length:Int)<(ps.length:Int)+1:=by omega
          have s4:(((ps.length+1:Nat):Int))=(ps.length:Int)+1:=by omega
          have s5:(ps.length:Int)≤c5:=by omega
          have s6:¬ ((ps.length:Int)<0):=by omega
          clear HV HQ
          go_wp2_with fail
          refine ⟨?_,?_⟩
          ·(repeat apply Exists.intro)
           exact ⟨⟨k+1,by omega,by go_num,HN⟩,rfl⟩
          ·simp [intOf]
           omega
       ·obtain rfl:k=x.kids.length:=by omega
        have HX:=kp (show VsQ J Jx l YB PB VB BT lo hi W0 X pre (.slice Av ps.length cv) ps (preT x) W (.returned (.bool true)) wr from by
         obtain ⟨X',v',h1,h2,h3,h4,h5,h6,h7,h8,h9⟩:=HR.out
         rw [List.take_length,← preT_eq] at h1
         exact .inl ⟨rfl,X',v',h1,h2,h6,fun g hg=>(h7 g hg).elim .inl (fun e=>.inr (by omega)),h8,Nat.le_of_lt h9⟩)
        go_wp2_with fail
        go_ret
        exact HX.out
theorem three_boxes (w:World) (T1 T2 T3:TypeId) (u1 u2 u3:Value):Below w.heap.size w (((w.alloc (.cells #[u1] T1)).alloc (.cells #[u2] T2)).alloc (.cells #[u3] T3))∧Bx (((w.alloc (.cells #[u1] T1)).alloc (.cells #[u2] T2)).alloc (.cells #[u3] T3)) w.heap.size #[u1]∧Bx (((w.alloc (.cells #[u1] T1)).alloc (.cells #[u2] T2)).alloc (.cells #[u3] T3)) (w.heap.size+1) #[u2]∧Bx (((w.alloc (.cells #[u1] T1)).alloc (.cells #[u2] T2)).alloc (.cells #[u3] T3)) (w.heap.size+1+1) #[u3]∧(((w.alloc (.cells #[u1] T1)).alloc (.cells #[u2] T2)).alloc (.cells #[u3] T3)).heap.size=w.heap.size+3:=by
 have b1:=blb w (.cells #[u1] T1)
 have x1:=bxn w #[u1] T1
 have z1:(w.alloc (.cells #[u1] T1)).heap.size=w.heap.size+1:=by simp
 generalize w.alloc (.cells #[u1] T1)=w1 at *
 have b2:=blb w1 (.cells #[u2] T2)
 have x2:=bxn w1 #[u2] T2
 have z2:(w1.alloc (.cells #[u2] T2)).heap.size=w1.heap.size+1:=by simp
 have x1:=x1.below b2
 rw [z1] at x2
 have b2:=bls b1 b1.size b2
 generalize w1.alloc (.cells #[u2] T2)=w2 at *
 have b3:=blb w2 (.cells #[u3] T3)
 have x3:=bxn w2 #[u3] T3
 have z3:(w2.alloc (.cells #[u3] T3)).heap.size=w2.heap.size+1:=by simp
 have x1:=x1.below b3
 have x2:=x2.below b3
 rw [z2,z1] at x3
 exact ⟨bls b2 b2.size b3,x1,x2,x3,by omega⟩
def WkQ (J:WI) (Jx:List Nd→World→Prop) (ys:List Nd) (e:Ending) (W':World):Prop:=(∃ v,e=.returned v)∧((∃ X,J X ys W')∨∃ q,q <+: ys∧Jx q W')
theorem walk1_any {J:WI} {Jx:List Nd→World→Prop} {l lo hi Bt:Nat} {W0 W:World} {x:Nd} (hJ:RngI J) (hY:YldC l J Jx (preT x)) (hx:szT x≤100000) (hd:dpT x≤1000) {A:Option Addr} {cap:Nat} (hj:J (fun k=>lo≤k∧k<hi) [] W) (hkp:∀ k,lo≤k→k<hi→W.heap[k]?=W0.heap[k]?) (hhi:hi≤W.heap.size) (hb:Bx W0 Bt (ndC x A cap)) (hbt:lo≤Bt∧Bt<hi) (hD:NdsD W0 lo hi A x.kids) :
  Calls Tryz.prog 121 #[.func (.yield l) #[] #[],.pointer (some ⟨Bt,0,none⟩)] W (WkQ J Jx (preT x)):=by
 have hbW:Bx W Bt (ndC x A cap):=by
  obtain ⟨T,hT⟩:=hb
  exact ⟨T,(hkp Bt hbt.1 hbt.2).trans hT⟩
 have HSC:=kp (fun (W3:World) (h:Below W.heap.size W W3∧Bx W3 W.heap.size #[.func (.yield l) #[] #[]]∧Bx W3 (W.heap.size+1) #[.slice none 0 0]∧Bx W3 (W.heap.size+1+1) #[.func (.func 122) #[] #[.pointer (some ⟨W.heap.size,0,none⟩),.pointer (some ⟨W.heap.size+1,0,none⟩),.pointer (some ⟨W.heap.size+1+1,0,none⟩)]]∧W3.heap.size=W.heap.size+3)=>show Calls Tryz.prog 122 #[.agg (ndC x A cap),.pointer (some ⟨W.heap.size,0,none⟩),.pointer (some ⟨W.heap.size+1,0,none⟩),.pointer (some ⟨W.heap.size+1+1,0,none⟩)] W3 (fun e W'=>∃ b,e=.returned (.bool b)∧Hid ((∃ X,J X (preT x) W')∨∃ q,q <+: preT x∧Jx q W')) from by
  obtain ⟨h1,h2,h3,h4,h5⟩:=h
  have hi3:ItS l W.heap.size (W.heap.size+1) (W.heap.size+1+1) (W.heap.size+3) lo hi W0 (fun k=>(lo≤k∧k<hi)∨(W.heap.size≤k∧k<W3.heap.size)) (.slice none 0 0) [] W3:=
   ⟨h2,h3,h4,⟨rfl,.inl ⟨rfl,rfl⟩⟩,fun k a b=>(h1.block k (by omega)).trans (hkp k a b),fun k a b=>.inl ⟨a,b⟩,⟨.inr (by omega),.inr (by omega),.inr (by omega)⟩,fun g e=>by simp [Value.ownBlock] at e,fun k e=>by omega,by omega⟩
  have hj3:=hJ _ (fun k=>(lo≤k∧k<hi)∨(W.heap.size≤k∧k<W3.heap.size)) [] W W3 hj (Fr.of_below h1 _) (fun _ h=>.inl h) (fun _ h=>h)
  refine (visit_any hJ hY 100000 x hx (Nat.le_refl _) _ [] (.slice none 0 0) [] W3 A cap hj3 hi3 hD (by simpa using hd) (by rw [List.nil_append];exact List.prefix_refl _)).mono ?_
  rintro e W' (⟨rfl,X',v',h,_⟩ | ⟨rfl,q,hq,h⟩)
  ·exact ⟨true,rfl,kp (.inl ⟨X',by simpa using h⟩)⟩
  ·exact ⟨false,rfl,kp (.inr ⟨q,hq,by simpa using h⟩)⟩)
 clear hj hkp hhi hb hbt hD hJ hY hx hd
 go_enter Tryz.func121,Tryz.ntmps121
 have HBW:=kp hbW
 clear hbW
 go_upto_region 4 with fail
 generalize hW3:World.alloc _ _=W3
 have HW3:_:=three_boxes W 173 30 47 (.func (.yield l) #[] #[]) (.slice none 0 0) (.func (.func 122) #[] #[.pointer (some ⟨W.heap.size,0,none⟩),.pointer (some ⟨W.heap.size+1,0,none⟩),.pointer (some ⟨W.heap.size+1+1,0,none⟩)])
 rw [hW3] at HW3
 have HC:=kp (HSC.out W3 HW3)
 obtain ⟨h1,h2,h3,h4,h5⟩:=HW3
 obtain ⟨a0,a1,a2,a3,_⟩:=(HBW.out.below h1).four
 have hla:=(HBW.out.below h1).lt
 have v0:=h4.cell (j:=0) rfl
 have hlv:=h4.lt
 clear hW3 h1 h2 h3 h4 h5
 go_wp2_with fail
 refine HC.out.mono ?_
 rintro e W' ⟨b,rfl,HQ⟩
 go_wp2_with fail
 go_end0
 exact ⟨⟨_,rfl⟩,HQ.out⟩
def WalkP (x:Nd) (w:World) (e:Ending) (w':World):Prop:=∃ Bt A cap,e=.returned (.func (.func 121) #[] #[.pointer (some ⟨Bt,0,none⟩)])∧Bx w' Bt (ndC x A cap)∧w.heap.size≤Bt∧Bt<w'.heap.size∧NdsD w' w.heap.size w'.heap.size A x.kids∧Below w.heap.size w w'
theorem walk_any {x:Nd} (hx:szT x≤100000) {A:Option Addr} {cap:Nat} {w:World} (hK:NdsAt w A x.kids):Calls Tryz.prog 90 #[.agg (ndC x A cap)] w (WalkP x w):=by
 have HB:=kp (blb w (Obj.cells (ndC x A cap) 26))
 have HRX:=kp (bxn w (ndC x A cap) 26)
 have HK:=kp hK
 clear hK
 go_enter Tryz.func90,Tryz.ntmps90
 go_upto_region 1 with fail
 generalize w.alloc _=V at HB HRX ⊢
 obtain ⟨a0,a1,a2,a3,_⟩:=HRX.out.four
 have hla:=HRX.out.lt
 have HC:=kp (clone_any 100000 x hx (by omega) A cap V (HK.out.mono HB.out))
 go_wp2_with fail
 refine HC.out.mono ?_
 rintro e w1 ⟨A1,c1,rfl,hd1,hs1,hb1⟩
 have HR1:=kp (And.intro hd1 hb1)
 clear hd1 hs1 hb1
 go_wp2_with fail
 have HF:=kp (show WalkP x w (.returned (.func (.func 121) #[] #[.pointer (some ⟨w1.heap.size,0,none⟩)])) (w1.alloc (Obj.cells (ndC x A1 c1) 26)) from by
  have hb:=blb w1 (Obj.cells (ndC x A1 c1) 26)
  have h1:=HB.out.size
  have h2:=HR1.out.2.size
  have hz:(w1.alloc (Obj.cells (ndC x A1 c1) 26)).heap.size=w1.heap.size+1:=by simp
  exact ⟨_,A1,c1,rfl,bxn _ _ _,by omega,by omega,(HR1.out.1.move fun k a b=>hb.block k b).wide (by omega) (by omega),bls (bls HB.out h1 HR1.out.2) (by omega) hb⟩)
 go_ret
 exact HF.out
end Go.Proofs.YtgbomnibedefoaaGreatDoor
