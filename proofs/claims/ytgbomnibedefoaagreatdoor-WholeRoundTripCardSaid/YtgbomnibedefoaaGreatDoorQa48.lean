import Derived.Lib.LaidTab
import Derived.Stop.LaidErr
import Derived.LaidSub
import Derived.LaidOnce
import Derived.Lay
import Derived.Shelf.Vars
import Derived.Deep.DeepWitnessRowRef
import Derived.Deep.Slices
import Derived.JoinedOf
import Derived.JoinedAt
import Derived.RowKit3
import Derived.Test.YtgbomnibedefoaaGreatDoorCards
import Derived.Test.YtgbomnibedefoaaGreatDoorTie
import Derived.Test.YtgbomnibedefoaaGreatDoorQa01
import Derived.Test.YtgbomnibedefoaaGreatDoorQa47
set_option maxRecDepth 100000
set_option maxHeartbeats 8000000
namespace Go.Proofs.YtgbomnibedefoaaGreatDoor
open Go.ChangeShapes Go.WideShapes Go.ChangeAt Go.RowKit Go.Deep
theorem wf_u8 {n:Int} (h:(Lit.int .u8 n).wf=true):∃ k:Nat,k<256∧n=k:=by
 simp only [Lit.wf,IntKind.min,IntKind.max,IntKind.signed,IntKind.bits,Bool.and_eq_true] at h
 exact ⟨n.toNat,by have:=h.1;have:=h.2;simp at *;omega,by have:=h.1;simp at *;omega⟩
theorem wf_i64 {n:Int} (h:(Lit.int .i64 n).wf=true):-9223372036854775808≤n∧n≤9223372036854775807:=by
 simp only [Lit.wf,IntKind.min,IntKind.max,IntKind.signed,IntKind.bits,Bool.and_eq_true,decide_eq_true_eq] at h
 simp at h;omega
theorem spot_none {w:World} {a:Addr} {v:Value} (h:w.cell? a=some v):a.spot=none:=by
 unfold World.cell? at h
 split at h
 ·split at h
  ·cases h
  ·rename_i hs;simpa using hs
 ·cases h
theorem add_pos (b o n:Nat):(⟨b,o,none⟩:Addr).add n=⟨b,o+n,none⟩:=by
 unfold Addr.add;by_cases h:n=0<;>simp [h]
theorem list_six {l:List Value} (h:l.length=6):∃ a b c d e f,l=[a,b,c,d,e,f]:=by
 match l,h with
 | [a,b,c,d,e,f],_=>exact ⟨a,b,c,d,e,f,rfl⟩
theorem list_four {l:List Value} (h:l.length=4):∃ a b c d,l=[a,b,c,d]:=by
 match l,h with
 | [a,b,c,d],_=>exact ⟨a,b,c,d,rfl⟩
theorem list_three {l:List Value} (h:l.length=3):∃ a b c,l=[a,b,c]:=by
 match l,h with
 | [a,b,c],_=>exact ⟨a,b,c,rfl⟩
instance:Inhabited Nd:=⟨.mk 0 0 ⟨#[]⟩ []⟩
instance:Inhabited Vd:=⟨⟨⟨#[]⟩,0,0⟩⟩
instance:Inhabited Pc:=⟨⟨⟨#[]⟩,[],default⟩⟩
section
variable {H:Type} {enc:TypeId × Value→H} {w:World} {base:Nat} {spare:Nat→Bool} {held:Bool} {r:Reach} {b0:Nat}
theorem trod_list {α:Type} [Inhabited α] {t e:TypeId} {c:Nat} (ht:Tryz.prog.underlying t=some (.slice e)) (hc:Tryz.prog.cellsOf e=c) (hc0:0<c) {p:List Value→α→Prop} {fuel:Nat} {cs:List Value} {x:DataW H × List MemPlace}
  (h:DataW.trod enc Tryz.prog w base spare held fuel t cs=some x)
  (hp:∀ (n:Nat) (cs':List Value) (y:DataW H × List MemPlace),n<fuel→DataW.trod enc Tryz.prog w base spare held n e cs'=some y→cs'.length=c→∃ a,p cs' a) :
  ∃ (A:Option Addr) (l:List α) (cap:Nat),cs=[.slice A l.length cap]∧SlOk A l.length cap∧l.length≤9223372036854775807∧
    ∀ (k:Nat) (a:α),l[k]?=some a→∃ b o cs',A=some ⟨b,o,none⟩∧p cs' a∧∀ j,j<c→w.cell? ⟨b,o+k*c+j,none⟩=cs'[j]?:=by
 rcases DataW.trod_slice ht h with ⟨rfl,_⟩ | ⟨a,len,cap,elems,rest,n,hf,rfl,rfl,hb,hl,hm,hlen,hel,_,_⟩
 ·exact ⟨none,[],0,rfl,⟨Nat.le_refl _,fun _=>rfl⟩,by simp,fun k a hk=>by simp at hk⟩
 have key:∀ i,i<len→∃ q:α × List Value,p q.2 q.1∧w.cells? base (a.add (i*c)) c=some q.2:=fun i hi=>by
  have h1:=hel i hi
  rw [List.getElem?_eq_getElem (by omega),hc] at h1
  obtain ⟨cs',h2,h3⟩:=Option.bind_eq_some_iff.1 h1
  obtain ⟨_,h4,_⟩:=World.cells?_some h2
  obtain ⟨y,hy⟩:=hp n cs' _ (by omega) h3 h4
  exact ⟨(y,cs'),hy,h2⟩
 obtain ⟨f,hf'⟩:=choose_lt key
 have hlen':((List.range len).map fun i=>(f i).1).length=len:=by simp
 refine ⟨some a,(List.range len).map fun i=>(f i).1,cap,by rw [hlen'],by rw [hlen'];exact ⟨hl,fun e=>by cases e⟩,by rw [hlen'];unfold maxLen at hm;omega,fun k y hk=>?_⟩
 have hkl:k<len:=by have:=(List.getElem?_eq_some_iff.1 hk).1;simpa using this
 obtain rfl:(f k).1=y:=by simpa [hkl] using hk
 obtain ⟨h1,h2⟩:=hf' k hkl
 obtain ⟨_,h4,hat⟩:=World.cells?_some h2
 have hsp0:a.spot=none:=by
  obtain ⟨_,h5,hat0⟩:=World.cells?_some (hf' 0 (by omega)).2
  have hz:=hat0 0 hc0
  rw [List.getElem?_eq_getElem (by omega)] at hz
  rw [Nat.zero_mul] at hz
  have e1:(a.add 0).add 0=a:=by simp [Addr.add]
  rw [e1] at hz
  exact spot_none hz
 obtain ⟨b,o,sp⟩:=a
 have hsp:sp=none:=hsp0
 subst hsp
 refine ⟨b,o,(f k).2,rfl,h1,fun j hj=>?_⟩
 have:=hat j hj
 rw [add_pos,add_pos] at this
 exact this
def IntsC (w:World) (cs:List Value) (l:List Int):Prop:=∃ A cap,cs=[.slice A l.length cap]∧IntsAt w A l∧l.length≤9223372036854775807∧∀ n∈l,InR n
theorem trod_ints {fuel:Nat} {cs:List Value} {x:DataW H × List MemPlace} (h:DataW.trod enc Tryz.prog w base spare held fuel 30 cs=some x):∃ l,IntsC w cs l:=by
 have c1:Tryz.prog.cellsOf 3=1:=by kernel_rfl
 obtain ⟨A,l,cap,rfl,_,hl,hk⟩:=trod_list (α:=Int) Tryz.underlying30 c1 (by omega) (p:=fun cs' (n:Int)=>cs'=[.int .i64 n]∧InR n) h (fun m cs' y hm ht _=>by
  obtain ⟨n,q,_,wf⟩:=DataW.trod_int Tryz.underlying3 ht
  exact ⟨n,q,wf_i64 wf⟩)
 refine ⟨l,A,cap,rfl,fun k n hn=>?_,hl,fun n hn=>?_⟩
 ·obtain ⟨b,o,cs',rfl,⟨rfl,_⟩,hc⟩:=hk k n hn
  have e0:=hc 0 (by omega)
  simp at e0
  exact ⟨b,o,rfl,e0⟩
 ·obtain ⟨k,hkn⟩:=List.getElem?_of_mem hn
  obtain ⟨_,_,_,_,⟨_,h⟩,_⟩:=hk k n hkn
  exact h
theorem trod_cls {fuel:Nat} {cs:List Value} {x:DataW H × List MemPlace} (h:DataW.trod enc Tryz.prog w base spare held fuel 29 cs=some x):∃ A l cap,cs=[.slice A l.length cap]∧ClsAt w A l∧l.length≤9223372036854775807∧∀ c∈l,c.length≤9223372036854775807∧∀ n∈c,InR n:=by
 have c1:Tryz.prog.cellsOf 30=1:=by kernel_rfl
 obtain ⟨A,l,cap,rfl,_,hl,hk⟩:=trod_list (α:=List Int) Tryz.underlying29 c1 (by omega) (p:=IntsC w) h (fun m cs' y hm ht _=>trod_ints ht)
 refine ⟨A,l,cap,rfl,fun k c hc=>?_,hl,fun c hc=>?_⟩
 ·obtain ⟨b,o,cs',rfl,⟨A2,c2,rfl,hi,_⟩,hq⟩:=hk k c hc
  have e0:=hq 0 (by omega)
  simp at e0
  exact ⟨b,o,A2,c2,rfl,e0,hi⟩
 ·obtain ⟨k,hkn⟩:=List.getElem?_of_mem hc
  obtain ⟨_,_,_,_,⟨_,_,_,_,h1,h2⟩,_⟩:=hk k c hkn
  exact ⟨h1,h2⟩
def NdCells (w:World) (cs:List Value) (y:Nd):Prop:=∃ A cap,cs=[.int .u8 y.kind,.int .i64 y.num,.string y.name,.slice A y.kids.length cap]∧NdsAt w A y.kids∧NdFit y
theorem ndo_of {b o:Nat} {cs':List Value} {y:Nd} (hp:NdCells w cs' y) (hc:∀ j,j<4→w.cell? ⟨b,o+j,none⟩=cs'[j]?):NdO w b o y:=by
 obtain ⟨A',cap',rfl,hK,_⟩:=hp
 have e0:=hc 0 (by omega)
 have e1:=hc 1 (by omega)
 have e2:=hc 2 (by omega)
 have e3:=hc 3 (by omega)
 simp at e0 e1 e2 e3
 by_cases h0:0<y.kids.length
 ·obtain ⟨b1,o1,hA,_⟩:=hK.at_ h0
  exact .mk e0 e1 e2 e3 (fun _=>hA) (fun j z hz=>by
   obtain ⟨b2,o2,hA2,h2⟩:=hK j z hz
   rw [hA] at hA2
   simp at hA2
   obtain ⟨rfl,rfl⟩:=hA2
   exact h2)
 ·exact .mk (b':=0) (o':=0) e0 e1 e2 e3 (fun h=>absurd h h0) (fun j z hz=>by
   have:=(List.getElem?_eq_some_iff.1 hz).1;omega)
theorem nds_of_cells {A:Option Addr} {l:List Nd} (h:∀ (k:Nat) (a:Nd),l[k]?=some a→∃ b o cs',A=some ⟨b,o,none⟩∧NdCells w cs' a∧∀ j,j<4→w.cell? ⟨b,o+k*4+j,none⟩=cs'[j]?):NdsAt w A l:=fun k y hk=>by
 obtain ⟨b,o,cs',rfl,hp,hc⟩:=h k y hk
 exact ⟨b,o,rfl,ndo_of hp hc⟩
theorem trod_node:∀ (fuel:Nat) (cs:List Value) (x:DataW H × List MemPlace),DataW.trod enc Tryz.prog w base spare held fuel 26 cs=some x→∃ y,NdCells w cs y:=by
 intro fuel
 induction fuel using Nat.strongRecOn with
 | ind fuel ih=>
   intro cs x h
   obtain ⟨xs,n,hn,hx,hlen,hxl,hg⟩:=DataW.trod_struct Tryz.underlying26 h
   have c4:Tryz.prog.cellsOf 26=4:=by kernel_rfl
   have c1:Tryz.prog.cellsOf 3=1:=by kernel_rfl
   have c8:Tryz.prog.cellsOf 5=1:=by kernel_rfl
   have cS:Tryz.prog.cellsOf 9=1:=by kernel_rfl
   have cK:Tryz.prog.cellsOf 24=1:=by kernel_rfl
   obtain ⟨a,b,c,d,rfl⟩:=list_four (hlen.trans c4)
   have hget:∀ i,i<4→∃ y,xs[i]?=some y:=fun i hi=>⟨xs[i]'(by rw [hxl];exact hi),List.getElem?_eq_getElem _⟩
   obtain ⟨y0,e0⟩:=hget 0 (by omega)
   obtain ⟨y1,e1⟩:=hget 1 (by omega)
   obtain ⟨y2,e2⟩:=hget 2 (by omega)
   obtain ⟨y3,e3⟩:=hget 3 (by omega)
   have g0:DataW.trod enc Tryz.prog w base spare held n 5 (List.take (Tryz.prog.cellsOf 5) (List.drop 0 [a,b,c,d]))=some y0:=(hg 0 _ rfl).trans e0
   have g1:DataW.trod enc Tryz.prog w base spare held n 3 (List.take (Tryz.prog.cellsOf 3) (List.drop 1 [a,b,c,d]))=some y1:=(hg 1 _ rfl).trans e1
   have g2:DataW.trod enc Tryz.prog w base spare held n 9 (List.take (Tryz.prog.cellsOf 9) (List.drop 2 [a,b,c,d]))=some y2:=(hg 2 _ rfl).trans e2
   have g3:DataW.trod enc Tryz.prog w base spare held n 24 (List.take (Tryz.prog.cellsOf 24) (List.drop 3 [a,b,c,d]))=some y3:=(hg 3 _ rfl).trans e3
   simp only [c1,c8,cS,cK] at g0 g1 g2 g3
   obtain ⟨n0,q0,_,w0⟩:=DataW.trod_int Tryz.underlying5 g0
   obtain ⟨n1,q1,_,w1⟩:=DataW.trod_int Tryz.underlying3 g1
   obtain ⟨s2,q2,_,w2⟩:=DataW.trod_string Tryz.underlying9 g2
   obtain ⟨A,l,cap,q3,_,hl,hk⟩:=trod_list (α:=Nd) Tryz.underlying24 c4 (by omega) (p:=NdCells w) g3 (fun m cs' y hm ht _=>ih m (by omega) cs' y ht)
   obtain ⟨op,hop,rfl⟩:=wf_u8 w0
   simp only [List.drop_zero,List.drop_succ_cons,List.take_succ_cons,List.take_zero,List.cons.injEq,and_true] at q0 q1 q2 q3
   unfold maxLen at w2
   refine ⟨.mk op n1 s2 l,A,cap,by rw [q0,q1,q2,q3];rfl,nds_of_cells hk,.mk hop (wf_i64 w1) (by show s2.size≤_;omega) hl (fun k y hy=>?_)⟩
   obtain ⟨_,_,cs',_,⟨_,_,_,_,hf⟩,_⟩:=hk k y hy
   exact hf
def VdCells (cs:List Value) (v:Vd):Prop:=cs=[.string v.name,.int .u8 v.kind,.int .i64 v.len]∧VdFit v
theorem trod_vd {fuel:Nat} {cs:List Value} {x:DataW H × List MemPlace} (h:DataW.trod enc Tryz.prog w base spare held fuel 62 cs=some x):∃ v,VdCells cs v:=by
 obtain ⟨xs,n,hn,hx,hlen,hxl,hg⟩:=DataW.trod_struct Tryz.underlying62 h
 have c3:Tryz.prog.cellsOf 62=3:=by kernel_rfl
 have c1:Tryz.prog.cellsOf 3=1:=by kernel_rfl
 have c8:Tryz.prog.cellsOf 5=1:=by kernel_rfl
 have cS:Tryz.prog.cellsOf 9=1:=by kernel_rfl
 obtain ⟨a,b,c,rfl⟩:=list_three (hlen.trans c3)
 have hget:∀ i,i<3→∃ y,xs[i]?=some y:=fun i hi=>⟨xs[i]'(by rw [hxl];exact hi),List.getElem?_eq_getElem _⟩
 obtain ⟨y0,e0⟩:=hget 0 (by omega)
 obtain ⟨y1,e1⟩:=hget 1 (by omega)
 obtain ⟨y2,e2⟩:=hget 2 (by omega)
 have g0:DataW.trod enc Tryz.prog w base spare held n 9 (List.take (Tryz.prog.cellsOf 9) (List.drop 0 [a,b,c]))=some y0:=(hg 0 _ rfl).trans e0
 have g1:DataW.trod enc Tryz.prog w base spare held n 5 (List.take (Tryz.prog.cellsOf 5) (List.drop 1 [a,b,c]))=some y1:=(hg 1 _ rfl).trans e1
 have g2:DataW.trod enc Tryz.prog w base spare held n 3 (List.take (Tryz.prog.cellsOf 3) (List.drop 2 [a,b,c]))=some y2:=(hg 2 _ rfl).trans e2
 simp only [c1,c8,cS] at g0 g1 g2
 obtain ⟨s0,q0,_,w0⟩:=DataW.trod_string Tryz.underlying9 g0
 obtain ⟨n1,q1,_,w1⟩:=DataW.trod_int Tryz.underlying5 g1
 obtain ⟨n2,q2,_,w2⟩:=DataW.trod_int Tryz.underlying3 g2
 obtain ⟨op,hop,rfl⟩:=wf_u8 w1
 simp only [List.drop_zero,List.drop_succ_cons,List.take_succ_cons,List.take_zero,List.cons.injEq,and_true] at q0 q1 q2
 unfold maxLen at w0
 exact ⟨⟨s0,op,n2⟩,by rw [q0,q1,q2],⟨by show s0.size≤_;omega,hop,wf_i64 w2⟩⟩
theorem trod_vds {fuel:Nat} {cs:List Value} {x:DataW H × List MemPlace} (h:DataW.trod enc Tryz.prog w base spare held fuel 22 cs=some x):∃ A l cap,cs=[.slice A l.length cap]∧VdsAt w A l∧SlOk A l.length cap∧l.length≤9223372036854775807∧∀ v∈l,VdFit v:=by
 have c3:Tryz.prog.cellsOf 62=3:=by kernel_rfl
 obtain ⟨A,l,cap,rfl,hs,hl,hk⟩:=trod_list (α:=Vd) Tryz.underlying22 c3 (by omega) (p:=VdCells) h (fun m cs' y hm ht _=>trod_vd ht)
 refine ⟨A,l,cap,rfl,fun k p hp=>?_,hs,hl,fun v hv=>?_⟩
 ·obtain ⟨b,o,cs',rfl,⟨rfl,_⟩,hc⟩:=hk k p hp
  have e0:=hc 0 (by omega)
  have e1:=hc 1 (by omega)
  have e2:=hc 2 (by omega)
  simp at e0 e1 e2
  exact ⟨b,o,rfl,e0,e1,e2⟩
 ·obtain ⟨k,hkn⟩:=List.getElem?_of_mem hv
  obtain ⟨_,_,_,_,⟨_,h⟩,_⟩:=hk k v hkn
  exact h
end
section
variable {H:Type} {enc:TypeId × Value→H} {w:World} {base:Nat} {spare:Nat→Bool} {held:Bool} {r:Reach} {b0:Nat}
def PcCells (w:World) (cs:List Value) (p:Pc):Prop:=∃ A1 c1 A3 c3,cs=[.string p.name,.slice A1 p.params.length c1,.int .u8 p.body.kind,.int .i64 p.body.num,.string p.body.name,.slice A3 p.body.kids.length c3]∧VdsAt w A1 p.params∧SlOk A1 p.params.length c1∧NdsAt w A3 p.body.kids∧PcFit p
theorem trod_pc {fuel:Nat} {cs:List Value} {x:DataW H × List MemPlace} (h:DataW.trod enc Tryz.prog w base spare held fuel 91 cs=some x):∃ p,PcCells w cs p:=by
 obtain ⟨xs,n,hn,hx,hlen,hxl,hg⟩:=DataW.trod_struct Tryz.underlying91 h
 have c6:Tryz.prog.cellsOf 91=6:=by kernel_rfl
 have c4:Tryz.prog.cellsOf 26=4:=by kernel_rfl
 have cS:Tryz.prog.cellsOf 9=1:=by kernel_rfl
 have cP:Tryz.prog.cellsOf 22=1:=by kernel_rfl
 obtain ⟨a,b,c,d,e,f,rfl⟩:=list_six (hlen.trans c6)
 have hget:∀ i,i<3→∃ y,xs[i]?=some y:=fun i hi=>⟨xs[i]'(by rw [hxl];exact hi),List.getElem?_eq_getElem _⟩
 obtain ⟨y0,e0⟩:=hget 0 (by omega)
 obtain ⟨y1,e1⟩:=hget 1 (by omega)
 obtain ⟨y2,e2⟩:=hget 2 (by omega)
 have g0:DataW.trod enc Tryz.prog w base spare held n 9 (List.take (Tryz.prog.cellsOf 9) (List.drop 0 [a,b,c,d,e,f]))=some y0:=(hg 0 _ rfl).trans e0
 have g1:DataW.trod enc Tryz.prog w base spare held n 22 (List.take (Tryz.prog.cellsOf 22) (List.drop 1 [a,b,c,d,e,f]))=some y1:=(hg 1 _ rfl).trans e1
 have g2:DataW.trod enc Tryz.prog w base spare held n 26 (List.take (Tryz.prog.cellsOf 26) (List.drop 2 [a,b,c,d,e,f]))=some y2:=(hg 2 _ rfl).trans e2
 simp only [cS,cP,c4] at g0 g1 g2
 obtain ⟨s0,q0,_,w0⟩:=DataW.trod_string Tryz.underlying9 g0
 obtain ⟨A1,l1,cap1,q1,hv,hsl,hl1,hvf⟩:=trod_vds g1
 obtain ⟨y,A3,c3,q3,hk,hf⟩:=trod_node n _ _ g2
 simp only [List.drop_zero,List.drop_succ_cons,List.take_succ_cons,List.take_zero,List.cons.injEq,and_true] at q0 q1 q3
 obtain ⟨q3,q4,q5,q6⟩:=q3
 unfold maxLen at w0
 exact ⟨⟨s0,l1,y⟩,A1,cap1,A3,c3,by rw [q0,q1,q3,q4,q5,q6],hv,hsl,hk,⟨by show s0.size≤_;omega,hl1,hvf,hf⟩⟩
theorem trod_pcs {fuel:Nat} {cs:List Value} {x:DataW H × List MemPlace} (h:DataW.trod enc Tryz.prog w base spare held fuel 23 cs=some x):∃ A l cap,cs=[.slice A l.length cap]∧PcsAt w A l∧l.length≤9223372036854775807∧∀ p∈l,PcFit p:=by
 have c6:Tryz.prog.cellsOf 91=6:=by kernel_rfl
 obtain ⟨A,l,cap,rfl,hs,hl,hk⟩:=trod_list (α:=Pc) Tryz.underlying23 c6 (by omega) (p:=PcCells w) h (fun m cs' y hm ht _=>trod_pc ht)
 refine ⟨A,l,cap,rfl,fun k p hp=>?_,hl,fun p hp=>?_⟩
 ·obtain ⟨b,o,cs',rfl,⟨A1,c1,A3,c3,rfl,hv,hsl,hn,hf⟩,hc⟩:=hk k p hp
  have e0:=hc 0 (by omega)
  have e1:=hc 1 (by omega)
  have e2:=hc 2 (by omega)
  have e3:=hc 3 (by omega)
  have e4:=hc 4 (by omega)
  have e5:=hc 5 (by omega)
  simp at e0 e1 e2 e3 e4 e5
  refine ⟨b,o,rfl,⟨e0,⟨A1,c1,e1,hv,hsl⟩,ndo_of (cs':=[.int .u8 p.body.kind,.int .i64 p.body.num,.string p.body.name,.slice A3 p.body.kids.length c3]) ⟨A3,c3,rfl,hn,hf.b⟩ fun j hj=>?_⟩⟩
  match j,hj with
  | 0,_=>exact e2
  | 1,_=>exact e3
  | 2,_=>exact e4
  | 3,_=>exact e5
 ·obtain ⟨k,hkn⟩:=List.getElem?_of_mem hp
  obtain ⟨_,_,_,_,⟨_,_,_,_,_,_,_,_,h⟩,_⟩:=hk k p hkn
  exact h
theorem open_prog {v:Value} {d:DataW H} {p:List MemPlace} (hv:Value.okWide Tryz.prog w r b0 28 v) (h:DataW.Trod enc Tryz.prog w base spare held 28 v d p) :
  ∃ P Av Ap Am cv cp cm,v=.agg (pgC P Av Ap Am cv cp cm)∧PgAt w Av Ap Am P∧PgFit P∧SlOk Av P.vars.length cv:=by
 obtain ⟨cs0,rfl,_⟩:=okWide_struct Tryz.underlying28 hv
 obtain ⟨fuel,hf⟩:=h
 obtain ⟨xs,n,hn,hx,hlen,hxl,hg⟩:=DataW.trod_struct Tryz.underlying28 hf
 have c6:Tryz.prog.cellsOf 28=6:=by kernel_rfl
 have c4:Tryz.prog.cellsOf 26=4:=by kernel_rfl
 have cV:Tryz.prog.cellsOf 22=1:=by kernel_rfl
 have cP:Tryz.prog.cellsOf 23=1:=by kernel_rfl
 have hcs:(Value.agg cs0).cells.toList=cs0.toList:=rfl
 rw [hcs] at hlen hg
 obtain ⟨a,b,c,d,e,f,hl6⟩:=list_six (hlen.trans c6)
 rw [hl6] at hg
 have hget:∀ i,i<3→∃ y,xs[i]?=some y:=fun i hi=>⟨xs[i]'(by rw [hxl];exact hi),List.getElem?_eq_getElem _⟩
 obtain ⟨y0,e0⟩:=hget 0 (by omega)
 obtain ⟨y1,e1⟩:=hget 1 (by omega)
 obtain ⟨y2,e2⟩:=hget 2 (by omega)
 have g0:DataW.trod enc Tryz.prog w base spare held n 22 (List.take (Tryz.prog.cellsOf 22) (List.drop 0 [a,b,c,d,e,f]))=some y0:=(hg 0 _ rfl).trans e0
 have g1:DataW.trod enc Tryz.prog w base spare held n 23 (List.take (Tryz.prog.cellsOf 23) (List.drop 1 [a,b,c,d,e,f]))=some y1:=(hg 1 _ rfl).trans e1
 have g2:DataW.trod enc Tryz.prog w base spare held n 26 (List.take (Tryz.prog.cellsOf 26) (List.drop 2 [a,b,c,d,e,f]))=some y2:=(hg 2 _ rfl).trans e2
 simp only [cV,cP,c4] at g0 g1 g2
 obtain ⟨Av,vs,cv,q0,hv,hsl,hl1,hvf⟩:=trod_vds g0
 obtain ⟨Ap,ps,cp,q1,hp,hl2,hpf⟩:=trod_pcs g1
 obtain ⟨y,Am,cm,q3,hk,hf⟩:=trod_node n _ _ g2
 simp only [List.drop_zero,List.drop_succ_cons,List.take_succ_cons,List.take_zero,List.cons.injEq,and_true] at q0 q1 q3
 obtain ⟨q3,q4,q5,q6⟩:=q3
 have e6:cs0=#[a,b,c,d,e,f]:=by cases cs0;simp_all
 exact ⟨⟨vs,ps,y⟩,Av,Ap,Am,cv,cp,cm,by rw [e6,q0,q1,q3,q4,q5,q6],⟨hv,hp,hk⟩,⟨hl1,hl2,hvf,hpf,hf⟩,hsl⟩
theorem open_state {v:Value} {d:DataW H} {p:List MemPlace} (hv:Value.okWide Tryz.prog w r b0 32 v) (h:DataW.Trod enc Tryz.prog w base spare held 32 v d p) :
  ∃ S Ac Ai Ao c1 c2 c3,v=.agg (sgC S Ac Ai Ao c1 c2 c3)∧SgAt w Ac Ai Ao S∧SgFit S∧SgRng S:=by
 obtain ⟨cs0,rfl,_⟩:=okWide_struct Tryz.underlying32 hv
 obtain ⟨fuel,hf⟩:=h
 obtain ⟨xs,n,hn,hx,hlen,hxl,hg⟩:=DataW.trod_struct Tryz.underlying32 hf
 have c3:Tryz.prog.cellsOf 32=3:=by kernel_rfl
 have cC:Tryz.prog.cellsOf 29=1:=by kernel_rfl
 have cI:Tryz.prog.cellsOf 30=1:=by kernel_rfl
 have hcs:(Value.agg cs0).cells.toList=cs0.toList:=rfl
 rw [hcs] at hlen hg
 obtain ⟨a,b,c,hl3⟩:=list_three (hlen.trans c3)
 rw [hl3] at hg
 have hget:∀ i,i<3→∃ y,xs[i]?=some y:=fun i hi=>⟨xs[i]'(by rw [hxl];exact hi),List.getElem?_eq_getElem _⟩
 obtain ⟨y0,e0⟩:=hget 0 (by omega)
 obtain ⟨y1,e1⟩:=hget 1 (by omega)
 obtain ⟨y2,e2⟩:=hget 2 (by omega)
 have g0:DataW.trod enc Tryz.prog w base spare held n 29 (List.take (Tryz.prog.cellsOf 29) (List.drop 0 [a,b,c]))=some y0:=(hg 0 _ rfl).trans e0
 have g1:DataW.trod enc Tryz.prog w base spare held n 30 (List.take (Tryz.prog.cellsOf 30) (List.drop 1 [a,b,c]))=some y1:=(hg 1 _ rfl).trans e1
 have g2:DataW.trod enc Tryz.prog w base spare held n 30 (List.take (Tryz.prog.cellsOf 30) (List.drop 2 [a,b,c]))=some y2:=(hg 2 _ rfl).trans e2
 simp only [cC,cI] at g0 g1 g2
 obtain ⟨Ac,l0,k0,q0,h0,hl0,hr0⟩:=trod_cls g0
 obtain ⟨l1,Ai,k1,q1,h1,hl1,hr1⟩:=trod_ints g1
 obtain ⟨l2,Ao,k2,q2,h2,hl2,hr2⟩:=trod_ints g2
 simp only [List.drop_zero,List.drop_succ_cons,List.take_succ_cons,List.take_zero,List.cons.injEq,and_true] at q0 q1 q2
 have e3:cs0=#[a,b,c]:=by cases cs0;simp_all
 exact ⟨⟨l0,l1,l2⟩,Ac,Ai,Ao,k0,k1,k2,by rw [e3,q0,q1,q2],⟨h0,h1,h2⟩,⟨hl0,hl1,hl2,fun c hc=>(hr0 c hc).1⟩,⟨fun c hc=>(hr0 c hc).2,hr1,hr2⟩⟩
end
theorem lits_eq {k:Nat} {s:ByteArray} (hk:symL[k]?=some s) (ys:List (DataW Unit)) (hy:(DataW.agg ys:DataW Unit)=Rows.laid_backstep_arith_symbols):ys[k]?=some (.lit (.string s.data.toList)):=by
 have h1:ys=symL.map fun s=>DataW.lit (.string s.data.toList):=by
  have:(Rows.laid_backstep_arith_symbols:DataW Unit)=.agg (symL.map fun s=>DataW.lit (.string s.data.toList)):=rfl
  rw [this,DataW.agg.injEq] at hy
  exact hy
 rw [h1,List.getElem?_map,hk];rfl
theorem sym_of_laid1 {W : World} (h : laidMetH Tryz.prog [("backstep/arith.symbols", Rows.laid_backstep_arith_symbols)] W) : SymW W := by
 obtain ⟨ps, ⟨g', t', cs, fuel, p, q, hg', ht', hvar, hd, _, _⟩, _⟩ := (h : laidMet Tryz.prog [("backstep/arith.symbols", Rows.laid_backstep_arith_symbols)] W)
 obtain rfl := Option.some.inj ((show Tryz.prog.globalNamed "backstep/arith.symbols" = some 0 by kernel_rfl).symm.trans hg')
 obtain rfl:=Option.some.inj ((show (Tryz.prog.globals[0]?).map (·.type)=some 162 by kernel_rfl).symm.trans ht')
 have hcell:=World.var?_cell hg' hvar
 have ca:Tryz.prog.cellsOf 162=43:=by kernel_rfl
 have cs1:Tryz.prog.cellsOf 9=1:=by kernel_rfl
 cases fuel with
 | zero=>simp [DataW.trod] at hd
 | succ fuel=>
   simp only [DataW.trod,Tryz.underlying162,ca,cs1] at hd
   split at hd
   ·rename_i hl
    obtain ⟨xs,hm,hx⟩:=Option.map_eq_some_iff.1 hd
    intro i s0 hi
    have hil:i<43:=(List.getElem?_eq_some_iff.1 hi).1
    obtain ⟨b,hb,hf⟩:=Lib.mapM_at hm i i (List.getElem?_range (by omega))
    have hb1:b.1=.lit (.string s0.data.toList):=by
     have h2:(xs.map (·.1))[i]?=some b.1:=by simp [hb]
     have h3:(DataW.agg (xs.map (·.1)):DataW Unit)=Rows.laid_backstep_arith_symbols:=by
      have:=congrArg Prod.fst hx
      simpa using this
     rw [lits_eq hi _ h3] at h2
     exact (Option.some.inj h2).symm
    obtain ⟨s,q0,hs,_⟩:=DataW.trod_string Tryz.underlying9 hf
    rw [hs] at hb1
    have hs2:s.data.toList=s0.data.toList:=by simpa using hb1
    have hse:s=s0:=by
     have h5:s.data=s0.data:=Array.toList_inj.1 hs2
     cases s;cases s0;simp_all
    have k0:cs[i]?=some (.string s):=by
     have:=congrArg (·[0]?) q0
     simpa [List.getElem?_take,List.getElem?_drop] using this
    rw [hcell,k0,hse]
   ·cases hd
theorem sym_of_laid {W:World} (hH:laidMetH Tryz.prog Rows.wholeRoundTripRow.laid W):SymW W:=by
 rw [MakeChecks.laidMetH_plain _ _ _ (by kernel_rfl)] at hH
 have e2 : (Rows.wholeRoundTripRow.laid.filter fun x => x.1 == "backstep/arith.symbols") = [("backstep/arith.symbols", Rows.laid_backstep_arith_symbols)] := by kernel_rfl
 have h2 := hH.filter fun x => x.1 == "backstep/arith.symbols"
 rw [e2] at h2
 exact sym_of_laid1 h2
end Go.Proofs.YtgbomnibedefoaaGreatDoor
