import Derived.WalkKit
import Derived.ProofKit
import Derived.OpenShut
import Derived.Deep.QuietTactic
import Derived.BigQuiet
import Derived.Outline
import Derived.Lib.Hide
import Derived.Lib.QuietBelow
import Derived.Below
import Derived.Maps.AppendAt
import Derived.Maps.Own
import Derived.Deep.AppendLies
import Derived.Maps.OwnOps
import Derived.Maps.OwnSet
import Derived.StringKeys
import Derived.OneCell
import Derived.RegionTactic
import Derived.OwnWalk
import Derived.Deep.RegionHeld3
import Derived.IntWalk
import Derived.WalkLawsBesides
import Derived.Laws.IdiomStrings
import Derived.Test.YtgbomnibedefoaaGreatDoorChecked
set_option maxRecDepth 100000
set_option maxHeartbeats 8000000
namespace Go.Proofs.YtgbomnibedefoaaGreatDoor
open Go.ChangeShapes Go.WideShapes Go.ChangeAt Go.RowKit Go.Sort
theorem kp {p : Prop} (h : p) : Hid p := Lib.hid h
theorem blc {w w':World} (hb:Below w.heap.size w w') {a:Addr} {v:Value} (h:w.cell? a=some v):w'.cell? a=some v:=by
 rw [hb.cell (block_lt_of_cell h)];exact h
theorem blb (w:World) (o:Obj):Below w.heap.size w (w.alloc o):=(Below.refl _ _).alloc (Nat.le_refl _) _
theorem bls {B:Nat} {w w1 w2:World} (h:Below B w w1) (hB:B≤w1.heap.size) (h2:Below w1.heap.size w1 w2):Below B w w2:=h.trans (h2.mono hB)
theorem ret_bool {a b:Bool} (h:a=b):Ending.returned (.bool a)=.returned (.bool b):=by rw [h]
theorem add0 (g j:Nat):(⟨g,0,none⟩:Addr).add j=⟨g,j,none⟩:=by
 unfold Addr.add;by_cases h:j=0<;>simp [h]
theorem obg {w:World} {base:Nat} {e:TypeId} {size n:Nat} {v:Value} {xs:List Value} (h:w.ownsRow base e size v n xs):∀ g,v.ownBlock=some g→base≤g:=by
 rcases h.2 with ⟨rfl,_⟩ | ⟨g,cap,cur,rfl,hg,_⟩
 ·intro g hg;cases hg
 ·intro g' hg';obtain rfl:=Option.some.inj hg';exact hg
theorem info_int:(Tryz.prog.info? 3).map (fun i=>(i.zero,i.size,i.bytes))=some (some (.int .i64 0),1,8):=by kernel_rfl
theorem one_i64 (v:Int):∀ u:Value,u∈[Value.int .i64 v]→u.oneCell'=true:=by
 intro u hu;simp at hu;subst hu;rfl
def IntsAt (w:World) (A:Option Addr) (l:List Int):Prop:=
 ∀ k x,l[k]?=some x→∃ b o,A=some ⟨b,o,none⟩∧w.cell? ⟨b,o+k,none⟩=some (.int .i64 x)
theorem IntsAt.mono {w w':World} {A:Option Addr} {l:List Int} (h:IntsAt w A l) (hb:Below w.heap.size w w'):IntsAt w' A l:=fun k x hk=>by
 obtain ⟨b,o,e,h1⟩:=h k x hk
 exact ⟨b,o,e,blc hb h1⟩
theorem IntsAt.at_ {w:World} {A:Option Addr} {l:List Int} (h:IntsAt w A l) {k:Nat} (hk:k<l.length):∃ b o,A=some ⟨b,o,none⟩∧w.cell? ⟨b,o+k,none⟩=some (.int .i64 l[k]):=
 h k l[k] (List.getElem?_eq_getElem hk)
theorem ints_of_own {w:World} {base:Nat} {e:TypeId} {v:Value} {l:List Int} (h:w.ownsRow base e 1 v l.length (l.map (Value.int .i64))):∃ A c,v=.slice A l.length c∧IntsAt w A l:=by
 obtain ⟨h1,h2⟩:=id h
 rcases h2 with ⟨rfl,h0⟩ | ⟨g,cap,cur,rfl,hg,hh,hc1,hc2,hc3,hc4⟩
 ·refine ⟨none,0,by rw [h0],fun k x hk=>?_⟩
  have:l=[]:=List.length_eq_zero_iff.1 h0
  subst this;simp at hk
 ·refine ⟨some ⟨g,0,none⟩,cap,rfl,fun k x hk=>⟨g,0,rfl,?_⟩⟩
  have:=h.cells (g:=g) rfl k (.int .i64 x) (by simp [hk])
  rw [add0] at this;simpa using this
theorem grown_of_below {w w':World} (h:Below w.heap.size w w') (r:Option Nat):w.grownBy w' r:=
 ⟨h.os,h.tape,h.output,h.size,fun k hk _=>h.block k hk⟩
theorem ofb {w:World} {base:Nat} {e:TypeId} {size n:Nat} {v:Value} {xs:List Value} (h:w.ownsRow base e size v n xs):∃ A c,v=.slice A n c∧n≤c∧(0<n→∃ g,A=some ⟨g,0,none⟩∧base≤g):=by
 rcases h.2 with ⟨rfl,rfl⟩ | ⟨g,cap,cur,rfl,hg,_,hc,_⟩
 ·exact ⟨none,0,rfl,Nat.le_refl _,fun h=>absurd h (by omega)⟩
 ·exact ⟨_,cap,rfl,hc,fun _=>⟨g,rfl,hg⟩⟩
def CellsAt (w:World) (A:Option Addr) (xs:List Value):Prop:=∀ (j:Nat) (u:Value),xs[j]?=some u→∃ b o,A=some ⟨b,o,none⟩∧w.cell? ⟨b,o+j,none⟩=some u
theorem CellsAt.mono {w w':World} {A:Option Addr} {xs:List Value} (h:CellsAt w A xs) (hb:Below w.heap.size w w'):CellsAt w' A xs:=fun j u hu=>by
 obtain ⟨b,o,e,h1⟩:=h j u hu
 exact ⟨b,o,e,blc hb h1⟩
theorem IntsAt.cells {w:World} {A:Option Addr} {l:List Int} (h:IntsAt w A l):CellsAt w A (l.map (Value.int .i64)):=fun j u hu=>by
 rw [List.getElem?_map] at hu
 obtain ⟨x,hx,rfl⟩:=Option.map_eq_some_iff.1 hu
 exact h j x hx
section
variable {P:Program} (w:World)
theorem run_app (base:Nat) (t ty e:TypeId) (i:TypeInfo) (z:Value) (size bytes:Nat) (ht:P.underlying t=some (.slice e)) (hi:P.info? e=some i) (hz:i.zero=some z)
  (hsize:i.size=size) (hby:i.bytes=bytes) (hzs:z.cells.size=size) (hsz:0<size) (v:Value) (n:Nat) (xs:List Value) (hown:w.ownsRow base e size v n xs)
  (A:Option Addr) (m c:Nat) (news:List Value) (hl:news.length=m*size) (hr:CellsAt w A news) (h1:∀ u∈news,u.oneCell'=true)
  (h63:n+m≤maxLen) (hbytes:(n+m)*bytes≤140737488355328) (hbase:base≤w.heap.size) :
  ∃ v' w',(Builtin.append_ #[t,t] ty #[v,.slice A m c]).run P w=.ok v' w'∧w'.ownsRow base e size v' (n+m) (xs++news)∧w.grownBy w' v.ownBlock∧(v'.ownBlock=v.ownBlock∨v'.ownBlock=some w.heap.size):=by
 cases A with
 | none=>
   have hn:news=[]:=by
    cases news with
    | nil=>rfl
    | cons u r=>obtain ⟨b,o,e,_⟩:=hr 0 u rfl;cases e
   subst hn
   have hm:m=0:=by
    rcases Nat.eq_zero_or_pos m with h0 | h0
    ·exact h0
    ·have:=Nat.mul_pos h0 hsz;simp at hl;omega
   subst hm
   refine ⟨v,w,?_,by simpa using hown,⟨rfl,rfl,rfl,Nat.le_refl _,fun _ _ _=>rfl⟩,.inl rfl⟩
   rcases hown.2 with ⟨rfl,rfl⟩ | ⟨g,cap,cur,rfl,_,_,hnc,_⟩
   ·simp [Builtin.append_,run_underlying ht,sizeOf,typeInfo,hi,Builtin.lenOf,Builtin.firstCells]
   ·simp [Builtin.append_,run_underlying ht,sizeOf,typeInfo,hi,Builtin.lenOf,Builtin.firstCells,hnc,storeCells]
 | some ad=>
   obtain ⟨v',w',r1,r2,r3,_,r5⟩:=run_append_own_at (P:=P) w base t ty e i z size bytes ht hi hz hsize hby hzs hsz v n xs hown ad m c news hl (fun j u hu=>by
    obtain ⟨b,o,e,hc⟩:=hr j u hu
    have:=Option.some.inj e
    subst this
    have e2:(⟨b,o,none⟩:Addr).add j=⟨b,o+j,none⟩:=by unfold Addr.add;by_cases h:j=0<;>simp [h]
    rw [e2];exact hc) h1 h63 hbytes hbase
   exact ⟨v',w',r1,r2,r3,r5⟩
theorem wp_app {o:Oper} {a:Act} {K:Act→World→Prop} {Q:Exit→Act→World→Prop} (s x:Operand) (t:TypeId)
  (ho:o.op=.call { callee:=.builtin .append,args:=#[s,x],argTypes:=#[t,t] })
  (base:Nat) (e:TypeId) (i:TypeInfo) (z:Value) (size bytes:Nat) (ht:P.underlying t=some (.slice e)) (hi:P.info? e=some i) (hz:i.zero=some z)
  (hsize:i.size=size) (hby:i.bytes=bytes) (hzs:z.cells.size=size) (hsz:0<size) (v:Value) (n:Nat) (xs:List Value) (hs:a.eval s=v) (hown:w.ownsRow base e size v n xs)
  (A:Option Addr) (m c:Nat) (news:List Value) (hx:a.eval x=.slice A m c) (hl:news.length=m*size) (hr:CellsAt w A news) (h1:∀ u∈news,u.oneCell'=true)
  (h63:n+m≤maxLen) (hbytes:(n+m)*bytes≤140737488355328) (hbase:base≤w.heap.size)
  (h:∀ v' w',w'.ownsRow base e size v' (n+m) (xs++news)→w.grownBy w' v.ownBlock→(v'.ownBlock=v.ownBlock∨v'.ownBlock=some w.heap.size)→K (a.put o.dst v') w'):o.wp P a w K Q:=by
 obtain ⟨v',w',hrun,h2,h3,h4⟩:=run_app (P:=P) w base t o.type e i z size bytes ht hi hz hsize hby hzs hsz v n xs hown A m c news hl hr h1 h63 hbytes hbase
 unfold Oper.wp execOp
 simp only [ho,resolve,invoke,builtin,Sem.run_bind,Sem.run_pure,Result.andThen_ok,List.map_toArray,List.map_cons,List.map_nil,hs,hx,hrun]
 exact h v' w' h2 h3 h4
theorem wpList_app {ops:Array Oper} {rest:List Oper} {o:Oper} {a:Act} {Q:Exit→Act→World→Prop} (hgd:o.guard=none) (s x:Operand) (t:TypeId)
  (ho:o.op=.call { callee:=.builtin .append,args:=#[s,x],argTypes:=#[t,t] })
  (base:Nat) (e:TypeId) (i:TypeInfo) (z:Value) (size bytes:Nat) (ht:P.underlying t=some (.slice e)) (hi:P.info? e=some i) (hz:i.zero=some z)
  (hsize:i.size=size) (hby:i.bytes=bytes) (hzs:z.cells.size=size) (hsz:0<size) (v:Value) (n:Nat) (xs:List Value) (hs:a.eval s=v) (hown:w.ownsRow base e size v n xs)
  (A:Option Addr) (m c:Nat) (news:List Value) (hx:a.eval x=.slice A m c) (hl:news.length=m*size) (hr:CellsAt w A news) (h1:∀ u∈news,u.oneCell'=true)
  (h63:n+m≤maxLen) (hbytes:(n+m)*bytes≤140737488355328) (hbase:base≤w.heap.size)
  (h:∀ v' w',w'.ownsRow base e size v' (n+m) (xs++news)→w.grownBy w' v.ownBlock→(v'.ownBlock=v.ownBlock∨v'.ownBlock=some w.heap.size)→wpList P ops Q rest (a.put o.dst v') w'):wpList P ops Q (o::rest) a w:=
 wpList_plain hgd fun _ hK=>wp_app w s x t ho base e i z size bytes ht hi hz hsize hby hzs hsz v n xs hs hown A m c news hx hl hr h1 h63 hbytes hbase fun v' w' h2 h3 h4=>hK _ _ (h v' w' h2 h3 h4)
theorem step_app {ops:Array Oper} {o:Oper} {a:Act} {K:Act→World→Prop} {Q:Exit→Act→World→Prop} {E:Prop} (hgd:o.guard=none) (s x:Operand) (t:TypeId)
  (ho:o.op=.call { callee:=.builtin .append,args:=#[s,x],argTypes:=#[t,t] })
  (base:Nat) (e:TypeId) (i:TypeInfo) (z:Value) (size bytes:Nat) (ht:P.underlying t=some (.slice e)) (hi:P.info? e=some i) (hz:i.zero=some z)
  (hsize:i.size=size) (hby:i.bytes=bytes) (hzs:z.cells.size=size) (hsz:0<size) (v:Value) (n:Nat) (xs:List Value) (hs:a.eval s=v) (hown:w.ownsRow base e size v n xs)
  (A:Option Addr) (m c:Nat) (news:List Value) (hx:a.eval x=.slice A m c) (hl:news.length=m*size) (hr:CellsAt w A news) (h1:∀ u∈news,u.oneCell'=true)
  (h63:n+m≤maxLen) (hbytes:(n+m)*bytes≤140737488355328) (hbase:base≤w.heap.size)
  (h:∀ v' w',w'.ownsRow base e size v' (n+m) (xs++news)→w.grownBy w' v.ownBlock→(v'.ownBlock=v.ownBlock∨v'.ownBlock=some w.heap.size)→K (a.put o.dst v') w') :
  if Region.wanted o (yielded ops a.tmps)=true then Oper.wp P o a w K Q else E:=by
 have hw:Region.wanted o (yielded ops a.tmps)=true:=by simp [Region.wanted,hgd]
 rw [if_pos hw]
 exact wp_app w s x t ho base e i z size bytes ht hi hz hsize hby hzs hsz v n xs hs hown A m c news hx hl hr h1 h63 hbytes hbase h
end
theorem ints_one (l:List Int):∀ u:Value,u∈l.map (Value.int .i64)→u.oneCell'=true:=by
 intro u hu
 obtain ⟨x,_,rfl⟩:=List.mem_map.1 hu
 rfl
theorem obl {w w':World} {base:Nat} {e:TypeId} {size n:Nat} {v:Value} {xs:List Value} (h:w.ownsRow base e size v n xs) (hb:Below w.heap.size w w'):w'.ownsRow base e size v n xs:=
 h.kept (row:=none) (grown_of_below hb none) (by cases v.ownBlock<;>simp)
theorem two_box (w:World) (o1 o2:Obj):Below w.heap.size w ((w.alloc o1).alloc o2):=((Below.refl _ _).alloc (Nat.le_refl _) _).alloc (by simp) _
theorem bdn {B:Nat} {a w:World} (h:Below B a w) (n:Nat):Below B a (w.drewN n):=⟨h.os,h.tape,h.output,h.size,h.block⟩
theorem bld {B:Nat} {a w:World} (h:Below B a w):Below B a w.drew:=h.drew
theorem below_set3 {B:Nat} {a w:World} (h:Below B a w) {b:Nat} (hb:B≤b) (v0 v1 v2:Value):Below B a (((w.setCell ⟨b,0,none⟩ v0).setCell ⟨b,1,none⟩ v1).setCell ⟨b,2,none⟩ v2):=((h.setCell (p:=⟨b,0,none⟩) hb v0).setCell (p:=⟨b,1,none⟩) hb v1).setCell (p:=⟨b,2,none⟩) hb v2
theorem lone {α:Type} {l:List α} (h:l.length=1):∃ a,l=[a]:=by
 match l,h with
 | [a],_=>exact ⟨a,rfl⟩
theorem ltwo {α:Type} {l:List α} (h:l.length=2):∃ a b,l=[a,b]:=by
 match l,h with
 | [a,b],_=>exact ⟨a,b,rfl⟩
structure Fr (w w':World) (m:Nat→Prop):Prop where
 os:w'.os=w.os
 tape:w'.tape=w.tape
 output:w'.output=w.output
 size:w.heap.size≤w'.heap.size
 block:∀ k,k<w.heap.size→¬ m k→w'.heap[k]?=w.heap[k]?
theorem Fr.refl (w:World) (m:Nat→Prop):Fr w w m:=⟨rfl,rfl,rfl,Nat.le_refl _,fun _ _ _=>rfl⟩
theorem Fr.of_below {w w':World} (h:Below w.heap.size w w') (m:Nat→Prop):Fr w w' m:=⟨h.os,h.tape,h.output,h.size,fun k hk _=>h.block k hk⟩
theorem Fr.mono {w w':World} {m m':Nat→Prop} (h:Fr w w' m) (hm:∀ k,k<w.heap.size→m k→m' k):Fr w w' m':=
 ⟨h.os,h.tape,h.output,h.size,fun k hk hn=>h.block k hk fun e=>hn (hm k hk e)⟩
theorem Fr.trans {w w1 w2:World} {m m2:Nat→Prop} (h:Fr w w1 m) (h2:Fr w1 w2 m2) (hm:∀ k,k<w.heap.size→m2 k→m k):Fr w w2 m:=
 ⟨h2.os.trans h.os,h2.tape.trans h.tape,h2.output.trans h.output,Nat.le_trans h.size h2.size,fun k hk hn=>(h2.block k (Nat.lt_of_lt_of_le hk h.size) fun e=>hn (hm k hk e)).trans (h.block k hk hn)⟩
theorem Fr.below {W0 w w':World} {m:Nat→Prop} (h:Fr w w' m) (hb:Below W0.heap.size W0 w) (hm:∀ k,m k→W0.heap.size≤k):Below W0.heap.size W0 w':=
 ⟨h.os.trans hb.os,h.tape.trans hb.tape,h.output.trans hb.output,Nat.le_trans hb.size h.size,fun k hk=>(h.block k (Nat.lt_of_lt_of_le hk hb.size) fun e=>by have:=hm k e;omega).trans (hb.block k hk)⟩
theorem Fr.cell {w w':World} {m:Nat→Prop} (h:Fr w w' m) {a:Addr} {v:Value} (hc:w.cell? a=some v) (hn:¬ m a.block):w'.cell? a=some v:=by
 rw [World.cell?_of_block (h.block a.block (block_lt_of_cell hc) hn)];exact hc
theorem Fr.of_grown {w w':World} {r:Option Nat} (h:w.grownBy w' r):Fr w w' (fun k=>some k=r):=⟨h.os,h.tape,h.output,h.size,fun k hk hn=>h.block k hk hn⟩
theorem Fr.of_set (w:World) (a:Addr) (u:Value):Fr w (w.setCell a u) (fun k=>k=a.block):=
 ⟨rfl,rfl,rfl,by simp,fun k _ hn=>Below.heap_setCell _ _ _ _ hn⟩
theorem Fr.of_turned {w w':World} {b:Nat} (h:w.mapTurned w' b):Fr w w' (fun k=>k=b):=(Fr.of_grown h.grown).mono fun _ _ e=>Option.some.inj e
theorem Fr.own {w w':World} {m:Nat→Prop} (h:Fr w w' m) {base:Nat} {e:TypeId} {size n:Nat} {v:Value} {xs:List Value} (ho:w.ownsRow base e size v n xs) (hn:∀ g,v.ownBlock=some g→¬ m g):w'.ownsRow base e size v n xs:=by
 obtain ⟨h1,h2⟩:=ho
 refine ⟨h1,?_⟩
 rcases h2 with h2 | ⟨g,cap,cur,rfl,hg,hc,hr⟩
 ·exact .inl h2
 ·exact .inr ⟨g,cap,cur,rfl,hg,(h.block g (Array.getElem?_eq_some_iff.1 hc).1 (hn g rfl)).trans hc,hr⟩
def Bx (w:World) (b:Nat) (cs:Array Value):Prop:=∃ T,w.heap[b]?=some (.cells cs T (0,0))
theorem Bx.lt {w:World} {b:Nat} {cs:Array Value} (h:Bx w b cs):b<w.heap.size:=by
 obtain ⟨T,h⟩:=h;exact lt_of_block h
theorem Bx.cell {w:World} {b:Nat} {cs:Array Value} (h:Bx w b cs) {j:Nat} {v:Value} (hj:cs[j]?=some v):w.cell? ⟨b,j,none⟩=some v:=by
 obtain ⟨T,h⟩:=h;simp [World.cell?,h,hj]
theorem Bx.free {w:World} {b:Nat} {cs:Array Value} (h:Bx w b cs) (j:Nat):w.frozen? ⟨b,j,none⟩=false:=by
 obtain ⟨T,h⟩:=h;simp [World.frozen?,h]
theorem Bx.fr {w w':World} {b:Nat} {cs:Array Value} (h:Bx w b cs) {m:Nat→Prop} (hf:Fr w w' m) (hn:¬ m b):Bx w' b cs:=by
 have hl:=h.lt
 obtain ⟨T,h⟩:=h;exact ⟨T,(hf.block b hl hn).trans h⟩
theorem Bx.below {w w':World} {b:Nat} {cs:Array Value} (h:Bx w b cs) (hb:Below w.heap.size w w'):Bx w' b cs:=h.fr (Fr.of_below hb fun _=>False) id
theorem Bx.set {w:World} {b:Nat} {cs:Array Value} (h:Bx w b cs) (j:Nat) (u:Value):Bx (w.setCell ⟨b,j,none⟩ u) b (cs.setIfInBounds j u):=by
 have hlt:=h.lt
 obtain ⟨T,h⟩:=h
 have h':w.heap[b]=.cells cs T (0,0):=by simpa [Array.getElem?_eq_getElem hlt] using h
 refine ⟨T,?_⟩
 show (w.heap.modify b _)[b]?=_
 rw [Array.getElem?_eq_getElem (by simpa using hlt),Array.getElem_modify_self,h']
 rfl
theorem bxn (w:World) (cs:Array Value) (T:TypeId):Bx (w.alloc (Obj.cells cs T)) w.heap.size cs:=⟨T,heap_alloc_new w _⟩
theorem Bx.three {w:World} {b:Nat} {u0 u1 u2:Value} (h:Bx w b #[u0,u1,u2]):w.cell? ⟨b,0,none⟩=some u0∧w.cell? ⟨b,1,none⟩=some u1∧w.cell? ⟨b,2,none⟩=some u2∧w.frozen? ⟨b,0,none⟩=false∧w.frozen? ⟨b,1,none⟩=false∧w.frozen? ⟨b,2,none⟩=false:=
 ⟨h.cell rfl,h.cell rfl,h.cell rfl,h.free 0,h.free 1,h.free 2⟩
theorem Bx.four {w:World} {b:Nat} {u0 u1 u2 u3:Value} (h:Bx w b #[u0,u1,u2,u3]):w.cell? ⟨b,0,none⟩=some u0∧w.cell? ⟨b,1,none⟩=some u1∧w.cell? ⟨b,2,none⟩=some u2∧w.cell? ⟨b,3,none⟩=some u3∧w.frozen? ⟨b,0,none⟩=false∧w.frozen? ⟨b,1,none⟩=false∧w.frozen? ⟨b,2,none⟩=false∧w.frozen? ⟨b,3,none⟩=false:=
 ⟨h.cell rfl,h.cell rfl,h.cell rfl,h.cell rfl,h.free 0,h.free 1,h.free 2,h.free 3⟩
theorem Bx.six {w:World} {b:Nat} {u0 u1 u2 u3 u4 u5:Value} (h:Bx w b #[u0,u1,u2,u3,u4,u5]):(w.cell? ⟨b,0,none⟩=some u0∧w.cell? ⟨b,1,none⟩=some u1∧w.cell? ⟨b,2,none⟩=some u2∧w.cell? ⟨b,3,none⟩=some u3∧w.cell? ⟨b,4,none⟩=some u4∧w.cell? ⟨b,5,none⟩=some u5)∧w.frozen? ⟨b,0,none⟩=false∧w.frozen? ⟨b,1,none⟩=false∧w.frozen? ⟨b,2,none⟩=false∧w.frozen? ⟨b,3,none⟩=false∧w.frozen? ⟨b,4,none⟩=false∧w.frozen? ⟨b,5,none⟩=false:=
 ⟨⟨h.cell rfl,h.cell rfl,h.cell rfl,h.cell rfl,h.cell rfl,h.cell rfl⟩,h.free 0,h.free 1,h.free 2,h.free 3,h.free 4,h.free 5⟩
theorem Bx.set3 {w:World} {b:Nat} {u0 u1 u2:Value} (h:Bx w b #[u0,u1,u2]) (v0 v1 v2:Value):Bx (((w.setCell ⟨b,0,none⟩ v0).setCell ⟨b,1,none⟩ v1).setCell ⟨b,2,none⟩ v2) b #[v0,v1,v2]:=
 ((h.set 0 v0).set 1 v1).set 2 v2
theorem Bx.set6 {w:World} {b:Nat} {u0 u1 u2 u3 u4 u5:Value} (h:Bx w b #[u0,u1,u2,u3,u4,u5]) (v0 v1 v2 v3 v4 v5:Value):Bx ((((((w.setCell ⟨b,0,none⟩ v0).setCell ⟨b,1,none⟩ v1).setCell ⟨b,2,none⟩ v2).setCell ⟨b,3,none⟩ v3).setCell ⟨b,4,none⟩ v4).setCell ⟨b,5,none⟩ v5) b #[v0,v1,v2,v3,v4,v5]:=
 (((((h.set 0 v0).set 1 v1).set 2 v2).set 3 v3).set 4 v4).set 5 v5
theorem Fr.set3 (w:World) (b:Nat) (v0 v1 v2:Value):Fr w (((w.setCell ⟨b,0,none⟩ v0).setCell ⟨b,1,none⟩ v1).setCell ⟨b,2,none⟩ v2) (fun k=>k=b):=
 ((Fr.of_set w ⟨b,0,none⟩ v0).trans (Fr.of_set _ ⟨b,1,none⟩ v1) fun _ _ e=>e).trans (Fr.of_set _ ⟨b,2,none⟩ v2) fun _ _ e=>e
theorem Fr.set6 (w:World) (b:Nat) (v0 v1 v2 v3 v4 v5:Value):Fr w ((((((w.setCell ⟨b,0,none⟩ v0).setCell ⟨b,1,none⟩ v1).setCell ⟨b,2,none⟩ v2).setCell ⟨b,3,none⟩ v3).setCell ⟨b,4,none⟩ v4).setCell ⟨b,5,none⟩ v5) (fun k=>k=b):=
 ((((((Fr.of_set w ⟨b,0,none⟩ v0).trans (Fr.of_set _ ⟨b,1,none⟩ v1) fun _ _ e=>e).trans (Fr.of_set _ ⟨b,2,none⟩ v2) fun _ _ e=>e).trans (Fr.of_set _ ⟨b,3,none⟩ v3) fun _ _ e=>e).trans (Fr.of_set _ ⟨b,4,none⟩ v4) fun _ _ e=>e).trans (Fr.of_set _ ⟨b,5,none⟩ v5) fun _ _ e=>e)
theorem Fr.toBelow {w w':World} {B:Nat} {W:World} {m:Nat→Prop} (h:Fr w w' m) (hb:Below B W w) (hB:B≤w.heap.size) (hm:∀ k,m k→B≤k):Below B W w':=
 ⟨h.os.trans hb.os,h.tape.trans hb.tape,h.output.trans hb.output,Nat.le_trans hb.size h.size,fun k hk=>(h.block k (Nat.lt_of_lt_of_le hk hB) fun e=>by have:=hm k e;omega).trans (hb.block k hk)⟩
theorem Bx.one {w:World} {b:Nat} {u0:Value} (h:Bx w b #[u0]):w.cell? ⟨b,0,none⟩=some u0∧w.frozen? ⟨b,0,none⟩=false:=⟨h.cell rfl,h.free 0⟩
inductive RowG {α:Type} (C:List Value→α→Prop):List Value→List α→Prop
 | nil:RowG C [] []
 | snoc {cs:List Value} {l:List α} {c:List Value} {x:α} (h:RowG C cs l) (hc:C c x):RowG C (cs++c) (l++[x])
theorem RowG.map {α:Type} {C C':List Value→α→Prop} (hC:∀ c x,C c x→C' c x) {cs:List Value} {l:List α} (h:RowG C cs l):RowG C' cs l:=by
 induction h with
 | nil=>exact .nil
 | snoc _ h7 ih=>exact .snoc ih (hC _ _ h7)
theorem RowG.len {α:Type} {C:List Value→α→Prop} {s:Nat} (hC:∀ c x,C c x→c.length=s) {cs:List Value} {l:List α} (h:RowG C cs l):cs.length=l.length*s:=by
 induction h with
 | nil=>simp
 | snoc _ h7 ih=>rw [List.length_append,ih,hC _ _ h7,List.length_append,List.length_singleton,Nat.add_mul,Nat.one_mul]
theorem RowG.one {α:Type} {C:List Value→α→Prop} (hC:∀ c x,C c x→∀ u∈c,u.oneCell'=true) {cs:List Value} {l:List α} (h:RowG C cs l):∀ u∈cs,u.oneCell'=true:=by
 induction h with
 | nil=>intro u hu;simp at hu
 | snoc _ h7 ih=>
   intro u hu
   rcases List.mem_append.1 hu with h | h
   ·exact ih u h
   ·exact hC _ _ h7 u h
theorem RowG.get {α:Type} {C:List Value→α→Prop} {s:Nat} (hC:∀ c x,C c x→c.length=s) {cs:List Value} {l:List α} (h:RowG C cs l):∀ (k:Nat) (f:α),l[k]?=some f→∃ c7,C c7 f∧∀ j,j<s→cs[k*s+j]?=c7[j]?:=by
 induction h with
 | nil=>intro k f hk;simp at hk
 | @snoc cs l c7 f hr h7 ih=>
   intro k g hk
   have hl:=hr.len hC
   by_cases hlt:k<l.length
   ·rw [List.getElem?_append_left hlt] at hk
    obtain ⟨c,h1,h2⟩:=ih k g hk
    refine ⟨c,h1,fun j hj=>?_⟩
    have:k*s+j<l.length*s:=by
     have:(k+1)*s≤l.length*s:=Nat.mul_le_mul_right s hlt
     rw [Nat.add_mul,Nat.one_mul] at this;omega
    rw [List.getElem?_append_left (by omega)]
    exact h2 j hj
   ·have hkl:k=l.length:=by
     have:=(List.getElem?_eq_some_iff.1 hk).1
     simp at this;omega
    subst hkl
    rw [List.getElem?_append_right (Nat.le_refl _)] at hk
    simp at hk
    subst hk
    refine ⟨c7,h7,fun j hj=>?_⟩
    rw [List.getElem?_append_right (by omega),hl]
    congr 1;omega
theorem cnu (w:World) {C:Nat} (hC:w.heap.size=C) (cs:List Value) (T:TypeId):CellsAt (w.alloc (Obj.cells cs.toArray T)) (some ⟨C,0,none⟩) cs:=fun j u hu=>⟨C,0,rfl,by
 subst hC
 rw [Nat.zero_add]
 exact (show Bx (w.alloc (Obj.cells cs.toArray T)) w.heap.size cs.toArray from bxn w _ T).cell (by simpa using hu)⟩
theorem own_emptyU {W:World} {B C:Nat} (hB:W.heap.size=C) (hC:B≤C) (e:TypeId) {size:Nat}:(W.alloc (Obj.cells #[] e)).ownsRow B e size (.slice (some ⟨C,0,none⟩) 0 0) 0 []:=by
 subst hB
 exact ⟨by simp,.inr ⟨W.heap.size,0,#[],rfl,hC,heap_alloc_new W _,Nat.le_refl _,by simp [maxLen],by simp,by simp⟩⟩
def StrsAt (w:World) (A:Option Addr) (l:List ByteArray):Prop:=
 ∀ k x,l[k]?=some x→∃ b o,A=some ⟨b,o,none⟩∧w.cell? ⟨b,o+k,none⟩=some (.string x)
theorem StrsAt.mono {w w':World} {A:Option Addr} {l:List ByteArray} (h:StrsAt w A l) (hb:Below w.heap.size w w'):StrsAt w' A l:=fun k x hk=>by
 obtain ⟨b,o,e,h1⟩:=h k x hk
 exact ⟨b,o,e,blc hb h1⟩
theorem StrsAt.at_ {w:World} {A:Option Addr} {l:List ByteArray} (h:StrsAt w A l) {k:Nat} (hk:k<l.length):∃ b o,A=some ⟨b,o,none⟩∧w.cell? ⟨b,o+k,none⟩=some (.string l[k]):=
 h k l[k] (List.getElem?_eq_getElem hk)
theorem StrsAt.cells {w:World} {A:Option Addr} {l:List ByteArray} (h:StrsAt w A l):CellsAt w A (l.map Value.string):=fun j u hu=>by
 rw [List.getElem?_map] at hu
 obtain ⟨x,hx,rfl⟩:=Option.map_eq_some_iff.1 hu
 exact h j x hx
theorem info_str:(Tryz.prog.info? 9).map (fun i=>(i.zero,i.size,i.bytes))=some (some (.string ⟨#[]⟩),1,16):=by kernel_rfl
inductive Nd where
 | mk (kind:Nat) (num:Int) (name:ByteArray) (kids:List Nd)
def Nd.kind:Nd→Nat | .mk k _ _ _=>k
def Nd.num:Nd→Int | .mk _ n _ _=>n
def Nd.name:Nd→ByteArray | .mk _ _ s _=>s
def Nd.kids:Nd→List Nd | .mk _ _ _ l=>l
theorem Nd.kid_lt {x:Nd} {k:Nat} {y:Nd} (h:x.kids[k]?=some y):SizeOf.sizeOf y<SizeOf.sizeOf x:=by
 obtain ⟨a,b,c,l⟩:=x
 have hm:y∈l:=List.mem_of_getElem? h
 have:=List.sizeOf_lt_of_mem hm
 simp;omega
inductive NdO (w:World):Nat→Nat→Nd→Prop
 | mk {b o:Nat} {x:Nd} {A:Option Addr} {cap b' o':Nat}
   (c0:w.cell? ⟨b,o,none⟩=some (.int .u8 x.kind)) (c1:w.cell? ⟨b,o+1,none⟩=some (.int .i64 x.num)) (c2:w.cell? ⟨b,o+2,none⟩=some (.string x.name)) (c3:w.cell? ⟨b,o+3,none⟩=some (.slice A x.kids.length cap))
   (hA:0<x.kids.length→A=some ⟨b',o',none⟩) (hk:∀ k y,x.kids[k]?=some y→NdO w b' (o'+k*4) y):NdO w b o x
theorem NdO.lt {w:World} {b o:Nat} {x:Nd} (h:NdO w b o x):b<w.heap.size:=by
 cases h with
 | mk c0=>exact block_lt_of_cell c0
theorem NdO.mono {w w':World} (hb:Below w.heap.size w w') {b o:Nat} {x:Nd} (h:NdO w b o x):NdO w' b o x:=by
 induction h with
 | mk c0 c1 c2 c3 hA _ ih=>
   exact .mk (blc hb c0) (blc hb c1) (blc hb c2) (blc hb c3) hA ih
def NdsAt (w:World) (A:Option Addr) (l:List Nd):Prop:=
 ∀ k x,l[k]?=some x→∃ b o,A=some ⟨b,o,none⟩∧NdO w b (o+k*4) x
theorem NdsAt.mono {w w':World} {A:Option Addr} {l:List Nd} (h:NdsAt w A l) (hb:Below w.heap.size w w'):NdsAt w' A l:=fun k x hk=>by
 obtain ⟨b,o,e,hi⟩:=h k x hk
 exact ⟨b,o,e,hi.mono hb⟩
theorem NdsAt.at_ {w:World} {A:Option Addr} {l:List Nd} (h:NdsAt w A l) {k:Nat} (hk:k<l.length):∃ b o,A=some ⟨b,o,none⟩∧NdO w b (o+k*4) l[k]:=
 h k l[k] (List.getElem?_eq_getElem hk)
theorem NdO.open_ {w:World} {b o:Nat} {x:Nd} (h:NdO w b o x):∃ A cap,w.cell? ⟨b,o,none⟩=some (.int .u8 x.kind)∧w.cell? ⟨b,o+1,none⟩=some (.int .i64 x.num)∧w.cell? ⟨b,o+2,none⟩=some (.string x.name)∧w.cell? ⟨b,o+3,none⟩=some (.slice A x.kids.length cap)∧NdsAt w A x.kids:=by
 cases h with
 | mk c0 c1 c2 c3 hA hk=>
   exact ⟨_,_,c0,c1,c2,c3,fun k y hy=>⟨_,_,hA (by have:=(List.getElem?_eq_some_iff.1 hy).1;omega),hk k y hy⟩⟩
def Nd.val (x:Nd) (A:Option Addr) (cap:Nat):Value:=.agg #[.int .u8 x.kind,.int .i64 x.num,.string x.name,.slice A x.kids.length cap]
inductive NdFit:Nd→Prop
 | mk {x:Nd} (hk:x.kind<256) (hn:-9223372036854775808≤x.num∧x.num≤9223372036854775807) (hs:x.name.size≤9223372036854775807) (hl:x.kids.length≤9223372036854775807) (h:∀ (k:Nat) (y:Nd),x.kids[k]?=some y→NdFit y):NdFit x
theorem NdFit.kid {x:Nd} (h:NdFit x) {k:Nat} {y:Nd} (hy:x.kids[k]?=some y):NdFit y:=by
 cases h with
 | mk _ _ _ _ h=>exact h k y hy
theorem NdFit.facts {x:Nd} (h:NdFit x):x.kind<256∧(-9223372036854775808≤x.num∧x.num≤9223372036854775807)∧x.name.size≤9223372036854775807∧x.kids.length≤9223372036854775807:=by
 cases h with
 | mk a b c d _=>exact ⟨a,b,c,d⟩
def kid (n:Nd) (i:Nat):Nd:=n.kids[i]?.getD (.mk 0 0 ⟨#[]⟩ [])
theorem kid_eq {n y:Nd} {i:Nat} (h:n.kids[i]?=some y):kid n i=y:=by unfold kid;rw [h];rfl
theorem NdsAt.kid {w:World} {A:Option Addr} {l:List Nd} (h:NdsAt w A l) {k:Nat} (hk:k<l.length):∃ b o A' cap',A=some ⟨b,o,none⟩∧b<w.heap.size∧w.cell? ⟨b,o+k*4,none⟩=some (.int .u8 l[k].kind)∧w.cell? ⟨b,o+k*4+1,none⟩=some (.int .i64 l[k].num)∧w.cell? ⟨b,o+k*4+2,none⟩=some (.string l[k].name)∧w.cell? ⟨b,o+k*4+3,none⟩=some (.slice A' l[k].kids.length cap')∧NdsAt w A' l[k].kids:=by
 obtain ⟨b,o,e,hO⟩:=h.at_ hk
 obtain ⟨A',cap',h0,h1,h2,h3,h4⟩:=hO.open_
 exact ⟨b,o,A',cap',e,block_lt_of_cell h0,h0,h1,h2,h3,h4⟩
theorem beqF {a:Nat} {b:Nat} (h:a≠b):((a:Int) == (b:Int))=false:=beq_eq_false_iff_ne.2 (by omega)
theorem beqD (a b:Nat):((a:Int) == (b:Int))=decide (a=b):=by
 by_cases h:a=b
 ·subst h;simp
 ·rw [beqF h,decide_eq_false h]
def SlOk (A:Option Addr) (n cap:Nat):Prop:=n≤cap∧(A=none→cap=0)
theorem SlOk.full {A:Option Addr} {n cap:Nat} (h:SlOk A n cap):A=none→n=0:=fun e=>by have:=h.2 e;have:=h.1;omega
structure Vd where
 name:ByteArray
 kind:Nat
 len:Int
def Vd.val (v:Vd):Value:=.agg #[.string v.name,.int .u8 v.kind,.int .i64 v.len]
def Vd.cs (v:Vd):List Value:=[.string v.name,.int .u8 v.kind,.int .i64 v.len]
def VdsAt (w:World) (A:Option Addr) (l:List Vd):Prop:=
 ∀ k x,l[k]?=some x→∃ b o,A=some ⟨b,o,none⟩∧w.cell? ⟨b,o+k*3,none⟩=some (.string x.name)∧w.cell? ⟨b,o+k*3+1,none⟩=some (.int .u8 x.kind)∧w.cell? ⟨b,o+k*3+2,none⟩=some (.int .i64 x.len)
theorem VdsAt.mono {w w':World} {A:Option Addr} {l:List Vd} (h:VdsAt w A l) (hb:Below w.heap.size w w'):VdsAt w' A l:=fun k x hk=>by
 obtain ⟨b,o,e,h1,h2,h3⟩:=h k x hk
 exact ⟨b,o,e,blc hb h1,blc hb h2,blc hb h3⟩
theorem VdsAt.at_ {w:World} {A:Option Addr} {l:List Vd} (h:VdsAt w A l) {k:Nat} (hk:k<l.length):∃ b o,A=some ⟨b,o,none⟩∧b<w.heap.size∧w.cell? ⟨b,o+k*3,none⟩=some (.string l[k].name)∧w.cell? ⟨b,o+k*3+1,none⟩=some (.int .u8 l[k].kind)∧w.cell? ⟨b,o+k*3+2,none⟩=some (.int .i64 l[k].len):=by
 obtain ⟨b,o,e,h1,h2,h3⟩:=h k l[k] (List.getElem?_eq_getElem hk)
 exact ⟨b,o,e,block_lt_of_cell h1,h1,h2,h3⟩
structure VdFit (v:Vd):Prop where
 n:v.name.size≤9223372036854775807
 k:v.kind<256
 l:-9223372036854775808≤v.len∧v.len≤9223372036854775807
structure Pc where
 name:ByteArray
 params:List Vd
 body:Nd
structure PcO (w:World) (b o:Nat) (p:Pc):Prop where
 c0:w.cell? ⟨b,o,none⟩=some (.string p.name)
 ps:∃ A cap,w.cell? ⟨b,o+1,none⟩=some (.slice A p.params.length cap)∧VdsAt w A p.params∧SlOk A p.params.length cap
 body:NdO w b (o+2) p.body
theorem PcO.lt {w:World} {b o:Nat} {p:Pc} (h:PcO w b o p):b<w.heap.size:=block_lt_of_cell h.c0
theorem PcO.mono {w w':World} {b o:Nat} {p:Pc} (h:PcO w b o p) (hb:Below w.heap.size w w'):PcO w' b o p:=by
 obtain ⟨A,cap,h1,h2,h3⟩:=h.ps
 exact ⟨blc hb h.c0,⟨A,cap,blc hb h1,h2.mono hb,h3⟩,h.body.mono hb⟩
def PcsAt (w:World) (A:Option Addr) (l:List Pc):Prop:=
 ∀ k x,l[k]?=some x→∃ b o,A=some ⟨b,o,none⟩∧PcO w b (o+k*6) x
theorem PcsAt.mono {w w':World} {A:Option Addr} {l:List Pc} (h:PcsAt w A l) (hb:Below w.heap.size w w'):PcsAt w' A l:=fun k x hk=>by
 obtain ⟨b,o,e,hi⟩:=h k x hk
 exact ⟨b,o,e,hi.mono hb⟩
theorem PcsAt.at_ {w:World} {A:Option Addr} {l:List Pc} (h:PcsAt w A l) {k:Nat} (hk:k<l.length):∃ b o Ap cp Ak ck,A=some ⟨b,o,none⟩∧b<w.heap.size∧w.cell? ⟨b,o+k*6,none⟩=some (.string l[k].name)∧w.cell? ⟨b,o+k*6+1,none⟩=some (.slice Ap l[k].params.length cp)∧w.cell? ⟨b,o+k*6+2,none⟩=some (.int .u8 l[k].body.kind)∧w.cell? ⟨b,o+k*6+2+1,none⟩=some (.int .i64 l[k].body.num)∧w.cell? ⟨b,o+k*6+2+2,none⟩=some (.string l[k].body.name)∧w.cell? ⟨b,o+k*6+2+3,none⟩=some (.slice Ak l[k].body.kids.length ck)∧VdsAt w Ap l[k].params∧NdsAt w Ak l[k].body.kids:=by
 obtain ⟨b,o,e,hp⟩:=h k l[k] (List.getElem?_eq_getElem hk)
 obtain ⟨Ap,cp,h1,h2,_⟩:=hp.ps
 obtain ⟨Ak,ck,d0,d1,d2,d3,d4⟩:=hp.body.open_
 exact ⟨b,o,Ap,cp,Ak,ck,e,hp.lt,hp.c0,h1,d0,d1,d2,d3,h2,d4⟩
theorem PcsAt.ok {w:World} {A:Option Addr} {l:List Pc} (h:PcsAt w A l) {k:Nat} (hk:k<l.length) {b o n cp:Nat} {Ap:Option Addr} (hA:A=some ⟨b,o,none⟩) (hc:w.cell? ⟨b,o+k*6+1,none⟩=some (.slice Ap n cp)):SlOk Ap l[k].params.length cp:=by
 obtain ⟨b',o',e,hp⟩:=h k l[k] (List.getElem?_eq_getElem hk)
 rw [hA] at e
 cases e
 obtain ⟨A2,c2,h1,_,h3⟩:=hp.ps
 rw [h1] at hc
 cases hc
 exact h3
end Go.Proofs.YtgbomnibedefoaaGreatDoor
namespace Go.Proofs.YtgbomnibedefoaaGreatDoor
open Go.ChangeShapes Go.WideShapes Go.ChangeAt Go.RowKit Go.Sort Go.Maps
theorem strKeyed:Keyed Tryz.prog 9:=string_keyed Tryz.underlying9
theorem zeroBool (w:World):(zeroValue 4).run Tryz.prog w=.ok (.bool false) w:=by kernel_rfl
def klit (s:ByteArray):Lit:=.string s.data.toList
theorem klit_ne {s t:ByteArray} (h:t≠s):klit t≠klit s:=fun e=>h (by
 unfold klit at e;injection e with e;exact WideShapes.bytes_inj e)
theorem klit_key (s:ByteArray):WideAt.IsKeyLit (klit s):=by unfold klit;first | exact trivial | constructor | simp [WideAt.IsKeyLit]
def MapB (w:World) (b n sz:Nat) (env:ByteArray→Option Bool):Prop:=
 ∃ D:DataW Unit,w.ownsMap Tryz.prog 9 (plainElem Tryz.prog 4) b n D∧Maps.size D=sz∧∀ s:ByteArray,Maps.has D (klit s)=(env s).isSome∧D.atKey (klit s) (.lit (.bool false))=.lit (.bool ((env s).getD false))
theorem plainElem_bool_inv {e:TypeId} (he:Tryz.prog.underlying e=some .bool) {v:Value} {z:DataW Unit × List MemPlace} (h:plainElem Tryz.prog e v=some z):∃ x,v=.bool x∧z=(.lit (.bool x),[]):=by
 unfold plainElem at h
 rw [he] at h
 cases v<;>simp at h
 exact ⟨_,rfl,h.symm⟩
def setE (env:ByteArray→Option Bool) (s:ByteArray) (v:Option Bool):ByteArray→Option Bool:=fun t=>if t=s then v else env t
theorem MapB.lt {w:World} {b n sz:Nat} {env:ByteArray→Option Bool} (h:MapB w b n sz env):b<w.heap.size:=by
 obtain ⟨D,h1,_⟩:=h;exact h1.lt
theorem MapB.below {w w':World} {b n sz:Nat} {env:ByteArray→Option Bool} (h:MapB w b n sz env) (hb:Below w.heap.size w w'):MapB w' b n sz env:=by
 have hl:=h.lt
 obtain ⟨D,⟨es,c,h1,h2⟩,h3⟩:=h
 exact ⟨D,⟨es,c,by rw [hb.block b hl];exact h1,h2⟩,h3⟩
theorem MapB.grown {w w':World} {b n sz:Nat} {env:ByteArray→Option Bool} (h:MapB w b n sz env) {row:Option Nat} (hg:w.grownBy w' row) (hne:some b≠row):MapB w' b n sz env:=by
 obtain ⟨D,h1,h2⟩:=h
 exact ⟨D,h1.kept hg hne,h2⟩
theorem MapB.setCell {w:World} {b n sz:Nat} {env:ByteArray→Option Bool} (h:MapB w b n sz env) {a:Addr} (ha:b≠a.block) (u:Value):MapB (w.setCell a u) b n sz env:=by
 obtain ⟨D,h1,h2⟩:=h
 exact ⟨D,h1.setCell ha u,h2⟩
theorem MapB.congr {w:World} {b n sz:Nat} {env env':ByteArray→Option Bool} (h:MapB w b n sz env) (he:∀ s,env s=env' s):MapB w b n sz env':=by
 have:env=env':=funext he
 rw [← this];exact h
theorem mapB_made (w:World):MapB (w.alloc (.map #[] 0)) w.heap.size 0 0 (fun _=>none):=
 ⟨.map [],World.ownsMap_made w _ _ _,rfl,fun _=>⟨rfl,rfl⟩⟩
section
variable (w:World) {ops:Array Oper} {rest:List Oper} {o:Oper} {a:Act} {Q:Exit→Act→World→Prop}
theorem mapB_put {w:World} {b n sz:Nat} {env:ByteArray→Option Bool} {t:TypeId} (ht:Tryz.prog.underlying t=some (.map 9 4)) (h:MapB w b n sz env) (hn:n<maxLen) (s:ByteArray) (hs:s.size≤maxLen) (v:Bool) :
  ∃ w',(Instr.mapUpdate t (.map (some b)) (.string s) (.bool v)).run Tryz.prog w=.ok () w'∧MapB w' b (n+1) (if (env s).isSome=true then sz else sz+1) (setE env s (some v))∧w.mapTurned w' b:=by
 obtain ⟨D,h1,h2,h3⟩:=h
 obtain ⟨w',hrun,r1,r2⟩:=h1.store strKeyed ht hn (WideMaps.keyOf_string_mk Tryz.underlying9 hs) (plainElem_bool Tryz.underlying4 v)
 refine ⟨w',hrun,⟨_,r1,?_,fun u=>?_⟩,r2⟩
 ·rw [Maps.size_put (h1.tidy strKeyed),h2]
  have:=(h3 s).1
  unfold klit at this
  rw [this]
 ·unfold setE
  by_cases e:u=s
  ·subst e
   rw [if_pos rfl]
   exact ⟨Maps.has_put_same h1.isMap (klit_key u) _,Maps.atKey_put_same h1.isMap (klit_key u) _ _⟩
  ·rw [if_neg e]
   exact ⟨by rw [← (h3 u).1];exact Maps.has_put_other (klit_ne e) _,by rw [← (h3 u).2];exact Maps.atKey_put_other (klit_ne e) _ _⟩
theorem wpList_put_B (hg:o.guard=none) (m x v:Operand) (t:TypeId) (hop:o.op=Op.mapUpdate t m x v∨o.op=Op.insert t m x v) (ht:Tryz.prog.underlying t=some (.map 9 4)) (b n sz:Nat) (env:ByteArray→Option Bool)
  (hm:a.eval m=.map (some b)) (h:MapB w b n sz env) (hn:n<maxLen) (s:ByteArray) (y:Bool) (hx:a.eval x=.string s) (hv:a.eval v=.bool y) (hs:s.size≤maxLen)
  (hK:∀ w',MapB w' b (n+1) (if (env s).isSome=true then sz else sz+1) (setE env s (some y))→w.mapTurned w' b→wpList Tryz.prog ops Q rest (a.put o.dst undef) w') :
  wpList Tryz.prog ops Q (o::rest) a w:=by
 refine wpList_plain hg fun K' hK'=>?_
 obtain ⟨w',hrun,r1,r2⟩:=mapB_put ht h hn s hs y
 unfold Oper.wp
 rcases hop with hop | hop
 all_goals
  simp [execOp,hop,hm,hx,hv,hrun,Result.andThen]
  exact hK' _ _ (hK w' r1 r2)
theorem wpList_look_B (hg:o.guard=none) (m x:Operand) (t:TypeId) (hop:o.op=Op.lookup t m x false) (ht:Tryz.prog.underlying t=some (.map 9 4)) (b n sz:Nat) (env:ByteArray→Option Bool)
  (hm:a.eval m=.map (some b)) (h:MapB w b n sz env) (s:ByteArray) (hx:a.eval x=.string s) (hs:s.size≤maxLen)
  (hK:wpList Tryz.prog ops Q rest (a.put o.dst (.bool ((env s).getD false))) w) :
  wpList Tryz.prog ops Q (o::rest) a w:=by
 refine wpList_plain hg fun K' hK'=>?_
 obtain ⟨D,h1,_,h3⟩:=h
 obtain ⟨v,ps,hrun,hv⟩:=h1.lookup strKeyed ht (zeroBool w) (plainElem_bool Tryz.underlying4 false) (WideMaps.keyOf_string_mk Tryz.underlying9 hs)
 obtain ⟨y,rfl,hy⟩:=plainElem_bool_inv Tryz.underlying4 hv
 have he:=(h3 s).2
 unfold klit at he
 rw [he] at hy
 have:y=(env s).getD false:=by simpa using (congrArg Prod.fst hy).symm
 subst this
 unfold Oper.wp
 simp [execOp,hop,hm,hx,hrun,Result.andThen]
 exact hK' _ _ hK
end
def kwL:List ByteArray:=[⟨#[105,110,116]⟩,⟨#[97,114,114,97,121]⟩,⟨#[115,116,97,99,107]⟩,⟨#[112,114,111,99]⟩,⟨#[109,97,105,110]⟩,⟨#[112,117,115,104]⟩,⟨#[112,111,112]⟩,⟨#[114,101,97,100]⟩,⟨#[117,110,114,101,97,100]⟩,⟨#[119,114,105,116,101]⟩,⟨#[117,110,119,114,105,116,101]⟩,⟨#[99,97,108,108]⟩,⟨#[117,110,99,97,108,108]⟩,⟨#[105,102]⟩,⟨#[101,108,115,101]⟩,⟨#[102,105]⟩,⟨#[102,114,111,109]⟩,⟨#[108,111,111,112]⟩,⟨#[117,110,116,105,108]⟩,⟨#[108,111,99,97,108]⟩,⟨#[100,101,108,111,99,97,108]⟩,⟨#[116,111,112]⟩,⟨#[115,105,122,101]⟩]
theorem eqS_iff {a b:ByteArray}:(a.toList == b.toList)=true↔a=b:=by
 rw [ByteArray.toList_eq,ByteArray.toList_eq]
 constructor
 ·intro h;exact WideShapes.bytes_inj (by simpa using h)
 ·intro h;rw [h];simp
theorem eqS_eq (a b:ByteArray):(a.toList == b.toList)=decide (a=b):=by
 rw [Bool.eq_iff_iff];simp only [eqS_iff,decide_eq_true_eq]
def inL (l:List ByteArray) (s:ByteArray):Bool:=l.any fun x=>decide (x=s)
def kwEnv:ByteArray→Option Bool:=kwL.foldl (fun e x=>setE e x (some true)) (fun _=>none)
theorem foldE (s:ByteArray):∀ (l:List ByteArray) (e:ByteArray→Option Bool),((l.foldl (fun e x=>setE e x (some true)) e) s).getD false=(inL l s||(e s).getD false)
 | [],e=>by simp [inL]
 | x::r,e=>by
   rw [List.foldl_cons,foldE s r]
   unfold setE
   by_cases h:s=x
   ·rw [if_pos h];simp [inL,h]
   ·rw [if_neg h]
    have:decide (x=s)=false:=by simp;exact fun e=>h e.symm
    simp [inL,this]
theorem kwEnv_eq (s:ByteArray):(kwEnv s).getD false=inL kwL s:=by
 unfold kwEnv;rw [foldE];simp
def kwB (s:ByteArray):Bool:=decide (2≤s.size)&&decide (s.size≤7)&&inL kwL s
theorem keyword_any (s:ByteArray) (w:World) (hs:s.size≤9223372036854775807) :
  Calls Tryz.prog 81 #[.string s] w fun e w'=>e=.returned (.bool (kwB s))∧Below w.heap.size w w':=by
 have hmm:=@run_makeMap Tryz.prog
 by_cases h2:s.size<2
 ·have hn:=kp (show kwB s=false by simp [kwB];omega)
  go_enter Tryz.func81,Tryz.ntmps81
  go_wp2
  go_ret
  exact ⟨ret_bool hn.out.symm,Below.refl _ _⟩
 by_cases h7:7<s.size
 ·have hn:=kp (show kwB s=false by simp [kwB];omega)
  go_enter Tryz.func81,Tryz.ntmps81
  go_wp2
  go_ret
  exact ⟨ret_bool hn.out.symm,Below.refl _ _⟩
 have hn:=kp (show (kwEnv s).getD false=kwB s by rw [kwEnv_eq];unfold kwB;simp;omega)
 have HM:=mapB_made w
 have hbM:=blb w (.map #[] 0)
 go_enter Tryz.func81,Tryz.ntmps81
 go_wp2_with (first
  | (refine wpList_put_B _ rfl _ _ _ 170 (.inr rfl) Tryz.underlying170 w.heap.size _ _ _ rfl HM (by decide) _ true rfl rfl (by decide) ?_;intro w1 HM1 hT;have hbM:=hbM.grown hT.grown (by have:=hbM.size;omega) (by intro k hk;cases hk;exact Nat.le_refl _);have HM:=HM1;clear hT HM1)
  | (at_lookup;refine wpList_look_B _ rfl _ _ 170 rfl Tryz.underlying170 w.heap.size _ _ _ rfl HM s rfl (by unfold maxLen;omega) ?_))
 go_ret
 exact ⟨ret_bool hn.out,hbM⟩
end Go.Proofs.YtgbomnibedefoaaGreatDoor
