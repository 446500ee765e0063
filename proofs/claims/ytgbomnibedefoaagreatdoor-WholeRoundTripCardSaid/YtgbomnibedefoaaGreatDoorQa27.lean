import Derived.Lib.RowBridge
import Derived.Test.YtgbomnibedefoaaGreatDoorQa20
import Derived.Test.YtgbomnibedefoaaGreatDoorQa26
set_option maxRecDepth 100000
set_option maxHeartbeats 8000000
namespace Go.Proofs.YtgbomnibedefoaaGreatDoor
open Go.ChangeShapes Go.WideShapes Go.ChangeAt Go.RowKit Go.Sort
theorem row_setCell {w:World} {g:Nat} {e:TypeId} {cs:Array Value} (h:w.heap[g]?=some (.cells cs e (0,0))) (j:Nat) (u:Value):(w.setCell ⟨g,j,none⟩ u).heap[g]?=some (.cells (cs.setIfInBounds j u) e (0,0)):=by
 have hlt:=lt_of_block h
 have h':w.heap[g]=.cells cs e (0,0):=by simpa [Array.getElem?_eq_getElem hlt] using h
 show (w.heap.modify g _)[g]?=_
 rw [Array.getElem?_eq_getElem (by simpa using hlt),Array.getElem_modify_self,h']
 rfl
theorem row_setCells {g:Nat} {e:TypeId}:∀ (vs:List Value) (o:Nat) (w:World) (cs:Array Value),w.heap[g]?=some (.cells cs e (0,0))→∃ cs',(w.setCells g o vs).heap[g]?=some (.cells cs' e (0,0))∧cs'.size=cs.size
 | [],_,_,cs,h=>⟨cs,h,rfl⟩
 | v::r,o,w,cs,h=>by
   obtain ⟨cs',h1,h2⟩:=row_setCells r (o+1) _ _ (row_setCell h o v)
   exact ⟨cs',h1,by rw [h2];simp⟩
theorem fr_setCells (g:Nat):∀ (vs:List Value) (o:Nat) (w:World),Fr w (w.setCells g o vs) (fun k=>k=g)
 | [],_,w=>Fr.refl w _
 | v::r,o,w=>(Fr.of_set w ⟨g,o,none⟩ v).trans (fr_setCells g r (o+1) _) fun _ _ e=>e
theorem own_of_cells {w':World} {base g cap n:Nat} {e:TypeId} {cs:Array Value} {xs:List Value} (hg:base≤g) (hh:w'.heap[g]?=some (.cells cs e (0,0))) (hs:cs.size=cap) (hn:n≤cap) (hc:cap≤maxLen) (hx:xs.length=n) (hcell:∀ j u,xs[j]?=some u→w'.cell? ⟨g,j,none⟩=some u):w'.ownsRow base e 1 (.slice (some ⟨g,0,none⟩) n cap) n xs:=by
 refine ⟨by omega,.inr ⟨g,cap,cs,rfl,hg,hh,hn,hc,by omega,?_⟩⟩
 apply List.ext_getElem?
 intro j
 rw [Nat.mul_one,List.getElem?_take]
 by_cases hj:j<n
 ·rw [if_pos hj]
  obtain ⟨u,hu⟩:∃ u,xs[j]?=some u:=⟨_,List.getElem?_eq_getElem (by omega)⟩
  have:=hcell j u hu
  rw [hu]
  simp [World.cell?,hh] at this
  simpa using this
 ·rw [if_neg hj,List.getElem?_eq_none (by omega)]
structure RwN (B:Nat) (w:World) (v:Value) (l':List Int) (w':World) (v':Value):Prop where
 own:w'.ownsRow B 3 1 v' l'.length (l'.map (.int .i64))
 fr:Fr w w' (fun k=>some k=v.ownBlock)
 at_:v'.ownBlock=v.ownBlock∨∃ g,v'.ownBlock=some g∧w.heap.size≤g
def InsR (B:Nat) (w:World) (v:Value) (l':List Int) (e:Ending) (w':World):Prop:=∃ v',e=.returned v'∧RwN B w v l' w' v'
theorem drew_fr (w:World) (m:Nat→Prop):Fr w w.drew m:=Fr.of_below (bld (Below.refl _ _)) m
theorem own_alloc_row {w:World} {B n cap:Nat} {l:List Int} {cs:Array Value} (hB:B≤w.heap.size) (hs:cs.size=cap) (hn:n=l.length) (hle:n≤cap) (hc:cap≤maxLen) (hx:∀ (j:Nat) (x:Int),l[j]?=some x→cs[j]?=some (.int .i64 x)):(w.alloc (.cells cs 3)).ownsRow B 3 1 (.slice (some ⟨w.heap.size,0,none⟩) n cap) n (l.map (.int .i64)):=by
 refine own_of_cells hB (heap_alloc_new w _) hs hle hc (by simp [hn]) fun j u hu=>?_
 rw [List.getElem?_map] at hu
 obtain ⟨x,hxx,rfl⟩:=Option.map_eq_some_iff.1 hu
 exact (bxn w cs 3).cell (hx j x hxx)
theorem some_of_row {w:World} {g j:Nat} {e:TypeId} {cs:Array Value} (h:w.heap[g]?=some (.cells cs e (0,0))) (hj:j<cs.size):(w.cell? ⟨g,j,none⟩).isSome=true:=by simp [World.cell?,h,hj]
theorem zero_size (n:Nat):(Builtin.zeroCells (Value.int .i64 0).cells n).size=n:=by rw [size_zeroCells];show n*1=n;omega
theorem insert_any {B:Nat} {w:World} {v:Value} {l:List Int} (h:w.ownsRow B 3 1 v l.length (l.map (.int .i64))) (hB:B≤w.heap.size) (hl:l.length≤5000) (x:Int) {vb:Nat} (hvb:v.ownBlock≠some vb) (hx:Bx w vb #[.int .i64 x]) (front:Bool) :
  Calls Tryz.prog 204 #[v,.int .i64 (if front then 0 else (l.length:Int)),.slice (some ⟨vb,0,none⟩) 1 1] w (InsR B w v (if front then x::l else l++[x])):=by
 have hvs:∀ (j:Nat) (u:Value),[Value.int .i64 x][j]?=some u→w.cell? ⟨vb,0+j,none⟩=some u:=fun j u hu=>by
  cases j with
  | zero=>cases hu;exact hx.cell rfl
  | succ j=>cases hu
 have h1v:∀ u∈[Value.int .i64 x],u.oneCell'=true:=fun u hu=>by simp at hu;subst hu;rfl
 have grow:∀ (A:Option Addr) (c:Nat),v=.slice A l.length c→l.length≤c→c<l.length+1→(A=none→l.length=0)→(∀ a,A=some a→∀ (j:Nat) (u:Value),(l.map (Value.int .i64))[j]?=some u→w.cell? (a.add j)=some u)→
   Calls Tryz.prog 204 #[v,.int .i64 (l.length:Int),.slice (some ⟨vb,0,none⟩) 1 1] w (InsR B w v (l++[x])):=fun A c e1 h1 h2 h3 h4=>by
  subst e1
  refine (Tryz.slices_Insert_int_end_grow A l.length c vb 0 1 1 (l.map (.int .i64)) [.int .i64 x] w (by omega) h1 (by omega) (by omega) (by simp) rfl h3 h4 hvs h1v).mono ?_
  rintro e w' ⟨rfl,rfl⟩
  have hg:=grownCap_ge w (l.length+1) c 3
  have hm:=grownCap_le_maxLen w (l.length+1) c 3 (by unfold maxLen;omega)
  refine ⟨_,rfl,?_,(drew_fr w _).trans (Fr.of_below (blb _ _) _) fun _ _ e=>e,.inr ⟨w.heap.size,rfl,Nat.le_refl _⟩⟩
  have hz:=zero_size (grownCap w (l.length+1) c 3 - (l.length+1))
  have:=own_alloc_row (w:=w.drew) (B:=B) (n:=l.length+1) (l:=l++[x]) (cs:=(l.map (Value.int .i64)++[Value.int .i64 x]).toArray++Builtin.zeroCells (Value.int .i64 0).cells (grownCap w (l.length+1) c 3 - (l.length+1))) (cap:=grownCap w (l.length+1) c 3) hB (by rw [Array.size_append,hz];simp;omega) (by simp) hg hm (fun j y hy=>by
   have hj:j<(l++[x]).length:=(List.getElem?_eq_some_iff.1 hy).1
   rw [Array.getElem?_append_left (by simpa using hj),List.getElem?_toArray]
   have:(l.map (Value.int .i64)++[Value.int .i64 x])=(l++[x]).map (Value.int .i64):=by simp
   rw [this,List.getElem?_map,hy];rfl)
  simpa using this
 rcases id h.2 with ⟨rfl,h0⟩ | ⟨g,cap,cur,rfl,hg,hh,hnc,hcm,hcs,_⟩
 ·obtain rfl:l=[]:=List.length_eq_zero_iff.1 h0
  have:=grow none 0 rfl (Nat.le_refl _) (by decide) (fun _=>rfl) (fun a e=>by cases e)
  cases front
  ·exact this
  ·exact this
 ·have hcell:∀ (j:Nat) (u:Value),(l.map (Value.int .i64))[j]?=some u→w.cell? ⟨g,j,none⟩=some u:=fun j u hu=>by
   have:=h.cells (g:=g) rfl j u hu
   rw [add0] at this;exact this
  have hfz:∀ j,w.frozen? ⟨g,j,none⟩=false:=fun j=>by simp [World.frozen?,hh]
  have hsome:∀ j,j<cap→(w.cell? ⟨g,j,none⟩).isSome=true:=fun j hj=>by
   have:j<cur.size:=by omega
   simp [World.cell?,hh,this]
  have hcadd:∀ a,(some ⟨g,0,none⟩:Option Addr)=some a→∀ (j:Nat) (u:Value),(l.map (Value.int .i64))[j]?=some u→w.cell? (a.add j)=some u:=fun a e j u hu=>by
   cases e;rw [add0];exact hcell j u hu
  have hmx:cap≤9223372036854775807:=by unfold maxLen at hcm;omega
  have back:Calls Tryz.prog 204 #[.slice (some ⟨g,0,none⟩) l.length cap,.int .i64 (l.length:Int),.slice (some ⟨vb,0,none⟩) 1 1] w (InsR B w (.slice (some ⟨g,0,none⟩) l.length cap) (l++[x])):=by
   by_cases hroom:l.length+1≤cap
   ·refine (Tryz.slices_Insert_int_end_room g 0 l.length cap vb 0 1 1 [.int .i64 x] w (by omega) hroom hmx rfl (fun j hj=>by rw [Nat.zero_add];exact hsome _ (by omega)) (fun j _=>hfz _) hvs h1v).mono ?_
    rintro e w' ⟨rfl,rfl⟩
    obtain ⟨cs',r1,r2⟩:=row_setCells [.int .i64 x] (0+l.length) w cur hh
    refine ⟨_,rfl,?_,(fr_setCells g _ _ w).mono fun k _ e=>by rw [e];rfl,.inl rfl⟩
    have hlen:(l++[x]).length=l.length+1:=by simp
    rw [hlen]
    refine own_of_cells hg r1 (by omega) hroom hcm (by simp) fun j u hu=>?_
    rw [List.map_append] at hu
    by_cases hj:j<l.length
    ·rw [List.getElem?_append_left (by simpa using hj)] at hu
     rw [World.cell?_setCells_out g _ _ _ _ (fun _ _=>.inl (by show j<0+l.length;omega))]
     exact hcell j u hu
    ·have hj2:j=l.length:=by have:=(List.getElem?_eq_some_iff.1 hu).1;simp at this;omega
     subst hj2
     rw [List.getElem?_append_right (by simp)] at hu
     simp at hu
     subst hu
     have:=World.cell?_setCells_in g [.int .i64 x] (0+l.length) w (fun j hj=>by rw [Nat.zero_add];exact hsome _ (by simp at hj;omega)) 0 (by simp)
     simpa using this
   ·exact grow (some ⟨g,0,none⟩) cap rfl hnc (by omega) (fun e=>by cases e) hcadd
  cases front
  ·exact back
  ·by_cases hl0:l.length=0
   ·obtain rfl:l=[]:=List.length_eq_zero_iff.1 hl0
    exact back
   ·show Calls Tryz.prog 204 #[.slice (some ⟨g,0,none⟩) l.length cap,.int .i64 ((0:Nat):Int),.slice (some ⟨vb,0,none⟩) 1 1] w (InsR B w (.slice (some ⟨g,0,none⟩) l.length cap) (x::l))
    have hfin:∀ (w':World) (g' cap':Nat) (cs':Array Value),B≤g'→w'.heap[g']?=some (.cells cs' 3 (0,0))→cs'.size=cap'→l.length+1≤cap'→cap'≤maxLen→w'.cell? ⟨g',0,none⟩=some (.int .i64 x)→(∀ (j:Nat) (u:Value),(l.map (Value.int .i64))[j]?=some u→w'.cell? ⟨g',j+1,none⟩=some u)→w'.ownsRow B 3 1 (.slice (some ⟨g',0,none⟩) (l.length+1) cap') (x::l).length ((x::l).map (Value.int .i64)):=fun w' g' cap' cs' q1 q2 q3 q4 q5 q6 q7=>by
     refine own_of_cells q1 q2 q3 q4 q5 (by simp) fun j u hu=>?_
     cases j with
     | zero=>cases hu;exact q6
     | succ j=>exact q7 j u (by simpa using hu)
    by_cases hroom:l.length+1≤cap
    ·obtain ⟨T,hT⟩:=hx
     refine (Tryz.slices_Insert_int_shift g 0 l.length cap 0 vb 0 1 1 (l.map (.int .i64)) [.int .i64 x] w (by omega) (by omega) hroom hmx (fun e=>hvb (by rw [e];rfl)) (by simp) rfl (fun j u hu=>by rw [Nat.zero_add];exact hcell j u hu) (fun j hj=>by rw [Nat.zero_add];exact hsome j (by omega)) (fun j _=>hfz _) hvs (ints_one l) h1v T 3 1 cur.size (by simp [World.shape?,hT]) (by simp [World.shape?,hh]) (by omega) (by simp [World.frozen?,hT]) (by simp [World.frozen?,hT])).mono ?_
     rintro e w' ⟨rfl,rfl⟩
     have hhd:w.drew.heap[g]?=some (.cells cur 3 (0,0)):=hh
     obtain ⟨c1,r1,r2⟩:=row_setCells ((l.map (Value.int .i64)).drop 0) (0+(0+1)) w.drew cur hhd
     obtain ⟨c2,r3,r4⟩:=row_setCells [.int .i64 x] (0+0) _ c1 r1
     refine ⟨_,rfl,hfin _ g cap c2 hg r3 (by omega) hroom hcm ?_ fun j u hu=>?_,(((drew_fr w _).trans (fr_setCells g _ _ _) fun _ _ e=>e).trans (fr_setCells g _ _ _) fun _ _ e=>e).mono fun k _ e=>by rw [e];rfl,.inl rfl⟩
     ·have:=World.cell?_setCells_in g [.int .i64 x] (0+0) (w.drew.setCells g (0+(0+1)) ((l.map (Value.int .i64)).drop 0)) (fun j hj=>by
       have hj0:j=0:=by simpa using hj
       subst hj0
       exact some_of_row r1 (by omega)) 0 (by simp)
      simpa using this
     ·rw [World.cell?_setCells_out g _ _ _ _ (fun _ _=>.inr (by show 0+0+1≤j+1;omega))]
      have hjl:j<l.length:=by have:=(List.getElem?_eq_some_iff.1 hu).1;simpa using this
      have:=World.cell?_setCells_in g ((l.map (Value.int .i64)).drop 0) (0+(0+1)) w.drew (fun j hj=>by
       have hj2:j<l.length:=by simpa using hj
       have:=hsome (0+(0+1)+j) (by omega)
       exact this) j (by simpa using hjl)
      rw [show 0+(0+1)+j=j+1 by omega] at this
      rw [this]
      rw [List.getElem?_eq_getElem (by simpa using hjl)] at hu
      simpa using hu
    ·refine (Tryz.slices_Insert_int_grow g 0 l.length cap 0 vb 0 1 1 (l.map (.int .i64)) [.int .i64 x] w (by omega) (by omega) hnc (by omega) (by omega) (by simp) rfl (fun j u hu=>by rw [Nat.zero_add];exact hcell j u hu) hvs (ints_one l) h1v).mono ?_
     rintro e w' ⟨rfl,rfl⟩
     have hgc:=grownCap_ge w (l.length+1) cap 3
     have hgm:=grownCap_le_maxLen w (l.length+1) cap 3 (by unfold maxLen;omega)
     generalize hcs0:(((l.map (Value.int .i64)).take 0).toArray++Builtin.zeroCells (Value.int .i64 0).cells (l.length+1 - 0)++Builtin.zeroCells (Value.int .i64 0).cells (grownCap w (l.length+1) cap 3 - (l.length+1)))=cs0
     have hs0:cs0.size=grownCap w (l.length+1) cap 3:=by rw [← hcs0,Array.size_append,Array.size_append,zero_size,zero_size];simp;omega
     have hh0:(w.alloc (.cells cs0 3)).drew.heap[w.heap.size]?=some (.cells cs0 3 (0,0)):=heap_alloc_new w _
     obtain ⟨c1,r1,r2⟩:=row_setCells [.int .i64 x] 0 _ cs0 hh0
     have r1':((w.alloc (.cells cs0 3)).drew.setCells w.heap.size 0 [.int .i64 x]).drew.heap[w.heap.size]?=some (.cells c1 3 (0,0)):=r1
     obtain ⟨c2,r3,r4⟩:=row_setCells ((l.map (Value.int .i64)).drop 0) (0+1) _ c1 r1'
     refine ⟨_,rfl,hfin _ w.heap.size _ c2 hB r3 (by omega) hgc hgm ?_ fun j u hu=>?_,?_,.inr ⟨w.heap.size,rfl,Nat.le_refl _⟩⟩
     ·rw [World.cell?_setCells_out _ _ _ _ _ (fun _ _=>.inl (by show 0<0+1;omega))]
      have:=World.cell?_setCells_in w.heap.size [.int .i64 x] 0 (w.alloc (.cells cs0 3)).drew (fun j hj=>by
       have hj0:j=0:=by simpa using hj
       subst hj0
       exact some_of_row hh0 (by omega)) 0 (by simp)
      simpa using this
     ·have hjl:j<l.length:=by have:=(List.getElem?_eq_some_iff.1 hu).1;simpa using this
      have:=World.cell?_setCells_in w.heap.size ((l.map (Value.int .i64)).drop 0) (0+1) ((w.alloc (.cells cs0 3)).drew.setCells w.heap.size 0 [.int .i64 x]).drew (fun j hj=>by
       have hj2:j<l.length:=by simpa using hj
       exact some_of_row r1' (by omega)) j (by simpa using hjl)
      rw [show 0+1+j=j+1 by omega] at this
      rw [this]
      rw [List.getElem?_eq_getElem (by simpa using hjl)] at hu
      simpa using hu
     ·refine (((((Fr.of_below (blb w _) (fun k=>w.heap.size≤k)).trans (drew_fr _ _) fun _ _ e=>e).trans ((fr_setCells w.heap.size _ _ _).mono fun k _ e=>by omega) fun _ _ e=>e).trans (drew_fr _ _) fun _ _ e=>e).trans ((fr_setCells w.heap.size _ _ _).mono fun k _ e=>by omega) fun _ _ e=>e).mono fun k hk e=>by omega
def delK (front:Bool) (l:List Int):List Int:=if front then l.tail else l.dropLast
theorem delete_any {B:Nat} {w:World} {v:Value} {l:List Int} (h:w.ownsRow B 3 1 v l.length (l.map (.int .i64))) (hl0:0<l.length) (front:Bool) :
  Calls Tryz.prog 203 #[v,.int .i64 (if front then 0 else (l.length:Int) - 1),.int .i64 (if front then 1 else (l.length:Int))] w (InsR B w v (delK front l)):=by
 rcases id h.2 with ⟨rfl,h0⟩ | ⟨g,cap,cur,rfl,hg,hh,hnc,hcm,hcs,_⟩
 ·omega
 ·have hcell:∀ (j:Nat) (u:Value),(l.map (Value.int .i64))[j]?=some u→w.cell? ⟨g,j,none⟩=some u:=fun j u hu=>by
   have:=h.cells (g:=g) rfl j u hu
   rw [add0] at this;exact this
  have hfz:∀ j,w.frozen? ⟨g,j,none⟩=false:=fun j=>by simp [World.frozen?,hh]
  have hmx:cap≤9223372036854775807:=by unfold maxLen at hcm;omega
  have hH:Holds (Value.int .i64) w g 0 l.toArray:=fun j hj=>by
   have hj':j<l.length:=by simpa using hj
   refine ⟨?_,hfz _⟩
   rw [Nat.zero_add]
   refine hcell j _ ?_
   rw [List.getElem?_map,List.getElem?_eq_getElem hj']
   simp [hj']
  have key:∀ (i j:Nat),i≤j→j≤l.length→j=i+1→delK front l=l.take i++l.drop j→
    Calls Tryz.prog 203 #[.slice (some ⟨g,0,none⟩) l.length cap,.int .i64 (i:Int),.int .i64 (j:Int)] w (InsR B w (.slice (some ⟨g,0,none⟩) l.length cap) (delK front l)):=fun i j hij hj hji he=>by
   refine (Tryz.slices_Delete_int g 0 cap i j l w hH hnc hmx hij hj).mono ?_
   rintro e w' ⟨rfl,q,rfl⟩
   rw [he]
   have hlen:(l.take i++l.drop j).length=l.length - (j - i):=by simp;omega
   have hall:(l.take i++l.drop j++List.replicate (j - i) 0).length=l.toArray.size:=by simp;omega
   rw [Lib.putRow_eq_setCells (Value.int .i64) w g 0 l.toArray _ q hH hall]
   have hhd:(w.drewN q).heap[g]?=some (.cells cur 3 (0,0)):=hh
   obtain ⟨c1,r1,r2⟩:=row_setCells ((l.take i++l.drop j++List.replicate (j - i) 0).map (Value.int .i64)) 0 (w.drewN q) cur hhd
   have hfa:Fr w (w.drewN q) (fun k=>k=g):=⟨rfl,rfl,rfl,Nat.le_refl _,fun _ _ _=>rfl⟩
   refine ⟨_,rfl,?_,(hfa.trans (fr_setCells g _ _ _) fun _ _ e=>e).mono fun k _ e=>by rw [e];rfl,.inl rfl⟩
   rw [hlen]
   refine own_of_cells hg r1 (by omega) (by omega) hcm (by simp;omega) fun k u hu=>?_
   have hkl:k<(l.take i++l.drop j).length:=by have:=(List.getElem?_eq_some_iff.1 hu).1;simpa using this
   have:=World.cell?_setCells_in g ((l.take i++l.drop j++List.replicate (j - i) 0).map (Value.int .i64)) 0 (w.drewN q) (fun k hk=>by
    rw [Nat.zero_add]
    have hk':k<(l.take i++l.drop j++List.replicate (j - i) 0).length:=by simpa using hk
    rw [hall] at hk'
    exact some_of_row hhd (by simp at hk';omega)) k (by simp at hkl ⊢;omega)
   rw [Nat.zero_add] at this
   rw [this]
   rw [List.getElem?_eq_getElem (by simpa using hkl)] at hu
   rw [← hu,List.getElem_map,List.getElem_map,List.getElem_append_left hkl]
  cases front
  ·obtain ⟨m,hm⟩:∃ m,l.length=m+1:=⟨l.length - 1,by omega⟩
   have:=key m (m+1) (by omega) (by omega) rfl (by
    show l.dropLast=_
    rw [List.dropLast_eq_take,hm,List.drop_of_length_le (by omega)];simp)
   rw [hm] at this ⊢
   show Calls _ _ #[_,.int .i64 (((m+1:Nat):Int) - 1),.int .i64 ((m+1:Nat):Int)] _ _
   rw [show (((m+1:Nat):Int) - 1)=(m:Int) by omega]
   exact this
  ·exact key 0 1 (by omega) (by omega) rfl (by show l.tail=_;simp)
theorem RwN.ne {B:Nat} {w w':World} {v v':Value} {l':List Int} (h:RwN B w v l' w' v') {b:Nat} (hb:b<w.heap.size) (hv:v.ownBlock≠some b):v'.ownBlock≠some b:=fun e=>by
 rcases h.at_ with q | ⟨g,q,hg⟩
 ·exact hv (q▸e)
 ·rw [q] at e;cases e;omega
def TpP (B:Nat) (w0:World) (TB j:Nat) (v:Value) (l':List Int) (w':World):Prop:=∃ w1 v',RwN B w0 v l' w1 v'∧w'=w1.setCell ⟨TB,j,none⟩ v'
def InsP (B:Nat) (w:World) (TB j:Nat) (v:Value) (x:Int) (l l':List Int) (e:Ending) (w':World):Prop:=(4096≤l.length∧e=.returned (.int .i64 5)∧w=w')∨(l.length<4096∧e=.returned (.int .i64 0)∧TpP B (w.alloc (Obj.cells #[.int .i64 x] 3)) TB j v l' w')
theorem tinsert_any {B:Nat} {w:World} {v:Value} {l:List Int} (h:w.ownsRow B 3 1 v l.length (l.map (.int .i64))) (hB:B≤w.heap.size) (hl:l.length≤5000) (x:Int) {TB j:Nat} {cs:Array Value} (hT:Bx w TB cs) (hj:cs[j]?=some v) (hne:v.ownBlock≠some TB) (front:Bool) :
  Calls Tryz.prog 194 #[.pointer (some ⟨TB,j,none⟩),.int .i64 (if front then 0 else (l.length:Int)),.int .i64 x] w (InsP B w TB j v x l (if front then x::l else l++[x])):=by
 obtain ⟨A,c,rfl,hc,hq⟩:=ofb h
 have y0:=hT.cell hj
 have hlt:=hT.lt
 by_cases hfull:4096≤l.length
 ·have HN:=kp (show InsP B w TB j (.slice A l.length c) x l (if front then x::l else l++[x]) (.returned (.int .i64 5)) w from .inl ⟨hfull,rfl,rfl⟩)
  clear hq h
  have r0:(4096:Int)≤l.length:=by omega
  generalize (if front=true then x::l else l++[x])=l' at *
  generalize (if front=true then 0 else (l.length:Int))=ix at *
  go_enter Tryz.func194,Tryz.ntmps194
  go_wp2_with fail
  go_ret
  exact HN.out
 ·have r0:¬ (4096:Int)≤l.length:=by omega
  have HNB:=kp (blb w (Obj.cells #[.int .i64 x] 3))
  have HT2:=kp (hT.below HNB.out)
  have HNE:=kp hne
  have HJ:=kp hj
  have HI:=kp (insert_any (obl h HNB.out) (Nat.le_trans hB HNB.out.size) hl x (vb:=w.heap.size) (fun e=>by have:=(h.lt _ e).2;omega) (bxn w #[.int .i64 x] 3) front)
  have HG:=kp (fun w' h1=>show InsP B w TB j (.slice A l.length c) x l (if front then x::l else l++[x]) (.returned (.int .i64 0)) w' from .inr ⟨by omega,rfl,h1⟩)
  generalize (if front=true then x::l else l++[x])=l' at *
  generalize (if front=true then 0 else (l.length:Int))=ix at *
  clear hq h hc hj hne hT
  go_enter Tryz.func194,Tryz.ntmps194
  go_wp2_with fail
  refine HI.out.mono ?_
  rintro e w1 ⟨v',rfl,hr⟩
  have HB1:=kp (HT2.out.fr hr.fr (fun e=>HNE.out e.symm))
  have y1:=HB1.out.cell HJ.out
  have yf:=HB1.out.free j
  have hl1:=HB1.out.lt
  obtain ⟨A9,c9,rfl,_,_⟩:=ofb hr.own
  have HZ:=kp (HG.out (w1.setCell ⟨TB,j,none⟩ (.slice A9 l'.length c9)) ⟨w1,_,hr,rfl⟩)
  clear hr
  go_wp2_with fail
  go_ret
  exact HZ.out
def RemP (B:Nat) (w:World) (TB j:Nat) (v:Value) (front:Bool) (l:List Int) (e:Ending) (w':World):Prop:=(l=[]∧e=.returned (.tuple #[.int .i64 0,.int .i64 17])∧w=w')∨(∃ x,(if front then l.head? else l.getLast?)=some x∧e=.returned (.tuple #[.int .i64 x,.int .i64 0])∧TpP B w TB j v (delK front l) w')
theorem tremove_any {B:Nat} {w:World} {v:Value} {l:List Int} (h:w.ownsRow B 3 1 v l.length (l.map (.int .i64))) (hl:l.length≤5000) {TB j:Nat} {cs:Array Value} (hT:Bx w TB cs) (hj:cs[j]?=some v) (hne:v.ownBlock≠some TB) (front:Bool) :
  Calls Tryz.prog 193 #[.pointer (some ⟨TB,j,none⟩),.int .i64 (if front then 0 else (l.length:Int) - 1)] w (RemP B w TB j v front l):=by
 obtain ⟨A,c,rfl,hc,hq⟩:=ofb h
 have y0:=hT.cell hj
 have hlt:=hT.lt
 by_cases h0:l=[]
 ·subst h0
  have HN:=kp (show RemP B w TB j (.slice A 0 c) front [] (.returned (.tuple #[.int .i64 0,.int .i64 17])) w from .inl ⟨rfl,rfl,rfl⟩)
  clear hq h hj
  generalize (if front=true then 0 else (([]:List Int).length:Int) - 1)=ix at *
  go_enter Tryz.func193,Tryz.ntmps193
  go_wp2_with fail
  go_ret2
  exact HN.out
 ·have hl0:0<l.length:=by cases l;exact absurd rfl h0;simp
  obtain ⟨m,hm⟩:∃ m:Nat,(if front then 0 else (l.length:Int) - 1)=(m:Int)∧(if front then 1 else (l.length:Int))=(m:Int)+1∧m<l.length∧(if front then l.head? else l.getLast?)=l[m]?:=by
   cases front
   ·exact ⟨l.length - 1,by show (l.length:Int) - 1=_;omega,by show (l.length:Int)=_;omega,by omega,by show l.getLast?=_;rw [List.getLast?_eq_getElem?]⟩
   ·exact ⟨0,rfl,rfl,hl0,by show l.head?=_;rw [List.head?_eq_getElem?]⟩
  obtain ⟨h1,h2,h3,h4⟩:=hm
  have HI:=kp (delete_any h hl0 front)
  rw [h1,h2] at HI
  rw [h1]
  have HNE:=kp hne
  have HJ:=kp hj
  have HT:=kp hT
  have hcl:∃ b o,A=some ⟨b,o,none⟩∧w.cell? ⟨b,o+m,none⟩=some (.int .i64 l[m]):=by
   obtain ⟨A',c',e,hi⟩:=ints_of_own h
   cases e
   exact hi.at_ h3
  obtain ⟨b,o,rfl,hcell⟩:=hcl
  have hlb:=block_lt_of_cell hcell
  have HG:=kp (fun w' hh=>show RemP B w TB j (.slice (some ⟨b,o,none⟩) l.length c) front l (.returned (.tuple #[.int .i64 l[m],.int .i64 0])) w' from .inr ⟨l[m],by rw [h4];exact List.getElem?_eq_getElem h3,rfl,hh⟩)
  have r0:(0:Int)≤m:=by omega
  have r1:(m:Int)<l.length:=by omega
  have hq0:((l.length:Int) == 0)=false:=by simpa using (by omega:¬ (l.length:Int)=0)
  generalize delK front l=l' at *
  generalize l[m]=x at *
  clear hq h hc hj hne hT h1 h2 h3 h4 h0
  go_enter Tryz.func193,Tryz.ntmps193
  go_wp2_with fail
  refine HI.out.mono ?_
  rintro e w1 ⟨v',rfl,hr⟩
  have HB1:=kp (HT.out.fr hr.fr (fun e=>HNE.out e.symm))
  have y1:=HB1.out.cell HJ.out
  have yf:=HB1.out.free j
  have hl1:=HB1.out.lt
  obtain ⟨A9,c9,rfl,_,_⟩:=ofb hr.own
  have HZ:=kp (HG.out (w1.setCell ⟨TB,j,none⟩ (.slice A9 l'.length c9)) ⟨w1,_,hr,rfl⟩)
  clear hr
  go_wp2_with fail
  go_ret2
  exact HZ.out
structure StS (B:Nat) (w:World) (G:Gs) (w':World) (G':Gs) (σ':Mt) (S:Ro→Prop):Prop where
 o:StO B w' G' σ'
 fr:Fr w w' (fun k=>S (G.R k))
 r10:∀ k,G.R k=(10,0)→G'.R k=(10,0)
 old:∀ k,k<w.heap.size→G'.R k=G.R k
 it:∀ (c:Nat) (v:Value),¬ S (9,c)→G.it[c]?=some v→G'.it[c]?=some v
 sb:G'.SB=G.SB
 tb:G'.TB=G.TB
 cb:G'.cb=G.cb
 fs:G'.fs=G.fs
 cv:G'.cv=G.cv
def tpS (r:Ro):Prop:=r=(2,0)∨r=(3,0)∨r=(4,0)
theorem StO.inpStep {B:Nat} {w w0 w':World} {G:Gs} {σ:Mt} (h:StO B w G σ) (hb:Below w.heap.size w w0) {l':List Int} (ht:TpP B w0 G.TB 0 G.iv l' w'):∃ G',StS B w G w' G' { σ with inp:=l' } tpS:=by
 obtain ⟨w1,v',hr,rfl⟩:=ht
 have hTB:=h.tap.1.lt
 have hs0:=hb.size
 have hnv:G.iv.ownBlock≠some G.TB:=fun e=>by
  have h1:=h.inn.2 _ e
  rw [h.tap.2] at h1
  simp at h1
 have hne:=hr.ne (Nat.lt_of_lt_of_le hTB hs0) hnv
 have hf:Fr w (w1.setCell ⟨G.TB,0,none⟩ v') (fun k=>k=G.TB∨some k=G.iv.ownBlock):=(((Fr.of_below hb _).trans hr.fr fun k _ e=>.inr e).trans (Fr.of_set w1 ⟨G.TB,0,none⟩ v') fun k _ e=>.inl e)
 have hm:∀ k,k<w.heap.size→(k=G.TB∨some k=G.iv.ownBlock)→G.R k=(2,0)∨G.R k=(3,0):=fun k _ e=>by
  rcases e with e | e
  ·exact .inl (e▸h.tap.2)
  ·exact .inr (h.inn.2 k e.symm)
 have hR:∀ k,k<w.heap.size→putRo G.R v'.ownBlock (3,0) k=G.R k:=putRo_old fun g hg=>by
  rcases hr.at_ with q | ⟨g',q,hg'⟩
  ·exact .inr (h.inn.2 g (q▸hg))
  ·rw [q] at hg;cases hg;exact .inl (by omega)
 have hsz:w.heap.size≤(w1.setCell ⟨G.TB,0,none⟩ v').heap.size:=hf.size
 have hge:∀ k,putRo G.R v'.ownBlock (3,0) k≠(0,0)→B≤k∧k<(w1.setCell ⟨G.TB,0,none⟩ v').heap.size:=putRo_ge h.ge hsz fun g hg=>⟨obg hr.own g hg,by have:=(hr.own.lt g hg).2;simpa using this⟩
 have hbx:BoxR (w1.setCell ⟨G.TB,0,none⟩ v') (putRo G.R v'.ownBlock (3,0)) (2,0) G.TB #[v',G.ov]:=
  ⟨((h.tap.1.below hb).fr hr.fr fun e=>hnv e.symm).set 0 v',by rw [pro hne];exact h.tap.2⟩
 have hrw:RowR (w1.setCell ⟨G.TB,0,none⟩ v') (putRo G.R v'.ownBlock (3,0)) (3,0) B 3 1 v' l'.length (l'.map (.int .i64)):=
  ⟨(Fr.of_set w1 ⟨G.TB,0,none⟩ v').own hr.own fun g hg e=>by have e':g=G.TB:=e;exact hne (e'▸hg),fun g hg=>prs hg⟩
 refine ⟨_,h.inpUpd hf hm hR hge hbx hrw,hf.mono fun k hk e=>?_,fun k hk=>?_,hR,fun _ _ _ e=>e,rfl,rfl,rfl,rfl,rfl⟩
 ·rcases hm k hk e with q | q
  ·exact .inl q
  ·exact .inr (.inl q)
 ·have hk2:=(h.ge k (by rw [hk];simp)).2
  exact (hR k hk2).trans hk
theorem StO.outStep {B:Nat} {w w0 w':World} {G:Gs} {σ:Mt} (h:StO B w G σ) (hb:Below w.heap.size w w0) {l':List Int} (ht:TpP B w0 G.TB 1 G.ov l' w'):∃ G',StS B w G w' G' { σ with out:=l' } tpS:=by
 obtain ⟨w1,v',hr,rfl⟩:=ht
 have hTB:=h.tap.1.lt
 have hs0:=hb.size
 have hnv:G.ov.ownBlock≠some G.TB:=fun e=>by
  have h1:=h.out.2 _ e
  rw [h.tap.2] at h1
  simp at h1
 have hne:=hr.ne (Nat.lt_of_lt_of_le hTB hs0) hnv
 have hf:Fr w (w1.setCell ⟨G.TB,1,none⟩ v') (fun k=>k=G.TB∨some k=G.ov.ownBlock):=(((Fr.of_below hb _).trans hr.fr fun k _ e=>.inr e).trans (Fr.of_set w1 ⟨G.TB,1,none⟩ v') fun k _ e=>.inl e)
 have hm:∀ k,k<w.heap.size→(k=G.TB∨some k=G.ov.ownBlock)→G.R k=(2,0)∨G.R k=(4,0):=fun k _ e=>by
  rcases e with e | e
  ·exact .inl (e▸h.tap.2)
  ·exact .inr (h.out.2 k e.symm)
 have hR:∀ k,k<w.heap.size→putRo G.R v'.ownBlock (4,0) k=G.R k:=putRo_old fun g hg=>by
  rcases hr.at_ with q | ⟨g',q,hg'⟩
  ·exact .inr (h.out.2 g (q▸hg))
  ·rw [q] at hg;cases hg;exact .inl (by omega)
 have hsz:w.heap.size≤(w1.setCell ⟨G.TB,1,none⟩ v').heap.size:=hf.size
 have hge:∀ k,putRo G.R v'.ownBlock (4,0) k≠(0,0)→B≤k∧k<(w1.setCell ⟨G.TB,1,none⟩ v').heap.size:=putRo_ge h.ge hsz fun g hg=>⟨obg hr.own g hg,by have:=(hr.own.lt g hg).2;simpa using this⟩
 have hbx:BoxR (w1.setCell ⟨G.TB,1,none⟩ v') (putRo G.R v'.ownBlock (4,0)) (2,0) G.TB #[G.iv,v']:=
  ⟨((h.tap.1.below hb).fr hr.fr fun e=>hnv e.symm).set 1 v',by rw [pro hne];exact h.tap.2⟩
 have hrw:RowR (w1.setCell ⟨G.TB,1,none⟩ v') (putRo G.R v'.ownBlock (4,0)) (4,0) B 3 1 v' l'.length (l'.map (.int .i64)):=
  ⟨(Fr.of_set w1 ⟨G.TB,1,none⟩ v').own hr.own fun g hg e=>by have e':g=G.TB:=e;exact hne (e'▸hg),fun g hg=>prs hg⟩
 refine ⟨_,h.outUpd hf hm hR hge hbx hrw,hf.mono fun k hk e=>?_,fun k hk=>?_,hR,fun _ _ _ e=>e,rfl,rfl,rfl,rfl,rfl⟩
 ·rcases hm k hk e with q | q
  ·exact .inl q
  ·exact .inr (.inr q)
 ·have hk2:=(h.ge k (by rw [hk];simp)).2
  exact (hR k hk2).trans hk
def UnreadP (B:Nat) (w:World) (G:Gs) (σ:Mt) (x:Int) (e:Ending) (w':World):Prop:=(4096≤σ.inp.length∧e=.returned (.int .i64 5)∧w=w')∨(σ.inp.length<4096∧e=.returned (.int .i64 0)∧∃ G',StS B w G w' G' { σ with inp:=x::σ.inp } tpS)
theorem unread_any {B:Nat} {w:World} {G:Gs} {σ:Mt} (h:StO B w G σ) (hB:B≤w.heap.size) (hl:σ.inp.length≤5000) (x:Int):Calls Tryz.prog 173 #[.pointer (some ⟨G.TB,0,none⟩),.int .i64 x] w (UnreadP B w G σ x):=by
 have hnv:G.iv.ownBlock≠some G.TB:=fun e=>by
  have h1:=h.inn.2 _ e
  rw [h.tap.2] at h1
  simp at h1
 have HI:=kp (tinsert_any h.inn.1 hB hl x h.tap.1 (j:=0) rfl hnv true)
 obtain ⟨A,c,hv,_,_⟩:=ofb h.inn.1
 have y0:w.cell? ⟨G.TB,0,none⟩=some (.slice A σ.inp.length c):=by rw [← hv];exact h.tap.1.cell rfl
 have hlt:=h.tap.1.lt
 have HG:=kp (fun e w' (hh:InsP B w G.TB 0 G.iv x σ.inp (x::σ.inp) e w')=>show UnreadP B w G σ x e w' from hh.imp id fun q=>⟨q.1,q.2.1,h.inpStep (blb w _) q.2.2⟩)
 have HI2:=kp (show Calls Tryz.prog 194 #[.pointer (some ⟨G.TB,0,none⟩),.int .i64 0,.int .i64 x] w (InsP B w G.TB 0 G.iv x σ.inp (x::σ.inp)) from HI.out)
 clear h hnv hv HI
 go_enter Tryz.func173,Tryz.ntmps173
 go_wp2_with fail
 refine HI2.out.mono ?_
 rintro e w1 h1
 have HZ:=kp (HG.out e w1 h1)
 clear h1
 rcases HZ.out with ⟨q1,rfl,q2⟩ | ⟨q1,rfl,q2⟩
 ·clear q1 q2
  go_wp2_with fail
  go_ret
  exact HZ.out
 ·clear q1 q2
  go_wp2_with fail
  go_ret
  exact HZ.out
def WriteP (B:Nat) (w:World) (G:Gs) (σ:Mt) (x:Int) (e:Ending) (w':World):Prop:=(4096≤σ.out.length∧e=.returned (.int .i64 5)∧w.drew=w')∨(σ.out.length<4096∧e=.returned (.int .i64 0)∧∃ G',StS B w G w' G' { σ with out:=σ.out++[x] } tpS)
theorem write_any {B:Nat} {w:World} {G:Gs} {σ:Mt} (h:StO B w G σ) (hB:B≤w.heap.size) (hl:σ.out.length≤5000) (x:Int):Calls Tryz.prog 175 #[.pointer (some ⟨G.TB,0,none⟩),.int .i64 x] w (WriteP B w G σ x):=by
 have hnv:G.ov.ownBlock≠some G.TB:=fun e=>by
  have h1:=h.out.2 _ e
  rw [h.tap.2] at h1
  simp at h1
 have hD:=h.below (bld (Below.refl w.heap.size w))
 have HI:=kp (tinsert_any hD.out.1 hB hl x hD.tap.1 (j:=1) rfl hnv false)
 obtain ⟨A,c,hv,_,_⟩:=ofb h.out.1
 have y0:w.cell? ⟨G.TB,1,none⟩=some (.slice A σ.out.length c):=by rw [← hv];exact h.tap.1.cell rfl
 have hlt:=h.tap.1.lt
 have HG:=kp (fun e w' (hh:InsP B w.drew G.TB 1 G.ov x σ.out (σ.out++[x]) e w')=>show WriteP B w G σ x e w' from hh.imp (fun q=>⟨q.1,q.2.1,q.2.2⟩) fun q=>⟨q.1,q.2.1,h.outStep (bls (bld (Below.refl _ _)) (Nat.le_refl _) (blb w.drew _)) q.2.2⟩)
 have HI2:=kp (show Calls Tryz.prog 194 #[.pointer (some ⟨G.TB,1,none⟩),.int .i64 σ.out.length,.int .i64 x] w.drew (InsP B w.drew G.TB 1 G.ov x σ.out (σ.out++[x])) from HI.out)
 clear h hD hnv hv HI
 go_enter Tryz.func175,Tryz.ntmps175
 go_upto_region 3 with fail
 go_region_law (first
  | (go_simp;go_at_call 194;(with_reducible refine Calls.mono HI2.out ?_);rintro e w1 h1;have HZ:=kp (HG.out e w1 h1);obtain ⟨er,he⟩:∃ er,e=.returned (.int .i64 er):=(by rcases HZ.out with ⟨_,q,_⟩ | ⟨_,q,_⟩;exact ⟨_,q⟩;exact ⟨_,q⟩);subst he;clear h1;dsimp only)
  | fail)
 all_goals
  go_wp2_with fail
  go_ret
  exact HZ.out
def ReadP (B:Nat) (w:World) (G:Gs) (σ:Mt) (e:Ending) (w':World):Prop:=(σ.inp.head?=none∧e=.returned (.tuple #[.int .i64 0,.int .i64 17])∧w=w')∨∃ x,σ.inp.head?=some x∧e=.returned (.tuple #[.int .i64 x,.int .i64 0])∧∃ G',StS B w G w' G' { σ with inp:=σ.inp.tail } tpS
theorem read_any {B:Nat} {w:World} {G:Gs} {σ:Mt} (h:StO B w G σ) (hl:σ.inp.length≤5000):Calls Tryz.prog 172 #[.pointer (some ⟨G.TB,0,none⟩)] w (ReadP B w G σ):=by
 have hnv:G.iv.ownBlock≠some G.TB:=fun e=>by
  have h1:=h.inn.2 _ e
  rw [h.tap.2] at h1
  simp at h1
 have HI:=kp (tremove_any h.inn.1 hl h.tap.1 (j:=0) rfl hnv true)
 obtain ⟨A,c,hv,_,_⟩:=ofb h.inn.1
 have y0:w.cell? ⟨G.TB,0,none⟩=some (.slice A σ.inp.length c):=by rw [← hv];exact h.tap.1.cell rfl
 have hlt:=h.tap.1.lt
 have HG:=kp (fun e w' (hh:RemP B w G.TB 0 G.iv true σ.inp e w')=>show ReadP B w G σ e w' from by
  rcases hh with ⟨q1,q2,q3⟩ | ⟨x,q1,q2,q3⟩
  ·exact .inl ⟨by rw [q1];rfl,q2,q3⟩
  ·exact .inr ⟨x,q1,q2,h.inpStep (Below.refl _ _) q3⟩)
 have HI2:=kp (show Calls Tryz.prog 193 #[.pointer (some ⟨G.TB,0,none⟩),.int .i64 0] w (RemP B w G.TB 0 G.iv true σ.inp) from HI.out)
 clear h hnv hv HI
 go_enter Tryz.func172,Tryz.ntmps172
 go_wp2_with fail
 refine HI2.out.mono ?_
 rintro e w1 h1
 have HZ:=kp (HG.out e w1 h1)
 clear h1
 rcases HZ.out with ⟨q1,rfl,q2⟩ | ⟨x,q1,rfl,q2⟩
 ·clear q1 q2
  go_wp2_with fail
  go_ret2
  exact HZ.out
 ·clear q1 q2
  go_wp2_with fail
  go_ret2
  exact HZ.out
def UnwriteP (B:Nat) (w:World) (G:Gs) (σ:Mt) (e:Ending) (w':World):Prop:=(σ.out.getLast?=none∧e=.returned (.tuple #[.int .i64 0,.int .i64 17])∧w.drew=w')∨∃ x,σ.out.getLast?=some x∧e=.returned (.tuple #[.int .i64 x,.int .i64 0])∧∃ G',StS B w G w' G' { σ with out:=σ.out.dropLast } tpS
theorem unwrite_any {B:Nat} {w:World} {G:Gs} {σ:Mt} (h:StO B w G σ) (hl:σ.out.length≤5000):Calls Tryz.prog 174 #[.pointer (some ⟨G.TB,0,none⟩)] w (UnwriteP B w G σ):=by
 have hnv:G.ov.ownBlock≠some G.TB:=fun e=>by
  have h1:=h.out.2 _ e
  rw [h.tap.2] at h1
  simp at h1
 have hD:=h.below (bld (Below.refl w.heap.size w))
 have HI:=kp (tremove_any hD.out.1 hl hD.tap.1 (j:=1) rfl hnv false)
 obtain ⟨A,c,hv,_,_⟩:=ofb h.out.1
 have y0:w.cell? ⟨G.TB,1,none⟩=some (.slice A σ.out.length c):=by rw [← hv];exact h.tap.1.cell rfl
 have hlt:=h.tap.1.lt
 have HG:=kp (fun e w' (hh:RemP B w.drew G.TB 1 G.ov false σ.out e w')=>show UnwriteP B w G σ e w' from by
  rcases hh with ⟨q1,q2,q3⟩ | ⟨x,q1,q2,q3⟩
  ·exact .inl ⟨by rw [q1];rfl,q2,q3⟩
  ·exact .inr ⟨x,q1,q2,h.outStep (bld (Below.refl _ _)) q3⟩)
 have HI2:=kp (show Calls Tryz.prog 193 #[.pointer (some ⟨G.TB,1,none⟩),.int .i64 ((σ.out.length:Int) - 1)] w.drew (RemP B w.drew G.TB 1 G.ov false σ.out) from HI.out)
 have hwp:IntKind.i64.wrap ((σ.out.length:Int) - 1)=(σ.out.length:Int) - 1:=by rw [IntKind.wrap_i64]<;>omega
 clear h hD hnv hv HI
 go_enter Tryz.func174,Tryz.ntmps174
 go_upto_region 3 with fail
 go_region_law (first
  | (go_simp;go_at_call 193;(with_reducible refine Calls.mono HI2.out ?_);rintro e w1 h1;have HZ:=kp (HG.out e w1 h1);obtain ⟨a,er,he⟩:∃ a er,e=.returned (.tuple #[.int .i64 a,.int .i64 er]):=(by rcases HZ.out with ⟨_,q,_⟩ | ⟨x,_,q,_⟩;exact ⟨_,_,q⟩;exact ⟨_,_,q⟩);subst he;clear h1;dsimp only)
  | fail)
 all_goals
  go_wp2_with fail
  go_ret2
  exact HZ.out
theorem lk_of {B:Nat} {G:Gs} {σ:Mt} {f:Fm} (hf:G.fs[G.fs.length - 1]?=some f) (hl:∀ c∈σ.mem,c.length≤100000):LookC 155 G.SB (look f.env σ.mem) (fun W=>StO B W G σ) where
 ent:=fun args w=>by kernel_rfl
 keep:=fun _ _ h hb=>h.below hb
 call:=fun s w h=>by
  refine (lookup_any h hf s).mono ?_
  rintro e w' ⟨h1,rfl⟩
  refine ⟨?_,Below.refl _ _⟩
  revert h1
  cases look f.env σ.mem s with
  | none=>exact fun h1=>⟨none,0,0,h1⟩
  | some l=>exact fun h1=>h1
 len:=fun s l h=>by
  unfold look at h
  cases hE:findE f.env s with
  | none=>rw [hE] at h;cases h
  | some e=>
    rw [hE] at h
    exact hl l (List.mem_of_getElem? (by simpa using h))
theorem cell_any {B:Nat} {w:World} {G:Gs} {σ:Mt} (h:StO B w G σ) {f:Fm} (hf:G.fs[G.fs.length - 1]?=some f) {s:ByteArray} {e:Ev} (hE:findE f.env s=some e) {b:Nat} (hb:G.cb[e.c]?=some b) :
  Calls Tryz.prog 156 #[.pointer (some ⟨G.SB,0,none⟩),.string s] w fun e w'=>e=.returned (.pointer (some ⟨b,0,none⟩))∧Below w.heap.size w w':=by
 obtain ⟨fb,fo,f',hc⟩:=h.cur
 obtain rfl:f'=f:=Option.some.inj (hc.last.symm.trans hf)
 have HCU:=kp (current_any h hc)
 obtain ⟨A,c,ev,hv,hlen,A2,c2,ec,hcs⟩:=h.flen hf
 have y0:=hc.loc.c0
 have y1:=hc.loc.c1
 rw [ev] at y0
 rw [ec] at y1
 have HFI:=kp (fun (Y:World) (hY:Below w.heap.size w Y)=>show Calls Tryz.prog 135 #[.pointer (some ⟨fb,fo,none⟩),.string s] Y fun e w'=>e=.returned (.int .i64 (fidx (f'.env.map (·.v)) s))∧Y=w' from by
  refine ffind_any (f'.env.map (·.v)) (by rw [List.length_map];exact hlen) s fb fo A c Y ?_ (hv.mono hY)
  rw [List.length_map];exact blc hY y0)
 have hlb:=hc.loc.lt
 rcases fidx_E f'.env s with ⟨hx,hE0⟩ | ⟨i,e',hx,hi,hE0⟩
 ·rw [hE0] at hE;cases hE
 ·obtain rfl:e'=e:=Option.some.inj (hE0.symm.trans hE)
  have hil:i<f'.env.length:=(List.getElem?_eq_some_iff.1 hi).1
  obtain ⟨b2,o2,rfl,hp⟩:=hcs i (.pointer (some ⟨b,0,none⟩)) (by unfold ptrs;rw [List.getElem?_map,hi];simp [hb])
  have hlb2:=block_lt_of_cell hp
  have r0:(0:Int)≤i:=by omega
  have r1:(i:Int)<f'.env.length:=by omega
  have r2:¬ (i:Int)<0:=by omega
  rw [hx] at HFI
  clear hx hE h hc hcs hv ev ec hf hi hb hE0
  go_enter Tryz.func156,Tryz.ntmps156
  go_wp2_with fail
  refine HCU.out.mono ?_
  rintro e w1 ⟨rfl,rfl⟩
  go_upto_region 2 with fail
  go_quiet ((go_at_call 135;first | exact Calls.quiet_of_same ((HFI.out _ (bdn (Below.refl _ _) _)).mono fun _ _ h=>⟨h.1,h.2.symm⟩) | exact quiet_add_same ((HFI.out _ (bdn (Below.refl _ _) _)).mono fun _ _ h=>⟨h.1,h.2.symm⟩)))
  go_wp2_with fail
  go_ret
  exact ⟨rfl,bdn (Below.refl _ _) _⟩
theorem own_set1 {w:World} {B g n j:Nat} {e:TypeId} {v u:Value} {xs:List Value} (h:w.ownsRow B e 1 v n xs) (hg:v.ownBlock=some g):(w.setCell ⟨g,j,none⟩ u).ownsRow B e 1 v n (xs.set j u):=by
 rcases id h.2 with ⟨hv,_⟩ | ⟨g',cap,cur,hv,hB,hh,hn,hc,h1,h2⟩
 ·rw [hv] at hg;cases hg
 ·obtain rfl:g'=g:=by rw [hv] at hg;cases hg;rfl
  rw [hv]
  have hx:xs.length=n:=by have:=h.1;omega
  refine own_of_cells hB (row_setCell hh j u) (by simp;omega) hn hc (by rw [List.length_set];exact hx) fun i y hy=>?_
  by_cases hij:i=j
  ·subst hij
   have hi:i<xs.length:=by
    have:=(List.getElem?_eq_some_iff.1 hy).1
    rw [List.length_set] at this;exact this
   rw [List.getElem?_set_self hi] at hy
   cases hy
   have hsz:i<cur.size:=by omega
   simp [World.cell?,row_setCell hh,hsz]
  ·rw [List.getElem?_set_ne (Ne.symm hij)] at hy
   have:=h.cells (g:=g') (by rw [hv];rfl) i y hy
   rw [add0] at this
   simp only [World.cell?,hh] at this
   simp only [World.cell?,row_setCell hh]
   rw [Array.getElem?_setIfInBounds_ne (Ne.symm hij)]
   exact this
theorem StO.slot {B:Nat} {w:World} {G:Gs} {σ:Mt} (h:StO B w G σ) {c:Nat} {l:List Int} (hc:σ.mem[c]?=some l):∃ b v,G.cb[c]?=some b∧G.it[c]?=some v∧BoxR w G.R (8,c) b #[v]∧RowR w G.R (9,c) B 3 1 v l.length (l.map (.int .i64)):=by
 have hlt:=(List.getElem?_eq_some_iff.1 hc).1
 have hb:c<G.cb.length:=by rw [h.lcb];exact hlt
 obtain ⟨v,hv,hbx⟩:=h.cel c _ (List.getElem?_eq_getElem hb)
 obtain ⟨v',hv',hr⟩:=h.itm c _ hc
 rw [hv] at hv'
 cases hv'
 exact ⟨_,_,List.getElem?_eq_getElem hb,hv,hbx,hr⟩
def anyS (r:Ro):Prop:=r≠(0,0)∧r≠(10,0)
theorem StO.place {B:Nat} {w:World} {G:Gs} {σ:Mt} (h:StO B w G σ) {c i g:Nat} {l:List Int} (hc:σ.mem[c]?=some l) {v:Value} (hv:G.it[c]?=some v) (hg:v.ownBlock=some g) (x:Int) :
  StS B w G (w.setCell ⟨g,i,none⟩ (.int .i64 x)) G { σ with mem:=setM σ.mem (c,i) x } (fun r=>r=(9,c)):=by
 obtain ⟨b,v',hb,hv',hbx,hrw⟩:=h.slot hc
 obtain rfl:v'=v:=Option.some.inj (hv'.symm.trans hv)
 have hf:=Fr.of_set w ⟨g,i,none⟩ (.int .i64 x)
 have hgR:=hrw.2 g hg
 have hne:b≠g:=fun e=>by subst e;rw [hbx.2] at hgR;simp at hgR
 have hu:=h.cellUpd hf (c:=c) (fun k _ e=>.inr (by rw [show k=g from e];exact hgR)) (R':=G.R) (fun _ _=>rfl) (fun k hk=>⟨(h.ge k hk).1,Nat.lt_of_lt_of_le (h.ge k hk).2 hf.size⟩) hb
  (v':=v') (l':=l.set i x) ⟨hbx.1.fr hf (fun e=>hne e),hbx.2⟩ ⟨by
   have:=own_set1 (j:=i) (u:=.int .i64 x) hrw.1 hg
   rw [List.length_set,List.map_set];exact this,hrw.2⟩
 have hs:G.it.set c v'=G.it:=by
  apply List.ext_getElem?
  intro j
  by_cases e:j=c
  ·subst e;rw [List.getElem?_set_self (List.getElem?_eq_some_iff.1 hv).1,hv]
  ·rw [List.getElem?_set_ne (Ne.symm e)]
 have hm:setM σ.mem (c,i) x=σ.mem.set c (l.set i x):=by unfold setM;rw [hc];rfl
 refine ⟨?_,hf.mono fun k hk e=>?_,fun _ e=>e,fun _ _=>rfl,fun _ _ _ e=>e,rfl,rfl,rfl,rfl,rfl⟩
 ·rw [hm]
  have e:({ G with it:=G.it.set c v',R:=G.R }:Gs)=G:=by rw [hs]
  rw [e] at hu
  exact hu
 ·have e':k=g:=e
  rw [e',hgR]
end Go.Proofs.YtgbomnibedefoaaGreatDoor
