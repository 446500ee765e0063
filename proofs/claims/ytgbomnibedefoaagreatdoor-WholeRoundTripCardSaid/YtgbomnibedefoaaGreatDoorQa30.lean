import Derived.RangeFuncKeeps
import Derived.Test.YtgbomnibedefoaaGreatDoorQa29
set_option maxRecDepth 100000
set_option maxHeartbeats 8000000
namespace Go.Proofs.YtgbomnibedefoaaGreatDoor
open Go.ChangeShapes Go.WideShapes Go.ChangeAt Go.RowKit Go.Sort
def RngD (D:Nat) (I:WI):Prop:=∀ (X X':Nat→Prop) (pre:List Nd) (A B:World),I X pre A→Fr A B (fun k=>X k∨k=D∨k=D+1)→(∀ k,X k→X' k)→(∀ k,X' k→X k∨(A.heap.size≤k∧k<B.heap.size))→I X' pre B
def RndF (D:Nat) (X:Nat→Prop) (W W':World):Prop:=Fr W W' (fun k=>¬ X k∧k≠D∧k≠D+1)
def rndPost (D:Nat) (I:WI) (Ix:Code→List Nd→World→Prop) (X:Nat→Prop) (xs:List Nd) (W:World):Exit→Act→World→Prop
 | .normal,_,W'=>RndF D X W W'∧I X xs W'
 | .ret,_,W'=>RndF D X W W'∧Ix .ret xs W'
 | .exit id,_,W'=>RndF D X W W'∧Ix (.exit id) xs W'
 | .goto t,_,W'=>RndF D X W W'∧Ix (.goto t) xs W'
 | .panic _,_,_=>False
 | .outgrown,_,_=>False
theorem fr_put (W:World) (r:Nat) (o:Obj):Fr W (W.putObj r o) (fun k=>k=r):=⟨rfl,rfl,rfl,by simp,fun k _ h=>World.putObj_heap_other h⟩
theorem NdO.kept {W W':World} (hk:∀ a v,W.cell? a=some v→W'.cell? a=some v) {b o:Nat} {x:Nd} (h:NdO W b o x):NdO W' b o x:=by
 induction h with
 | mk c0 c1 c2 c3 hA _ ih=>exact .mk (hk _ _ c0) (hk _ _ c1) (hk _ _ c2) (hk _ _ c3) hA ih
theorem NdsAt.kept {W W':World} {A:Option Addr} {l:List Nd} (h:NdsAt W A l) (hk:∀ a v,W.cell? a=some v→W'.cell? a=some v):NdsAt W' A l:=fun k x hx=>by
 obtain ⟨b,o,e,hi⟩:=h k x hx
 exact ⟨b,o,e,hi.kept hk⟩
theorem cell_put {W:World} {r:Nat} {lp:Loop} (h:W.heap[r]?=some (.loop lp)) (o:Obj) (a:Addr) (v:Value) (hc:W.cell? a=some v):(W.putObj r o).cell? a=some v:=by
 have hn:a.block≠r:=fun e=>by
  simp only [World.cell?,e,h] at hc
  cases hc
 simp only [World.cell?,World.putObj_heap_other hn] at hc ⊢
 exact hc
theorem wpIn_rangeWalk {g:Operand} {ps:Array Tmp} {assign body:Code} {Q:Exit→Act→World→Prop} {a:Act} {w:World} {Bt lo:Nat} {x:Nd} {A:Option Addr} {cap:Nat}
  (hps:ps.size=2) (hg:a.eval g=.func (.func 121) #[] #[.pointer (some ⟨Bt,0,none⟩)])
  (hx:szT x≤100000) (hd:dpT x≤1000) (hb:Bx w Bt (ndC x A cap)) (hbt:lo≤Bt) (hD:NdsD w lo w.heap.size A x.kids)
  (I:WI) (Ix:Code→List Nd→World→Prop) (hI:RngD w.heap.size I) (hIx:∀ c xs A B,Ix c xs A→Fr A B (fun k=>k=w.heap.size∨k=w.heap.size+1)→Ix c xs B) (h0:I (fun k=>lo≤k∧k<w.heap.size) [] w)
  (hround:∀ (X:Nat→Prop) (pre:List Nd) (y:Nd) (Ay:Option Addr) (cy:Nat) (Ap:Option Addr) (np cp:Nat) (W:World),I X pre W→NdsAt W Ay y.kids→y.kids.length≤cy→pre++[y] <+: preT x→(∀ k,X k→k<W.heap.size)→w.heap.size+1<W.heap.size→
   assign.wpIn (Fence.wide.inRound (w.heap.size+1)) 0 Tryz.prog (Exit.then (fun a1 W1=>Below W.heap.size W W1∧∀ W2,Fr W1 W2 (fun k=>k=w.heap.size+1)→W2.heap.size=W1.heap.size→I X pre W2→NdsAt W2 Ay y.kids→body.wpIn (Fence.wide.inRound (w.heap.size+1)) 0 Tryz.prog (rndPost w.heap.size I Ix X (pre++[y]) W2) a1 W2) (fun _ _ _=>False)) { tmps:=(ps.zip #[.slice Ap np cp,.agg (ndC y Ay cy)]).foldl (fun t (p,v)=>t.setIfInBounds p v) a.tmps,defers:=[] } W)
  (hdone:∀ (X:Nat→Prop) (W:World),I X (preT x) W→W.heap[w.heap.size]?=some (.deferred (some []))→Q .normal { a with defers:={ target:=.collected w.heap.size,args:=#[] }::a.defers } W)
  (hstop:∀ (c:Code) (q:List Nd) (W:World),q <+: preT x→Ix c q W→W.heap[w.heap.size]?=some (.deferred (some []))→c.wpIn Fence.wide 0 Tryz.prog Q { a with defers:={ target:=.collected w.heap.size,args:=#[] }::a.defers } W) :
  (Code.rangeFunc g ps assign body).wpIn Fence.wide 0 Tryz.prog Q a w:=by
 refine wpIn_rangeFunc ?_
 intro fn hfn
 obtain ⟨rec,hrec⟩:∃ rec:LoopState→Option Code→Loop,rec=fun st pe=>{ state:=st,pending:=pe,fn,tmps:=a.tmps,params:=ps,assign,body,defers:=w.heap.size }:=⟨_,rfl⟩
 obtain ⟨W1,hW1⟩:∃ W1,(w.alloc (.deferred (some []))).alloc (.loop (rec .ready none))=W1:=⟨_,rfl⟩
 have hz1:W1.heap.size=w.heap.size+2:=by rw [← hW1];simp
 have hL1:W1.heap[w.heap.size+1]?=some (.loop (rec .ready none)):=by
  rw [← hW1];have:=World.alloc_heap_new (w.alloc (.deferred (some []))) (.loop (rec .ready none));rwa [World.size_alloc] at this
 have hK1:W1.heap[w.heap.size]?=some (.deferred (some [])):=by
  rw [← hW1];exact (Below.heap_alloc _ _ _ (by simp)).trans (World.alloc_heap_new w _)
 have hb1:Below w.heap.size w W1:=by
  rw [← hW1];exact ((Below.refl _ w).alloc (Nat.le_refl _) _).alloc (by simp) _
 have hX0:∀ k:Nat,(lo≤k∧k<w.heap.size)→(lo≤k∧k<w.heap.size):=fun _ h=>h
 have hI1:I (fun k=>lo≤k∧k<w.heap.size) [] W1:=hI _ _ _ _ _ h0 (Fr.of_below hb1 _) hX0 (fun _ h=>.inl h)
 refine ⟨w.heap.size+1,[{ target:=.collected w.heap.size,args:=#[] }],W1,{ target:=.fn (.func 121) #[.pointer (some ⟨Bt,0,none⟩)],args:=#[.func (.yield (w.heap.size+1)) #[] #[]] },W1,121,
  #[.func (.yield (w.heap.size+1)) #[] #[],.pointer (some ⟨Bt,0,none⟩)],W1,?_,?_,?_,?_,(fun h=>by cases h),?_⟩
 ·rw [← hW1,hrec];exact run_enterLoop_outer _ _ _ _ _
 ·simp only [resolve,hg]
  simp [go_sem]
 ·intro f' hf';trivial
 ·simp [invoke,go_sem]
 ·refine callsIn_wide.2 ?_
  refine (walk1_any (l:=w.heap.size+1) (lo:=lo) (hi:=w.heap.size) (W0:=w)
   (J:=fun X pre W=>I X pre W∧W.heap[w.heap.size+1]?=some (.loop (rec .ready none))∧W.heap[w.heap.size]?=some (.deferred (some []))∧¬ X (w.heap.size+1)∧¬ X w.heap.size)
   (Jx:=fun pre W=>∃ c,Ix c pre W∧W.heap[w.heap.size+1]?=some (.loop (rec .done (some c)))∧W.heap[w.heap.size]?=some (.deferred (some [])))
   ?_ ?_ hx hd ⟨hI1,hL1,hK1,by omega,by omega⟩ (fun k _ h=>hb1.block k h) hb1.size hb ⟨hbt,hb.lt⟩ hD).mono ?_
  ·-- the iterator's own steps
   rintro X X' pre A B ⟨hi,hl,hk,hn1,hn2⟩ hf h1 h2
   have hll:=(Array.getElem?_eq_some_iff.1 hl).1
   refine ⟨hI X X' pre A B hi (hf.mono fun k _ e=>.inl e) h1 h2,(hf.block _ hll hn1).trans hl,(hf.block _ (by omega) hn2).trans hk,fun e=>?_,fun e=>?_⟩
   ·rcases h2 _ e with e | e
    ·exact hn1 e
    ·omega
   ·rcases h2 _ e with e | e
    ·exact hn2 e
    ·omega
  ·-- one round
   rintro X pre y Ay cy Ap np cp W ⟨hi,hl,hk,hn1,hn2⟩ hXl hKy hcy hpr
   have hlt:w.heap.size+1<W.heap.size:=(Array.getElem?_eq_some_iff.1 hl).1
   have hy:=run_yield (P:=Tryz.prog) (args:=#[.slice Ap np cp,.agg (ndC y Ay cy)]) hl (by rw [hrec];simp [hps])
   rw [hrec] at hy
   refine ⟨fn,_,assign,body,hy,roundIn_of_wpIn hfn (wpIn_mono (hround X pre y Ay cy Ap np cp W hi hKy hcy hpr hXl hlt) ?_)⟩
   rintro e1 a1 W1 hq1
   cases e1 with
   | exit id=>exact hq1.elim
   | goto t=>exact hq1.elim
   | ret=>exact hq1.elim
   | panic ch=>exact hq1.elim
   | outgrown=>exact hq1.elim
   | normal=>
   obtain ⟨hB1,hq1⟩:=hq1
   have hlt1:w.heap.size+1<W1.heap.size:=Nat.lt_of_lt_of_le hlt hB1.size
   have hl1:=(hB1.block _ hlt).trans hl
   have hk1:=(hB1.block _ (by omega)).trans hk
   refine ⟨_,run_beginRound hl1 (by rw [hrec]),?_⟩
   have hp2:=fr_put W1 (w.heap.size+1) (.loop { rec .ready none with state:=.busy })
   have hl2:(W1.putObj (w.heap.size+1) (.loop { rec .ready none with state:=.busy })).heap[w.heap.size+1]?=some (.loop { rec .ready none with state:=.busy }):=World.putObj_heap_same hlt1
   have hk2:(W1.putObj (w.heap.size+1) (.loop { rec .ready none with state:=.busy })).heap[w.heap.size]?=some (.deferred (some [])):=(World.putObj_heap_other (by omega)).trans hk1
   have hi2:=hI X X pre _ _ hi (((Fr.of_below hB1 _).trans hp2 fun _ _ e=>e).mono fun k _ e=>.inr (.inr e)) (fun _ h=>h) (fun _ h=>.inl h)
   refine wpIn_mono (hq1 _ hp2 World.putObj_size hi2 ((hKy.mono hB1).kept (cell_put hl1 _))) ?_
   have fin:∀ (jump:Option Code) (W3:World),RndF w.heap.size X (W1.putObj (w.heap.size+1) (.loop { rec .ready none with state:=.busy })) W3→
     (Instr.endRound (w.heap.size+1) jump).run Tryz.prog W3=.ok (.bool jump.isNone) (W3.putObj (w.heap.size+1) (.loop (rec (if jump.isNone then .ready else .done) jump)))∧
     (W3.putObj (w.heap.size+1) (.loop (rec (if jump.isNone then .ready else .done) jump))).heap[w.heap.size+1]?=some (.loop (rec (if jump.isNone then .ready else .done) jump))∧
     (W3.putObj (w.heap.size+1) (.loop (rec (if jump.isNone then .ready else .done) jump))).heap[w.heap.size]?=some (.deferred (some [])):=fun jump W3 hf3=>by
    have hl3:=(hf3.block _ (by rw [World.putObj_size];exact hlt1) (fun e=>e.2.2 rfl)).trans hl2
    have hk3:=(hf3.block _ (by rw [World.putObj_size];omega) (fun e=>e.2.1 rfl)).trans hk2
    have:=run_endRound (P:=Tryz.prog) jump hl3
    rw [hrec] at this ⊢
    exact ⟨this,World.putObj_heap_same (Array.getElem?_eq_some_iff.1 hl3).1,(World.putObj_heap_other (by omega)).trans hk3⟩
   rintro e a3 W3 hp
   cases e with
   | normal=>
     obtain ⟨hf3,hi3⟩:=hp
     obtain ⟨hr,hl4,hk4⟩:=fin none W3 hf3
     have hp4:=fr_put W3 (w.heap.size+1) (.loop (rec .ready none))
     refine ⟨_,_,hr,.inl ⟨rfl,⟨hI X X _ _ _ hi3 (hp4.mono fun k _ e=>.inr (.inr e)) (fun _ h=>h) (fun _ h=>.inl h),hl4,hk4,hn1,hn2⟩,?_⟩⟩
     refine (((Fr.of_below hB1 _).trans hp2 fun k _ e=>?_).trans hf3 fun k _ e=>e.1).trans hp4 fun k _ e=>?_
     ·rw [show k=w.heap.size+1 from e];exact hn1
     ·rw [show k=w.heap.size+1 from e];exact hn1
   | ret=>
     obtain ⟨hf3,hi3⟩:=hp
     obtain ⟨hr,hl4,hk4⟩:=fin (some .ret) W3 hf3
     exact ⟨_,_,hr,.inr ⟨rfl,.ret,hIx _ _ _ _ hi3 ((fr_put W3 _ _).mono fun k _ e=>.inr e),hl4,hk4⟩⟩
   | exit id=>
     obtain ⟨hf3,hi3⟩:=hp
     obtain ⟨hr,hl4,hk4⟩:=fin (some (.exit id)) W3 hf3
     exact ⟨_,_,hr,.inr ⟨rfl,.exit id,hIx _ _ _ _ hi3 ((fr_put W3 _ _).mono fun k _ e=>.inr e),hl4,hk4⟩⟩
   | goto t=>
     obtain ⟨hf3,hi3⟩:=hp
     obtain ⟨hr,hl4,hk4⟩:=fin (some (.goto t)) W3 hf3
     exact ⟨_,_,hr,.inr ⟨rfl,.goto t,hIx _ _ _ _ hi3 ((fr_put W3 _ _).mono fun k _ e=>.inr e),hl4,hk4⟩⟩
   | panic ch=>exact hp.elim
   | outgrown=>exact hp.elim
  ·rintro e W2 ⟨⟨v,rfl⟩,(⟨X,hi,hl,hk,hn1,hn2⟩ | ⟨q,hq,c,hi,hl,hk⟩)⟩
   ·exact ⟨none,_,by have:=run_endLoop (P:=Tryz.prog) hl (by rw [hrec];simp);rw [hrec] at this;exact this,hdone X _ (hI X X _ _ _ hi ((fr_put W2 _ _).mono fun k _ e=>.inr (.inr e)) (fun _ h=>h) (fun _ h=>.inl h)) ((World.putObj_heap_other (by omega)).trans hk)⟩
   ·exact ⟨some c,_,by have:=run_endLoop (P:=Tryz.prog) hl (by rw [hrec];simp);rw [hrec] at this;exact this,hstop c q _ hq (hIx _ _ _ _ hi ((fr_put W2 _ _).mono fun k _ e=>.inr e)) ((World.putObj_heap_other (by omega)).trans hk)⟩
def menB (s:ByteArray) (y:Nd):Bool:=varK y.kind&&decide (y.name=s)
mutual
theorem ment_any (s:ByteArray):∀ x:Nd,mentT s x=(preT x).any (menB s)
 | .mk k nu nm kids=>by rw [mentT,preT,List.any_cons,mentL_any s kids];rfl
theorem mentL_any (s:ByteArray):∀ l:List Nd,mentTL s l=(preTL l).any (menB s)
 | []=>by rw [mentTL,preTL];rfl
 | x::r=>by rw [mentTL,preTL,List.any_append,ment_any s x,mentL_any s r]
end
def MenI (w0:World) (n1 B3 B4:Nat) (s:ByteArray):WI:=fun X pre W=>(Below w0.heap.size w0 W∧n1≤W.heap.size)∧(∀ k,X k→n1≤k)∧Bx W B3 #[.string s]∧Bx W B4 #[.bool false]∧pre.any (menB s)=false
def MenX (w0:World) (B4:Nat) (s:ByteArray):Code→List Nd→World→Prop:=fun c pre W=>c=.ret∧Below w0.heap.size w0 W∧Bx W B4 #[.bool true]∧pre.any (menB s)=true
theorem MenI.rng {w0:World} {n1 B3 B4 D:Nat} {s:ByteArray} (h0:w0.heap.size≤n1) (h3:B3<n1) (h4:B4<n1) (hD:n1≤D):RngD D (MenI w0 n1 B3 B4 s):=by
 rintro X X' pre A B ⟨⟨a,a2⟩,b,c,d,e⟩ hf h1 h2
 have q:∀ k,(X k∨k=D∨k=D+1)→n1≤k:=fun k h=>by
  rcases h with h | h | h
  ·exact b k h
  ·omega
  ·omega
 refine ⟨⟨hf.toBelow a a.size fun k h=>Nat.le_trans h0 (q k h),Nat.le_trans a2 hf.size⟩,fun k h=>?_,c.fr hf fun h=>?_,d.fr hf fun h=>?_,e⟩
 ·rcases h2 k h with h | h
  ·exact b k h
  ·omega
 ·have:=q _ h;omega
 ·have:=q _ h;omega
theorem MenX.fr {w0:World} {n1 B4 D:Nat} {s:ByteArray} (h4:B4<n1) (h0:w0.heap.size≤n1) (hD:n1≤D):∀ c xs A B,MenX w0 B4 s c xs A→Fr A B (fun k=>k=D∨k=D+1)→MenX w0 B4 s c xs B:=by
 rintro c xs A B ⟨a,b,d,e⟩ hf
 exact ⟨a,hf.toBelow b b.size fun k h=>by omega,d.fr hf fun h=>by omega,e⟩
theorem leave_mark {fn:Func} {R:Ending→World→Prop} {tmps:Array Value} {W:World} {D:Nat} {v:Value} (hK:W.heap[D]?=some (.deferred (some []))) (hr:(results fn tmps).run Tryz.prog (W.putObj D (.deferred none))=.ok v (W.putObj D (.deferred none))) (h:R (.returned v) (W.putObj D (.deferred none))):bodyPostM Fence.wide 0 Tryz.prog fn R .ret { tmps:=tmps,defers:=[{ target:=.collected D,args:=#[] }] } W:=
 ⟨by simp,.inl ⟨_,_,rfl,run_takeDeferred hK,⟨v,hr,h⟩⟩⟩
theorem three_cells (w:World) (c1 c2 c3:Array Value) (T1 T2 T3:TypeId):Below w.heap.size w (((w.alloc (.cells c1 T1)).alloc (.cells c2 T2)).alloc (.cells c3 T3))∧Bx (((w.alloc (.cells c1 T1)).alloc (.cells c2 T2)).alloc (.cells c3 T3)) w.heap.size c1∧Bx (((w.alloc (.cells c1 T1)).alloc (.cells c2 T2)).alloc (.cells c3 T3)) (w.heap.size+1) c2∧Bx (((w.alloc (.cells c1 T1)).alloc (.cells c2 T2)).alloc (.cells c3 T3)) (w.heap.size+1+1) c3∧(((w.alloc (.cells c1 T1)).alloc (.cells c2 T2)).alloc (.cells c3 T3)).heap.size=w.heap.size+3:=by
 have b1:=blb w (.cells c1 T1)
 have x1:=bxn w c1 T1
 have z1:(w.alloc (.cells c1 T1)).heap.size=w.heap.size+1:=by simp
 generalize w.alloc (.cells c1 T1)=w1 at *
 have b2:=blb w1 (.cells c2 T2)
 have x2:=bxn w1 c2 T2
 have z2:(w1.alloc (.cells c2 T2)).heap.size=w1.heap.size+1:=by simp
 have x1:=x1.below b2
 rw [z1] at x2
 have b2:=bls b1 b1.size b2
 generalize w1.alloc (.cells c2 T2)=w2 at *
 have b3:=blb w2 (.cells c3 T3)
 have x3:=bxn w2 c3 T3
 have z3:(w2.alloc (.cells c3 T3)).heap.size=w2.heap.size+1:=by simp
 have x1:=x1.below b3
 have x2:=x2.below b3
 rw [z2,z1] at x3
 exact ⟨bls b2 b2.size b3,x1,x2,x3,by omega⟩
attribute [local go_sem] Oper.semAt_some wide_fn wide_depth in
theorem mentions_any {x:Nd} {s:ByteArray} (hx:szT x≤100000) (hd:dpT x≤1000) {A:Option Addr} {cap:Nat} {w:World} (hK:NdsAt w A x.kids) :
  Calls Tryz.prog 124 #[.agg (ndC x A cap),.string s] w (fun e w'=>e=.returned (.bool (mentT s x))∧Below w.heap.size w w'):=by
 have H3:=kp (three_cells w (ndC x A cap) #[.string s] #[.bool false] 26 9 4)
 have HK:=kp hK
 clear hK
 refine (callsIn_wide (n:=0)).1 ?_
 refine callsIn_of_wp_marks Tryz.func124 rfl trivial ?_ rfl
 simp only [Tryz.ntmps124,List.size_toArray,List.length_cons,List.length_nil,Nat.reduceAdd,Nat.reduceSub,Array.replicate_succ,Array.replicate_zero,List.push_toArray,List.append_toArray,List.nil_append,List.cons_append]
 refine (wpIn_wide (n:=0)).2 ?_
 go_upto_region 1 with fail
 generalize World.alloc _ _=V at H3 ⊢
 obtain ⟨h1,h2,h3,h4,h5⟩:=H3.out
 have HC:=kp (walk_any (cap:=cap) hx (HK.out.mono h1))
 obtain ⟨a0,a1,a2,a3,_⟩:=h2.four
 have hla:=h2.lt
 clear h1 h2 h3 h4 h5
 go_wp2_with fail
 refine HC.out.mono ?_
 rintro e w1 ⟨Bt,A1,c1,rfl,hbt,hb1,hb2,hd1,hbl⟩
 have HW:=kp (And.intro hbt (And.intro hb1 (And.intro hb2 (And.intro hd1 hbl))))
 clear hbt hb1 hb2 hd1 hbl
 go_wp2_with fail
 have hB3:w.heap.size+1<V.heap.size:=by have:=H3.out.2.2.2.2;omega
 have hB4:w.heap.size+1+1<V.heap.size:=by have:=H3.out.2.2.2.2;omega
 have hVs:V.heap.size≤w1.heap.size:=HW.out.2.2.2.2.size
 have hwV:w.heap.size≤V.heap.size:=by omega
 refine (wpIn_wide (n:=0)).1 ?_
 refine wpIn_rangeWalk (lo:=V.heap.size) rfl rfl hx hd HW.out.1 HW.out.2.1 HW.out.2.2.2.1 (MenI w V.heap.size (w.heap.size+1) (w.heap.size+1+1) s) (MenX w (w.heap.size+1+1) s) (MenI.rng hwV hB3 hB4 hVs) (MenX.fr (by omega) hwV hVs) ⟨⟨bls H3.out.1 hwV HW.out.2.2.2.2,hVs⟩,fun k h=>h.1,H3.out.2.2.1.below HW.out.2.2.2.2,H3.out.2.2.2.1.below HW.out.2.2.2.2,rfl⟩ ?round ?done ?stop
 case round=>
  intro X pre y Ay cy Ap np cp W hI hKy _ _ hXl hlt
  have HI:=kp hI
  have HBX:=kp (blb W (Obj.cells (ndC y Ay cy) 26))
  have HRX:=kp (bxn W (ndC y Ay cy) 26)
  clear hI hKy
  gi_wp2
  refine ⟨HBX.out,?_⟩
  intro W2 hf2 hz2 hi2 _
  have hbx:Bx W2 W.heap.size (ndC y Ay cy):=HRX.out.fr hf2 (fun e=>by have e':W.heap.size=w1.heap.size+1:=e;omega)
  have HYES:=kp (fun (a:Act) (h:menB s y=true)=>show rndPost w1.heap.size (MenI w V.heap.size (w.heap.size+1) (w.heap.size+1+1) s) (MenX w (w.heap.size+1+1) s) X (pre++[y]) W2 .ret a (W2.setCell ⟨w.heap.size+1+1,0,none⟩ (.bool true)) from by
   obtain ⟨⟨i1,i2⟩,i3,i4,i5,i6⟩:=hi2
   have hs:=Fr.of_set W2 ⟨w.heap.size+1+1,0,none⟩ (.bool true)
   refine ⟨hs.mono fun k _ e=>?_,rfl,hs.toBelow i1 i1.size fun k e=>?_,i5.set 0 _,by rw [List.any_append,List.any_cons,h];simp⟩
   ·have e':k=w.heap.size+1+1:=e
    exact ⟨fun hx=>by have:=i3 k hx;omega,by omega,by omega⟩
   ·have e':k=w.heap.size+1+1:=e
    omega)
  have HNO:=kp (fun (a:Act) (h:menB s y=false)=>show rndPost w1.heap.size (MenI w V.heap.size (w.heap.size+1) (w.heap.size+1+1) s) (MenX w (w.heap.size+1+1) s) X (pre++[y]) W2 .normal a W2 from by
   obtain ⟨i1,i3,i4,i5,i6⟩:=hi2
   exact ⟨Fr.refl _ _,i1,i3,i4,i5,by rw [List.any_append,i6,List.any_cons,h];rfl⟩)
  obtain ⟨c0,c1',c2,c3,_⟩:=hbx.four
  have hlc:=hbx.lt
  have s0:=hi2.2.2.1.cell (j:=0) rfl
  have hls:=hi2.2.2.1.lt
  have t0:=hi2.2.2.2.1.cell (j:=0) rfl
  have tf:=hi2.2.2.2.1.free 0
  have hlt4:=hi2.2.2.2.1.lt
  have hq:(y.name.toList == s.toList)=decide (y.name=s):=eqS_eq _ _
  clear hf2 hi2 hbx hz2
  by_cases hk:varK y.kind=true
  ·by_cases hn:y.name=s
   ·have HV:=kp (show menB s y=true by unfold menB;rw [hk,hn];simp)
    rw [decide_eq_true hn] at hq
    clear hn
    have hk2:y.kind=2∨y.kind=3∨y.kind=4∨y.kind=5:=by unfold varK at hk;simp at hk;omega
    clear hk
    rcases hk2 with h | h | h | h
    ·have e2:((y.kind:Int) == 2)=true:=by rw [h];rfl
     clear h
     gi_wp2
     exact HYES.out _ HV.out
    ·have e2:((y.kind:Int) == 2)=false:=by rw [h];rfl
     have e3:((y.kind:Int) == 3)=true:=by rw [h];rfl
     clear h
     gi_wp2
     exact HYES.out _ HV.out
    ·have e2:((y.kind:Int) == 2)=false:=by rw [h];rfl
     have e3:((y.kind:Int) == 3)=false:=by rw [h];rfl
     have e4:((y.kind:Int) == 4)=true:=by rw [h];rfl
     clear h
     gi_wp2
     exact HYES.out _ HV.out
    ·have e2:((y.kind:Int) == 2)=false:=by rw [h];rfl
     have e3:((y.kind:Int) == 3)=false:=by rw [h];rfl
     have e4:((y.kind:Int) == 4)=false:=by rw [h];rfl
     have e5:((y.kind:Int) == 5)=true:=by rw [h];rfl
     clear h
     gi_wp2
     exact HYES.out _ HV.out
   ·have HV:=kp (show menB s y=false by unfold menB;rw [decide_eq_false hn,Bool.and_false])
    rw [decide_eq_false hn] at hq
    clear hn
    have hk2:y.kind=2∨y.kind=3∨y.kind=4∨y.kind=5:=by unfold varK at hk;simp at hk;omega
    clear hk
    rcases hk2 with h | h | h | h
    ·have e2:((y.kind:Int) == 2)=true:=by rw [h];rfl
     clear h
     gi_wp2
     exact HNO.out _ HV.out
    ·have e2:((y.kind:Int) == 2)=false:=by rw [h];rfl
     have e3:((y.kind:Int) == 3)=true:=by rw [h];rfl
     clear h
     gi_wp2
     exact HNO.out _ HV.out
    ·have e2:((y.kind:Int) == 2)=false:=by rw [h];rfl
     have e3:((y.kind:Int) == 3)=false:=by rw [h];rfl
     have e4:((y.kind:Int) == 4)=true:=by rw [h];rfl
     clear h
     gi_wp2
     exact HNO.out _ HV.out
    ·have e2:((y.kind:Int) == 2)=false:=by rw [h];rfl
     have e3:((y.kind:Int) == 3)=false:=by rw [h];rfl
     have e4:((y.kind:Int) == 4)=false:=by rw [h];rfl
     have e5:((y.kind:Int) == 5)=true:=by rw [h];rfl
     clear h
     gi_wp2
     exact HNO.out _ HV.out
  ·have HV:=kp (show menB s y=false by unfold menB;rw [Bool.eq_false_iff.2 hk,Bool.false_and])
   have hk2:¬ y.kind=2∧¬ y.kind=3∧¬ y.kind=4∧¬ y.kind=5:=by unfold varK at hk;simp at hk;omega
   have e2:((y.kind:Int) == 2)=false:=beqF hk2.1
   have e3:((y.kind:Int) == 3)=false:=beqF hk2.2.1
   have e4:((y.kind:Int) == 4)=false:=beqF hk2.2.2.1
   have e5:((y.kind:Int) == 5)=false:=beqF hk2.2.2.2
   clear hk2 hk hq
   gi_wp2
   exact HNO.out _ HV.out
 case done=>
  intro X W hI hD
  have HF:=kp (show (Bx W (w.heap.size+1+1) #[.bool false]∧Below w.heap.size w W)∧mentT s x=false∧W.heap[w1.heap.size]?=some (.deferred (some [])) from ⟨⟨hI.2.2.2.1,hI.1.1⟩,by rw [ment_any];exact hI.2.2.2.2,hD⟩)
  clear hI hD
  have t0:=HF.out.1.1.cell (j:=0) rfl
  have tf:=HF.out.1.1.free 0
  have hlt4:=HF.out.1.1.lt
  go_simp
  go_wp2_with fail
  have hs:=Fr.of_set W ⟨w.heap.size+1+1,0,none⟩ (.bool false)
  have hb4:=(HF.out.1.1.set 0 (.bool false)).fr (fr_put _ w1.heap.size (.deferred none)) (by omega)
  have hl1:=(Array.getElem?_eq_some_iff.1 HF.out.2.2).1
  have g0:=hb4.cell (j:=0) (v:=.bool false) rfl
  refine leave_mark (v:=.bool false) ((hs.block _ hl1 (fun e=>by have e':w1.heap.size=w.heap.size+1+1:=e;omega)).trans HF.out.2.2) (by simp [results,Tryz.results124,go_sem,g0]) ⟨by rw [HF.out.2.1],(fr_put _ _ _).toBelow (hs.toBelow HF.out.1.2 HF.out.1.2.size fun k e=>by have e':k=w.heap.size+1+1:=e;omega) (by have:=hs.size;have:=HF.out.1.2.size;omega) fun k e=>by omega⟩
 case stop=>
  rintro c q W hq ⟨rfl,hX1,hX2,hX3⟩ hD
  have hm:mentT s x=true:=by
   rw [ment_any]
   obtain ⟨r,hr⟩:=hq
   rw [← hr,List.any_append,hX3,Bool.true_or]
  gi_wp2
  have hb4:=hX2.fr (fr_put _ w1.heap.size (.deferred none)) (by omega)
  have g0:=hb4.cell (j:=0) (v:=.bool true) rfl
  exact leave_mark (v:=.bool true) hD (by simp [results,Tryz.results124,go_sem,g0]) ⟨by rw [hm],(fr_put _ _ _).toBelow hX1 hX1.size fun k e=>by omega⟩
theorem indexed_any {p:Nd} {s:ByteArray} (hx:szT p≤100000) (hd:dpT p≤1000) (h3:p.kind=3→1≤p.kids.length) {A:Option Addr} {cap:Nat} {w:World} (hK:NdsAt w A p.kids) :
  Calls Tryz.prog 123 #[.agg (ndC p A cap),.string s] w (fun e w'=>e=.returned (.bool (idxT p s))∧Below w.heap.size w w'):=by
 have HB:=kp (blb w (Obj.cells (ndC p A cap) 26))
 have HRX:=kp (bxn w (ndC p A cap) 26)
 have HK:=kp hK
 clear hK
 by_cases hk:p.kind=3
 ·have e3:((p.kind:Int) == 3)=true:=by rw [hk];rfl
  have hl:=h3 hk
  have HT:=kp (show idxT p s=mentT s p.kids[0] by
   unfold idxT;rw [decide_eq_true hk,Bool.true_and,kid_eq (List.getElem?_eq_getElem (by omega:0<p.kids.length))])
  have HS:=kp (And.intro (szT_kid (List.getElem_mem (by omega:0<p.kids.length))) (dpT_kid (List.getElem_mem (by omega:0<p.kids.length))))
  clear hk h3
  go_enter Tryz.func123,Tryz.ntmps123
  go_upto_region 1 with fail
  generalize w.alloc _=V at HB HRX ⊢
  obtain ⟨bk,ok,A',c',rfl,hbk,k0,k1,k2,k3,hKK⟩:=(HK.out.mono HB.out).kid (by omega:0<p.kids.length)
  have HC:=kp (mentions_any (s:=s) (cap:=c') (by have:=HS.out;omega) (by have:=HS.out;omega) hKK)
  rw [Nat.zero_mul,Nat.add_zero] at k0 k1 k2 k3
  obtain ⟨a0,a1,a2,a3,_⟩:=HRX.out.four
  have hla:=HRX.out.lt
  have r0:(0:Int)<p.kids.length:=by omega
  clear hKK
  generalize p.kids[0]=y at *
  go_wp2_with fail
  refine HC.out.mono ?_
  rintro e w1 ⟨rfl,hb1⟩
  have HF:=kp (And.intro HT.out (bls HB.out HB.out.size hb1))
  clear hb1
  go_wp2_with fail
  go_ret
  exact ⟨by rw [HF.out.1];rfl,HF.out.2⟩
 ·have e3:((p.kind:Int) == 3)=false:=beqF hk
  have HT:=kp (show idxT p s=false by unfold idxT;rw [decide_eq_false hk,Bool.false_and])
  clear hk h3
  go_enter Tryz.func123,Tryz.ntmps123
  go_upto_region 1 with fail
  generalize w.alloc _=V at HB HRX ⊢
  obtain ⟨a0,a1,a2,a3,_⟩:=HRX.out.four
  have hla:=HRX.out.lt
  go_wp2_with fail
  go_ret
  exact ⟨by rw [HT.out];rfl,HB.out⟩
def StsAt (w:World) (A:Option Addr) (l:List ByteArray):Prop:=∀ k s,l[k]?=some s→∃ b o,A=some ⟨b,o,none⟩∧w.cell? ⟨b,o+k,none⟩=some (.string s)
theorem StsAt.mono {w w':World} {A:Option Addr} {l:List ByteArray} (h:StsAt w A l) (hb:Below w.heap.size w w'):StsAt w' A l:=fun k s hk=>by
 obtain ⟨b,o,e,hc⟩:=h k s hk
 exact ⟨b,o,e,blc hb hc⟩
def AliP (ps:List Nd) (ss:List ByteArray) (w:World) (e:Ending) (w':World):Prop:=∃ (s:ByteArray) (er:Int),e=.returned (.tuple #[.string s,.int .i64 er])∧(er=0→∀ p∈ps,∀ s∈ss,idxT p s=false)∧Below w.heap.size w w'
theorem alias_any {ps:List Nd} {ss:List ByteArray} (hps:ps.length≤100000) (hss:ss.length≤100000) (hp:∀ p∈ps,szT p≤100000∧dpT p≤1000∧(p.kind=3→1≤p.kids.length)) {A B:Option Addr} {ca cb:Nat} {w:World} (hA:NdsAt w A ps) (hB:StsAt w B ss) :
  Calls Tryz.prog 125 #[.slice A ps.length ca,.slice B ss.length cb] w (AliP ps ss w):=by
 have HH:=kp (And.intro hA (And.intro hB hp))
 clear hA hB hp
 go_enter Tryz.func125,Tryz.ntmps125
 go_upto_region 2 with fail
 go_loopw [12] (fun i wr=>∃ k:Nat,k≤ps.length∧i=.int .i64 k∧Hid ((∀ p∈ps.take k,∀ s∈ss,idxT p s=false)∧Below w.heap.size w wr)) (fun i _=>ps.length - (intOf i).toNat)
 case atStart=>exact ⟨0,by omega,rfl,kp ⟨fun p h=>by simp at h,Below.refl _ _⟩⟩
 case round=>
  obtain ⟨wo,rfl⟩:∃ wo,wo=wr:=⟨_,rfl⟩
  obtain ⟨k,hk,rfl,HR⟩:=hrel
  by_cases hin:k<ps.length
  ·obtain ⟨bk,ok,A',c',rfl,hbk,k0,k1,k2,k3,hKK⟩:=(HH.out.1.mono HR.out.2).kid hin
   have HP:=kp (HH.out.2.2 _ (List.getElem_mem hin))
   have HTK:=kp (fun (q:∀ s∈ss,idxT ps[k] s=false)=>show ∀ p∈ps.take (k+1),∀ s∈ss,idxT p s=false from fun p hp=>by
    rw [List.take_succ_eq_append_getElem hin,List.mem_append,List.mem_singleton] at hp
    rcases hp with hp | rfl
    ·exact HR.out.1 p hp
    ·exact q)
   have r0:(0:Int)≤k:=by omega
   have r1:(k:Int)<ps.length:=by omega
   have HBX:=kp (blb wo (Obj.cells (ndC ps[k] A' c') 26))
   have HRX:=kp (bxn wo (ndC ps[k] A' c') 26)
   have HKK:=kp hKK
   clear hKK
   generalize ps[k]=p at *
   go_upto_region 5 with fail
   generalize wo.alloc _=V at HBX HRX ⊢
   go_loopw [18] (fun j wi=>∃ m:Nat,m≤ss.length∧j=.int .i64 m∧Hid ((∀ s∈ss.take m,idxT p s=false)∧Below V.heap.size V wi)) (fun j _=>ss.length - (intOf j).toNat)
   case atStart=>exact ⟨0,by omega,rfl,kp ⟨fun p h=>by simp at h,Below.refl _ _⟩⟩
   case round=>
    obtain ⟨m,hm,rfl,HM⟩:=hrel
    by_cases hjn:m<ss.length
    ·obtain ⟨bs,os,hB',y0⟩:=HH.out.2.1 m _ (List.getElem?_eq_getElem hjn)
     have HBW:=kp (bls HR.out.2 HR.out.2.size (bls HBX.out HBX.out.size HM.out.2))
     have y0:=blc HBW.out y0
     have hbs:=block_lt_of_cell y0
     have HTM:=kp (fun (q:idxT p ss[m]=false)=>show ∀ s∈ss.take (m+1),idxT p s=false from fun s hs=>by
      rw [List.take_succ_eq_append_getElem hjn,List.mem_append,List.mem_singleton] at hs
      rcases hs with hs | rfl
      ·exact HM.out.1 s hs
      ·exact q)
     have HC:=kp (indexed_any (s:=ss[m]) (cap:=c') HP.out.1 HP.out.2.1 HP.out.2.2 ((HKK.out.mono HBX.out).mono HM.out.2))
     obtain ⟨a0,a1,a2,a3,_⟩:=(HRX.out.below HM.out.2).four
     have hla:=(HRX.out.below HM.out.2).lt
     have s0:(0:Int)≤m:=by omega
     have s1:(m:Int)<ss.length:=by omega
     subst hB'
     clear k0 k1 k2 k3
     generalize ss[m]=s at *
     go_wp2_with fail
     refine HC.out.mono ?_
     rintro e w1 ⟨rfl,hb1⟩
     have HB1:=kp hb1
     clear hb1
     generalize hb:idxT p s=b at HTM ⊢
     cases b with
     | true=>
       have HX:=kp (show AliP ps ss w (.returned (.tuple #[.string s,.int .i64 8])) w1 from ⟨s,8,rfl,by omega,bls HBW.out HBW.out.size HB1.out⟩)
       clear hb
       go_wp2_with fail
       go_ret2
       exact HX.out
     | false=>
       have HX:=kp (And.intro (HTM.out rfl) (bls HM.out.2 HM.out.2.size HB1.out))
       clear hb
       go_wp2_with fail
       exact ⟨⟨m+1,by omega,by go_num,HX⟩,by simp [intOf];omega⟩
    ·obtain rfl:m=ss.length:=by omega
     have HX:=kp (And.intro (HTK.out (by have:=HM.out.1;rw [List.take_length] at this;exact this)) (bls HR.out.2 HR.out.2.size (bls HBX.out HBX.out.size HM.out.2)))
     clear k0 k1 k2 k3
     go_wp2_with fail
     exact ⟨⟨k+1,by omega,by go_num,HX⟩,by simp [intOf];omega⟩
  ·obtain rfl:k=ps.length:=by omega
   have HX:=kp (show AliP ps ss w (.returned (.tuple #[.string ⟨#[]⟩,.int .i64 0])) wo from ⟨_,0,rfl,fun _=>by have:=HR.out.1;rw [List.take_length] at this;exact this,HR.out.2⟩)
   go_wp2_with fail
   go_ret2
   exact HX.out
def NdP (w:World) (e:Ending) (w':World):Prop:=∃ (k nu:Int) (nm:ByteArray) (A:Option Addr) (n c:Nat),e=.returned (.agg #[.int .u8 k,.int .i64 nu,.string nm,.slice A n c])∧Below w.heap.size w w'
theorem lit_pos (x:Int) (hx:0≤x) (w:World):Calls Tryz.prog 187 #[.int .i64 x] w (NdP w):=by
 have h0:decide ((0:Int)≤x)=true:=decide_eq_true hx
 go_enter Tryz.func187,Tryz.ntmps187
 go_wp2_with fail
 have HX:=kp (And.intro (blb w (Obj.cells #[.int .u8 1,.int .i64 x,.string ⟨#[]⟩,.slice none 0 0] 26)) (bxn w #[.int .u8 1,.int .i64 x,.string ⟨#[]⟩,.slice none 0 0] 26))
 generalize w.alloc _=V at HX ⊢
 obtain ⟨g0,g1,g2,g3,_⟩:=HX.out.2.four
 exact bodyPost_ret (v:=.agg #[.int .u8 1,.int .i64 x,.string ⟨#[]⟩,.slice none 0 0]) (by simp [results,Tryz.results187,go_sem,g0,g1,g2,g3]) rfl ⟨_,_,_,_,_,_,rfl,HX.out.1⟩
theorem lit_end {w V:World} {g:Nat} {u0 u1 u2 u3:Value} (hb:Below w.heap.size w V) (hx:Bx V g #[u0,u1,u2,u3]) (hg:w.heap.size≤g) (v0 v1 v2 v3:Value):Bx ((((V.setCell ⟨g,0,none⟩ v0).setCell ⟨g,1,none⟩ v1).setCell ⟨g,2,none⟩ v2).setCell ⟨g,3,none⟩ v3) g #[v0,v1,v2,v3]∧Below w.heap.size w ((((V.setCell ⟨g,0,none⟩ v0).setCell ⟨g,1,none⟩ v1).setCell ⟨g,2,none⟩ v2).setCell ⟨g,3,none⟩ v3):=
 ⟨hx.set4 v0 v1 v2 v3,(Fr.set4 V g v0 v1 v2 v3).toBelow hb hb.size fun k e=>by omega⟩
theorem literal_any (x:Int) (hx:-9223372036854775808≤x∧x≤9223372036854775807) (w:World):Calls Tryz.prog 187 #[.int .i64 x] w (NdP w):=by
 by_cases hp:0≤x
 ·exact lit_pos x hp w
 have h0:decide ((0:Int)≤x)=false:=decide_eq_false hp
 have HB:=kp (blb w (Obj.cells #[.int .u8 0,.int .i64 0,.string ⟨#[]⟩,.slice none 0 0] 26))
 have HX:=kp (bxn w #[.int .u8 0,.int .i64 0,.string ⟨#[]⟩,.slice none 0 0] 26)
 by_cases hm:x=-9223372036854775808
 ·subst hm
  clear hx hp
  go_enter Tryz.func187,Tryz.ntmps187
  go_upto_region 1 with fail
  generalize w.alloc _=V at HB HX ⊢
  have HC:=kp (lit_pos 9223372036854775807 (by omega) V)
  go_wp2_with fail
  refine HC.out.mono ?_
  rintro e w1 ⟨k1,nu1,nm1,A1,n1,c1,rfl,hb1⟩
  have HB1:=kp hb1
  have HD:=kp (lit_pos 1 (by omega) w1)
  clear hb1
  go_wp2_with fail
  refine HD.out.mono ?_
  rintro e w2 ⟨k2,nu2,nm2,A2,n2,c2,rfl,hb2⟩
  have HW:=kp (bls (bls HB.out HB.out.size HB1.out) (Nat.le_trans HB.out.size HB1.out.size) hb2)
  have HXW:=kp ((HX.out.below HB1.out).below hb2)
  obtain ⟨a0,a1,a2,a3,_⟩:=HXW.out.four
  have f0:=HXW.out.free 0
  have f1:=HXW.out.free 1
  have f2:=HXW.out.free 2
  have f3:=HXW.out.free 3
  have hla:=HXW.out.lt
  clear hb2
  go_wp2_with fail
  have HF:=kp (lit_end HW.out HXW.out (Nat.le_refl _) (.int .u8 8) (.int .i64 0) (.string ⟨#[]⟩) (.slice (some ⟨w2.heap.size,0,none⟩) 2 2))
  generalize World.setCell _ _ _=W3 at HF ⊢
  have HF2:=kp (And.intro (HF.out.1.below (blb W3 (Obj.cells #[.int .u8 k1,.int .i64 nu1,.string nm1,.slice A1 n1 c1,.int .u8 k2,.int .i64 nu2,.string nm2,.slice A2 n2 c2] 26))) (bls HF.out.2 HF.out.2.size (blb W3 (Obj.cells #[.int .u8 k1,.int .i64 nu1,.string nm1,.slice A1 n1 c1,.int .u8 k2,.int .i64 nu2,.string nm2,.slice A2 n2 c2] 26))))
  generalize World.alloc _ _=W4 at HF2 ⊢
  obtain ⟨g0,g1,g2,g3,_⟩:=HF2.out.1.four
  exact bodyPost_ret (v:=.agg #[.int .u8 8,.int .i64 0,.string ⟨#[]⟩,.slice (some ⟨w2.heap.size,0,none⟩) 2 2]) (by simp [results,Tryz.results187,go_sem,g0,g1,g2,g3]) rfl ⟨_,_,_,_,_,_,rfl,HF2.out.2⟩
 ·have e9:(x == -9223372036854775808)=false:=by simpa using hm
  have hl:-9223372036854775808<x:=by omega
  have hn:0≤-x:=by omega
  have q0:wrap64 (-x)=-x:=by unfold wrap64;omega
  clear hm hp
  go_enter Tryz.func187,Tryz.ntmps187
  go_upto_region 1 with fail
  generalize w.alloc _=V at HB HX ⊢
  have HC:=kp (lit_pos (-x) hn V)
  go_wp2_with fail
  refine HC.out.mono ?_
  rintro e w1 ⟨k1,nu1,nm1,A1,n1,c1,rfl,hb1⟩
  have HW:=kp (bls HB.out HB.out.size hb1)
  have HXW:=kp (HX.out.below hb1)
  obtain ⟨a0,a1,a2,a3,_⟩:=HXW.out.four
  have f0:=HXW.out.free 0
  have f1:=HXW.out.free 1
  have f2:=HXW.out.free 2
  have f3:=HXW.out.free 3
  have hla:=HXW.out.lt
  clear hb1
  go_wp2_with fail
  have HF:=kp (lit_end HW.out HXW.out (Nat.le_refl _) (.int .u8 6) (.int .i64 0) (.string ⟨#[]⟩) (.slice (some ⟨w1.heap.size,0,none⟩) 1 1))
  generalize World.setCell _ _ _=W3 at HF ⊢
  have HF2:=kp (And.intro (HF.out.1.below (blb W3 (Obj.cells #[.int .u8 k1,.int .i64 nu1,.string nm1,.slice A1 n1 c1] 26))) (bls HF.out.2 HF.out.2.size (blb W3 (Obj.cells #[.int .u8 k1,.int .i64 nu1,.string nm1,.slice A1 n1 c1] 26))))
  generalize World.alloc _ _=W4 at HF2 ⊢
  obtain ⟨g0,g1,g2,g3,_⟩:=HF2.out.1.four
  exact bodyPost_ret (v:=.agg #[.int .u8 6,.int .i64 0,.string ⟨#[]⟩,.slice (some ⟨w1.heap.size,0,none⟩) 1 1]) (by simp [results,Tryz.results187,go_sem,g0,g1,g2,g3]) rfl ⟨_,_,_,_,_,_,rfl,HF2.out.2⟩
structure Fd where
 k:Int
 nu:Int
 nm:ByteArray
 A:Option Addr
 n:Nat
 c:Nat
 x:Int
 b:Bool
def fdC (f:Fd):List Value:=[.int .u8 f.k,.int .i64 f.nu,.string f.nm,.slice f.A f.n f.c,.int .i64 f.x,.bool f.b]
theorem fdC_len (f:Fd):(fdC f).length=6:=rfl
theorem fds_get:∀ (fs:List Fd) (k:Nat) (f:Fd),fs[k]?=some f→∀ j,j<6→(fs.flatMap fdC)[k*6+j]?=(fdC f)[j]?
 | g::r,0,f,h,j,hj=>by
   cases h
   rw [List.flatMap_cons,Nat.zero_mul,Nat.zero_add,List.getElem?_append_left (by rw [fdC_len];exact hj)]
 | g::r,k+1,f,h,j,hj=>by
   rw [List.flatMap_cons,List.getElem?_append_right (by rw [fdC_len];omega),fdC_len,show (k+1)*6+j - 6=k*6+j by omega]
   exact fds_get r k f (by simpa using h) j hj
def FdsAt (w:World) (A:Option Addr) (fs:List Fd):Prop:=∀ (k:Nat) (f:Fd),fs[k]?=some f→∃ b o,A=some ⟨b,o,none⟩∧∀ j u,(fdC f)[j]?=some u→w.cell? ⟨b,o+k*6+j,none⟩=some u
theorem FdsAt.mono {w w':World} {A:Option Addr} {fs:List Fd} (h:FdsAt w A fs) (hb:Below w.heap.size w w'):FdsAt w' A fs:=fun k f hk=>by
 obtain ⟨b,o,e,hc⟩:=h k f hk
 exact ⟨b,o,e,fun j u hu=>blc hb (hc j u hu)⟩
theorem fds_own {w:World} {B:Nat} {v:Value} {fs:List Fd} (h:w.ownsRow B 205 6 v fs.length (fs.flatMap fdC)):∃ A c,v=.slice A fs.length c∧FdsAt w A fs:=by
 obtain ⟨A,c,rfl,_,hq⟩:=ofb h
 refine ⟨A,c,rfl,fun k f hk=>?_⟩
 have hkl:=(List.getElem?_eq_some_iff.1 hk).1
 obtain ⟨g,rfl,_⟩:=hq (by omega)
 refine ⟨g,0,rfl,fun j u hu=>?_⟩
 have hj:j<6:=by have:=(List.getElem?_eq_some_iff.1 hu).1;rw [fdC_len] at this;exact this
 have:=h.cells (g:=g) rfl (k*6+j) u (by rw [fds_get fs k f hk j hj];exact hu)
 rw [add0] at this
 rw [Nat.zero_add];exact this
theorem info_fd:(Tryz.prog.info? 205).map (fun i=>(i.zero,i.size,i.bytes))=some (some (.agg #[.int .u8 0,.int .i64 0,.string ⟨#[]⟩,.slice none 0 0,.int .i64 0,.bool false]),6,72):=by kernel_rfl
def FoP (w:World) (e:Ending) (w':World):Prop:=∃ (k nu:Int) (nm:ByteArray) (A:Option Addr) (n c:Nat) (x:Int) (b:Bool),e=.returned (.agg #[.int .u8 k,.int .i64 nu,.string nm,.slice A n c,.int .i64 x,.bool b])∧(b=true→InR x)∧Below w.heap.size w w'
def EaP (n:Nat) (w:World) (e:Ending) (w':World):Prop:=∃ (v:Value) (fs:List Fd),e=.returned v∧fs.length=n∧w'.ownsRow w.heap.size 205 6 v fs.length (fs.flatMap fdC)∧(∀ f∈fs,f.b=true→InR f.x)∧Below w.heap.size w w'
def EaR (W:World) (k:Nat) (v:Value) (wr:World):Prop:=∃ fs:List Fd,fs.length=k∧wr.ownsRow W.heap.size 205 6 v fs.length (fs.flatMap fdC)∧(∀ f∈fs,f.b=true→InR f.x)∧Below W.heap.size W wr
theorem each_any {l:List Nd} (hl:l.length≤100000) (hF:∀ y∈l,∀ (A:Option Addr) (c:Nat) (w:World),NdsAt w A y.kids→Calls Tryz.prog 170 #[.agg (ndC y A c)] w (FoP w)) {A:Option Addr} {cap:Nat} {W:World} (hK:NdsAt W A l) :
  Calls Tryz.prog 185 #[.slice A l.length cap,.func (.func 170) #[] #[]] W (EaP l.length W):=by
 have HK:=kp hK
 have HIH:=kp hF
 obtain ⟨i0,hi0,hz0,hz1,hz2⟩:=info_parts info_fd
 have HI:=kp (And.intro hi0 (And.intro hz0 (And.intro hz1 hz2)))
 clear hi0 hz0 hz1 hz2 hK hF
 go_enter Tryz.func185,Tryz.ntmps185
 go_upto_region 3 with fail
 go_loopw [5,10] (fun v i wr=>∃ k:Nat,k≤l.length∧i=.int .i64 k∧Hid (EaR W k v wr)) (fun _ i _=>l.length - (intOf i).toNat)
 case atStart=>exact ⟨0,by omega,rfl,kp ⟨[],rfl,⟨rfl,.inl ⟨rfl,rfl⟩⟩,fun f h=>by simp at h,Below.refl _ _⟩⟩
 case round=>
  obtain ⟨k,hk,rfl,HR⟩:=hrel
  by_cases hin:k<l.length
  ·obtain ⟨fs,hfs,hown,hinr,hbw⟩:=HR.out
   subst hfs
   have HR2:=kp (And.intro hown (And.intro hinr hbw))
   obtain ⟨bk,ok,A',cap',rfl,hbk,k0,k1,k2,k3,hKK⟩:=(HK.out.mono hbw).kid hin
   have HBX:=kp (blb wr (Obj.cells (ndC l[fs.length] A' cap') 26))
   have HRX:=kp (bxn wr (ndC l[fs.length] A' cap') 26)
   have hsz2:(wr.alloc (Obj.cells (ndC l[fs.length] A' cap') 26)).heap.size=wr.heap.size+1:=by simp
   have HC1:=kp (HIH.out l[fs.length] (List.getElem_mem hin) A' cap' _ (hKK.mono HBX.out))
   have r0:(0:Int)≤fs.length:=by omega
   have r1:(fs.length:Int)<l.length:=by omega
   clear hKK hown hinr hbw
   generalize l[fs.length]=y at *
   go_upto_region 5 with fail
   generalize wr.alloc _=V at HBX HRX hsz2 HC1 ⊢
   obtain ⟨b0,b1,b2,b3,_⟩:=HRX.out.four
   have hlb:=HRX.out.lt
   have HZB:=kp (show W.heap.size≤wr.heap.size from HR2.out.2.2.size)
   go_wp2_with fail
   refine HC1.out.mono ?_
   rintro e w8 ⟨fk,fnu,fnm,fA,fn,fc,fx,fb,rfl,hfx,hb8⟩
   have HB8:=kp (bls HBX.out HBX.out.size hb8)
   have HO8:=kp (obl HR2.out.1 HB8.out)
   obtain ⟨Av,cv,rfl,hcv,_⟩:=ofb HO8.out
   have HZ8:=kp hb8.size
   have HFX:=kp hfx
   clear hfx hb8
   go_wp2_with (at_builtin;go_loud (refine wpList_app _ rfl _ _ 217 rfl W.heap.size 205 i0 (.agg #[.int .u8 0,.int .i64 0,.string ⟨#[]⟩,.slice none 0 0,.int .i64 0,.bool false]) 6 72 Tryz.underlying217 HI.out.1 HI.out.2.1 HI.out.2.2.1 HI.out.2.2.2 rfl (by decide) (.slice Av fs.length cv) fs.length (fs.flatMap fdC) rfl (obl HO8.out (blb _ _)) (some ⟨w8.heap.size,0,none⟩) 1 1 [.int .u8 fk,.int .i64 fnu,.string fnm,.slice fA fn fc,.int .i64 fx,.bool fb] rfl rfl (cnu w8 rfl [.int .u8 fk,.int .i64 fnu,.string fnm,.slice fA fn fc,.int .i64 fx,.bool fb] 205) (fun u hu=>by simp at hu;rcases hu with rfl | rfl | rfl | rfl | rfl | rfl<;>rfl) (by unfold maxLen;omega) (by omega) (by have:=HZB.out;have:=HZ8.out;simp;omega) ?_;intro v' w9 hown' hgrow hat))
   have HN:=kp (show EaR W (fs.length+1) v' w9 from by
    refine ⟨fs++[⟨fk,fnu,fnm,fA,fn,fc,fx,fb⟩],by simp,by rw [List.length_append,List.flatMap_append];simpa [fdC] using hown',fun f hf=>?_,?_⟩
    ·rw [List.mem_append,List.mem_singleton] at hf
     rcases hf with hf | rfl
     ·exact HR2.out.2.1 f hf
     ·exact HFX.out
    ·exact (Fr.of_grown hgrow).toBelow (bls (bls HR2.out.2.2 HZB.out HB8.out) (by have:=HB8.out.size;have:=HZB.out;omega) (blb w8 _)) (by have:=HB8.out.size;have:=HZB.out;simp;omega) fun g hg=>obg HO8.out g hg.symm)
   clear hown' hgrow hat
   go_wp2_with fail
   exact ⟨⟨fs.length+1,by omega,by go_num,HN⟩,by simp [intOf];omega⟩
  ·obtain rfl:k=l.length:=by omega
   have HX:=kp (show EaP l.length W (.returned u5) wr from by
    obtain ⟨fs,hfs,h1,h2,h3⟩:=HR.out
    exact ⟨u5,fs,rfl,hfs,h1,h2,h3⟩)
   go_wp2_with fail
   go_ret
   exact HX.out
end Go.Proofs.YtgbomnibedefoaaGreatDoor
