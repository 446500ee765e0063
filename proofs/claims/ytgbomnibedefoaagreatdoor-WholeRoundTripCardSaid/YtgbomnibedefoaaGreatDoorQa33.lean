import Derived.Test.YtgbomnibedefoaaGreatDoorQa32
set_option maxRecDepth 100000
set_option maxHeartbeats 8000000
namespace Go.Proofs.YtgbomnibedefoaaGreatDoor
open Go.ChangeShapes Go.WideShapes Go.ChangeAt Go.RowKit Go.Sort
theorem vr_ex {p:Nd} (h:varB p=true):isExT p=true:=by unfold varB at h;rw [Bool.and_eq_true] at h;exact h.2
theorem st_kids {x:Nd} (h:isStT x=true):∀ y∈x.kids,isExT y=true∨isBlT y=true:=fun y hy=>by
 obtain ⟨i,hi⟩:=List.getElem?_of_mem hy
 have hil:=(List.getElem?_eq_some_iff.1 hi).1
 have hkd:=kid_eq hi
 have hbl:=blD hi
 rw [isStT_eq] at h
 unfold isStK at h
 by_cases c1:x.kind=40∨x.kind=41∨x.kind=42∨x.kind=56
 ·rw [if_pos c1] at h
  simp only [Bool.and_eq_true,decide_eq_true_eq,List.all_cons,List.all_nil,id] at h
  obtain ⟨_,hl,h0,h1,_⟩:=h
  match i,hil,hkd with
  | 0,_,e=>exact .inl (plc_ex (e▸h0))
  | 1,_,e=>exact .inl (e▸h1)
  | i+2,hil,_=>omega
 rw [if_neg c1] at h
 by_cases c2:x.kind=43
 ·rw [if_pos c2] at h
  simp only [Bool.and_eq_true,decide_eq_true_eq,List.all_cons,List.all_nil,id] at h
  obtain ⟨_,hl,h0,h1,_⟩:=h
  match i,hil,hkd with
  | 0,_,e=>exact .inl (plc_ex (e▸h0))
  | 1,_,e=>exact .inl (plc_ex (e▸h1))
  | i+2,hil,_=>omega
 rw [if_neg c2] at h
 have one:∀ {c:Bool},(c&&(decide (x.kids.length=1)&&[plcB (kid x 0)].all id))=true→isExT y=true∨isBlT y=true:=fun h=>by
  simp only [Bool.and_eq_true,decide_eq_true_eq,List.all_cons,List.all_nil,id] at h
  obtain ⟨_,hl,h0,_⟩:=h
  match i,hil,hkd with
  | 0,_,e=>exact .inl (plc_ex (e▸h0))
  | i+1,hil,_=>omega
 by_cases c3:x.kind=44∨x.kind=45
 ·rw [if_pos c3] at h;exact one h
 rw [if_neg c3] at h
 by_cases c4:x.kind=46∨x.kind=47∨x.kind=48∨x.kind=49
 ·rw [if_pos c4] at h;exact one h
 rw [if_neg c4] at h
 by_cases c5:x.kind=50∨x.kind=51
 ·rw [if_pos c5] at h
  simp only [Bool.and_eq_true] at h
  exact .inl (vr_ex (List.all_eq_true.1 h.2 y hy))
 rw [if_neg c5] at h
 by_cases c6:x.kind=52∨x.kind=53
 ·rw [if_pos c6] at h
  simp only [Bool.and_eq_true,decide_eq_true_eq,List.all_cons,List.all_nil,id] at h
  obtain ⟨_,hl,h0,h1,h2,h3,_⟩:=h
  match i,hil,hkd,hbl with
  | 0,_,e,_=>exact .inl (e▸h0)
  | 1,_,_,e=>exact .inr (e▸h1)
  | 2,_,_,e=>exact .inr (e▸h2)
  | 3,_,e,_=>exact .inl (e▸h3)
  | i+4,hil,_,_=>omega
 rw [if_neg c6] at h
 by_cases c7:x.kind=54
 ·rw [if_pos c7] at h
  simp only [Bool.and_eq_true,decide_eq_true_eq,List.all_cons,List.all_nil,id] at h
  obtain ⟨_,hl,h0,h1,h2,_⟩:=h
  match i,hil,hkd,hbl with
  | 0,_,e,_=>exact .inl (e▸h0)
  | 1,_,_,e=>exact .inr (e▸h1)
  | 2,_,e,_=>exact .inl (e▸h2)
  | i+3,hil,_,_=>omega
 rw [if_neg c7] at h
 by_cases c8:x.kind=55
 ·rw [if_pos c8] at h
  simp only [Bool.and_eq_true,decide_eq_true_eq,List.all_cons,List.all_nil,id] at h
  obtain ⟨_,hl,h0,_⟩:=h
  match i,hil,hkd,hbl with
  | 0,_,_,e=>exact .inr (e▸h0)
  | i+1,hil,_,_=>omega
 ·rw [if_neg c8] at h;cases h
theorem st_lens {x:Nd} (h:isStT x=true):(40≤x.kind∧x.kind≤43∨x.kind=56→2≤x.kids.length)∧(44≤x.kind∧x.kind≤49→1≤x.kids.length)∧(x.kind=52∨x.kind=53→4≤x.kids.length):=by
 rw [isStT_eq] at h
 unfold isStK at h
 refine ⟨fun e=>?_,fun e=>?_,fun e=>?_⟩
 ·by_cases c1:x.kind=40∨x.kind=41∨x.kind=42∨x.kind=56
  ·rw [if_pos c1] at h
   simp only [Bool.and_eq_true,decide_eq_true_eq] at h
   omega
  ·rw [if_neg c1,if_pos (by omega)] at h
   simp only [Bool.and_eq_true,decide_eq_true_eq] at h
   omega
 ·rw [if_neg (by omega),if_neg (by omega)] at h
  by_cases c3:x.kind=44∨x.kind=45
  ·rw [if_pos c3] at h
   simp only [Bool.and_eq_true,decide_eq_true_eq] at h
   omega
  ·rw [if_neg c3,if_pos (by omega)] at h
   simp only [Bool.and_eq_true,decide_eq_true_eq] at h
   omega
 ·rw [if_neg (by omega),if_neg (by omega),if_neg (by omega),if_neg (by omega),if_neg (by omega),if_pos e] at h
  simp only [Bool.and_eq_true,decide_eq_true_eq] at h
  omega
theorem st_sh {x:Nd} (h:isStT x=true):RjSh x:=by
 obtain ⟨l1,l2,l3⟩:=st_lens h
 refine ⟨fun e=>?_,fun e=>l1 (.inl e),fun e=>l3 (.inl e),fun y hy hk=>?_⟩
 ·by_cases c:40≤x.kind∧x.kind≤43∨x.kind=56
  ·have:=l1 c;omega
  ·by_cases c2:44≤x.kind∧x.kind≤49
   ·have:=l2 c2;omega
   ·have:=l3 (by omega);omega
 ·rcases st_kids h y hy with e | e
  ·exact ex_ix e hk
  ·have:=blT_kind e;omega
theorem st_ge {x:Nd} (h:isStT x=true):40≤x.kind:=by rcases st_kind h with e | e | e | e | e | e | e | e<;>omega
theorem bl_sh {x:Nd} (h:isBlT x=true):RjSh x:=by
 have hk:=blT_kind h
 refine ⟨fun e=>by omega,fun e=>by omega,fun e=>by omega,fun y hy e=>?_⟩
 have:=st_ge (blT_kids h y hy);omega
def AnyN (x:Nd):Prop:=isExT x=true∨isStT x=true∨isBlT x=true
theorem any_kid {x y:Nd} (h:AnyN x) (hy:y∈x.kids):AnyN y:=by
 rcases h with h | h | h
 ·exact .inl (ex_kid h hy)
 ·exact (st_kids h y hy).imp id .inr
 ·exact .inr (.inl (blT_kids h y hy))
theorem any_sh {x:Nd} (h:AnyN x):RjSh x:=by
 rcases h with h | h | h
 ·exact ex_sh h
 ·exact st_sh h
 ·exact bl_sh h
theorem RjSh.pre {x:Nd} (h:RjSh x) (h1:szT x≤100000) (h2:dpT x≤1000) (h3:NdFit x):RjPre x:=⟨h1,h2,h3,h.one,h.two,h.four,h.ix⟩
theorem any_pre:∀ (N:Nat) (x:Nd),SizeOf.sizeOf x≤N→AnyN x→szT x≤100000→dpT x≤1000→NdFit x→∀ y∈preT x,RjPre y:=by
 intro N
 induction N with
 | zero=>intro x hx;exfalso;cases x;simp at hx
 | succ N ih=>
   intro x hx ha h1 h2 h3 y hy
   rw [preT_eq] at hy
   rcases List.mem_cons.1 hy with e | e
   ·exact e▸(any_sh ha).pre h1 h2 h3
   ·have key:∀ l:List Nd,(∀ z∈l,z∈x.kids)→y∈preTL l→∃ z∈l,y∈preT z:=by
     intro l
     induction l with
     | nil=>intro _ h;rw [preTL] at h;cases h
     | cons z r ih2=>
       intro hl h
       rw [preTL,List.mem_append] at h
       rcases h with h | h
       ·exact ⟨z,List.mem_cons_self,h⟩
       ·obtain ⟨z',hz',h'⟩:=ih2 (fun z' hz'=>hl z' (List.mem_cons_of_mem _ hz')) h
        exact ⟨z',List.mem_cons_of_mem _ hz',h'⟩
    obtain ⟨z,hz,hyz⟩:=key x.kids (fun _ h=>h) e
    obtain ⟨i,hi⟩:=List.getElem?_of_mem hz
    have hlt:=Nd.kid_lt hi
    have h4:=szT_kid hz
    have h5:=dpT_kid hz
    exact ih z (by omega) (any_kid ha hz) (by omega) (by omega) (h3.kid hi) y hyz
theorem wpListIn_app {F:Fence} {n0:Nat} {P:Program} (w:World) {ops:Array Oper} {rest:List Oper} {o:Oper} {a:Act} {Q:Exit→Act→World→Prop} (hgd:o.guard=none) (s x:Operand) (t:TypeId)
  (ho:o.op=.call { callee:=.builtin .append,args:=#[s,x],argTypes:=#[t,t] })
  (base:Nat) (e:TypeId) (i:TypeInfo) (z:Value) (size bytes:Nat) (ht:P.underlying t=some (.slice e)) (hi:P.info? e=some i) (hz:i.zero=some z)
  (hsize:i.size=size) (hby:i.bytes=bytes) (hzs:z.cells.size=size) (hsz:0<size) (v:Value) (n:Nat) (xs:List Value) (hs:a.eval s=v) (hown:w.ownsRow base e size v n xs)
  (A:Option Addr) (m c:Nat) (news:List Value) (hx:a.eval x=.slice A m c) (hl:news.length=m*size) (hr:CellsAt w A news) (h1:∀ u∈news,u.oneCell'=true)
  (h63:n+m≤maxLen) (hbytes:(n+m)*bytes≤140737488355328) (hbase:base≤w.heap.size)
  (h:∀ v' w',w'.ownsRow base e size v' (n+m) (xs++news)→w.grownBy w' v.ownBlock→(v'.ownBlock=v.ownBlock∨v'.ownBlock=some w.heap.size)→wpListIn F n0 P ops Q rest (a.put o.dst v') w'):wpListIn F n0 P ops Q (o::rest) a w:=by
 refine wpListIn_plain hgd fun K hK'=>?_
 obtain ⟨v',w',hrun,h2,h3,h4⟩:=run_app (P:=P) w base t o.type e i z size bytes ht hi hz hsize hby hzs hsz v n xs hown A m c news hl hr h1 h63 hbytes hbase
 unfold Oper.wpIn
 refine ⟨?_,?_⟩
 ·simp [Oper.about,ho,resolve,Target.leads,Sem.run_pure]
 ·rw [Oper.semAt_plain F _ _ (by rw [ho];intro c hc';cases hc')]
  simp [execOp,ho,resolve,invoke,builtin,hs,hx,hrun,Result.andThen]
  exact hK' _ _ (h v' w' h2 h3 h4)
structure RjO (W:World) (B5 BT:Nat) (v:Value) (u:Nat):Prop where
 b:Bx W B5 #[v]
 own:∃ cs,W.ownsRow BT 153 4 v u cs∧∀ u∈cs,u.oneCell'=true
def ChkI (w0:World) (n1 D B2 B5:Nat) (pr:Int):WI:=fun X pre W=>(Below w0.heap.size w0 W∧n1≤W.heap.size)∧(∀ k,X k→n1≤k)∧Bx W B2 #[.int .i64 pr]∧∃ v u,RjO W B5 n1 v u∧u≤pre.length∧(u=0→∀ z∈pre,rjB z=true)∧∀ g,v.ownBlock=some g→¬ X g∧g≠D∧g≠D+1
def NoX:Code→List Nd→World→Prop:=fun _ _ _=>False
theorem RjO.lt {W:World} {B5 BT u:Nat} {v:Value} (h:RjO W B5 BT v u):∀ g,v.ownBlock=some g→BT≤g∧g<W.heap.size:=fun g hg=>by
 obtain ⟨cs,ho,_⟩:=h.own
 exact ⟨obg ho g hg,(ho.lt g hg).2⟩
theorem RjO.fr {W W':World} {B5 BT u:Nat} {v:Value} (h:RjO W B5 BT v u) {m:Nat→Prop} (hf:Fr W W' m) (h5:¬ m B5) (hv:∀ g,v.ownBlock=some g→¬ m g):RjO W' B5 BT v u:=by
 obtain ⟨cs,ho,h1⟩:=h.own
 exact ⟨h.b.fr hf h5,cs,hf.own ho hv,h1⟩
theorem ChkI.rng {w0:World} {n1 D B2 B5:Nat} {pr:Int} (h0:w0.heap.size≤n1) (h2:B2<n1) (h5:B5<n1) (hD:n1≤D):RngD D (ChkI w0 n1 D B2 B5 pr):=by
 rintro X X' pre A B ⟨⟨a,a2⟩,b,c,v,u,d,e,f,g⟩ hf h1 h2'
 have q:∀ k,(X k∨k=D∨k=D+1)→n1≤k:=fun k h=>by
  rcases h with h | h | h
  ·exact b k h
  ·omega
  ·omega
 refine ⟨⟨hf.toBelow a a.size fun k h=>Nat.le_trans h0 (q k h),Nat.le_trans a2 hf.size⟩,fun k h=>?_,c.fr hf fun h=>?_,v,u,d.fr hf (fun h=>?_) (fun g' hg' h=>?_),e,f,fun g' hg'=>⟨fun h=>?_,(g g' hg').2⟩⟩
 ·rcases h2' k h with h | h
  ·exact b k h
  ·omega
 ·have:=q _ h;omega
 ·have:=q _ h;omega
 ·obtain ⟨i1,i2,i3⟩:=g g' hg'
  rcases h with h | h | h
  ·exact i1 h
  ·exact i2 h
  ·exact i3 h
 ·rcases h2' g' h with h | h
  ·exact (g g' hg').1 h
  ·have:=(d.lt g' hg').2;omega
def CkrP (x:Nd) (w:World) (e:Ending) (w':World):Prop:=∃ v u,e=.returned v∧u≤szT x∧(∃ cs,w'.ownsRow w.heap.size 153 4 v u cs∧∀ u∈cs,u.oneCell'=true)∧(u=0→∀ z∈preT x,rjB z=true)∧Below w.heap.size w w'
theorem info_rj:(Tryz.prog.info? 153).map (fun i=>(i.zero,i.size,i.bytes))=some (some (.agg #[.int .i64 0,.slice none 0 0,.int .i64 0,.string ⟨#[]⟩]),4,56):=by kernel_rfl
theorem preT_len:(∀ x:Nd,(preT x).length=szT x)∧(∀ l:List Nd,(preTL l).length=szL l):=by
 have h:∀ (N:Nat),(∀ x:Nd,SizeOf.sizeOf x≤N→(preT x).length=szT x):=by
  intro N
  induction N with
  | zero=>intro x hx;exfalso;cases x;simp at hx
  | succ N ih=>
    intro x hx
    rw [preT_eq,szT_eq,List.length_cons]
    have key:∀ l:List Nd,(∀ y∈l,y∈x.kids)→(preTL l).length=szL l:=by
     intro l
     induction l with
     | nil=>intro _;rw [preTL,szL];rfl
     | cons y r ih2=>
       intro hl
       obtain ⟨i,hi⟩:=List.getElem?_of_mem (hl y List.mem_cons_self)
       have:=Nd.kid_lt hi
       rw [preTL,szL,List.length_append,ih y (by omega),ih2 fun z hz=>hl z (List.mem_cons_of_mem _ hz)]
    rw [key x.kids fun _ h=>h]
 have h1:∀ x:Nd,(preT x).length=szT x:=fun x=>h _ x (Nat.le_refl _)
 refine ⟨h1,fun l=>?_⟩
 induction l with
 | nil=>rw [preTL,szL];rfl
 | cons y r ih=>rw [preTL,szL,List.length_append,h1 y,ih]
theorem RjO.push {W wm w9:World} {B5 BT u:Nat} {v v':Value} {cs:List Value} (h:RjO W B5 BT v u) (h5:B5<BT) (hm:Below W.heap.size W wm) (hown':w9.ownsRow BT 153 4 v' (u+1) cs) (hg:wm.grownBy w9 v.ownBlock) (hat:v'.ownBlock=v.ownBlock∨v'.ownBlock=some wm.heap.size) (hone:∀ u∈cs,u.oneCell'=true):RjO (w9.setCell ⟨B5,0,none⟩ v') B5 BT v' (u+1)∧Fr W (w9.setCell ⟨B5,0,none⟩ v') (fun k=>k=B5∨some k=v.ownBlock)∧∀ g,v'.ownBlock=some g→v.ownBlock=some g∨W.heap.size≤g:=by
 have hlG:=h.b.lt
 have hz:=hm.size
 have f9:Fr W w9 (fun k=>some k=v.ownBlock):=(Fr.of_below hm _).trans (Fr.of_grown hg) fun _ _ e=>e
 have hnv:∀ g,v'.ownBlock=some g→¬ g=B5:=fun g hg e=>by have:=obg hown' g hg;omega
 refine ⟨⟨(h.b.fr f9 fun e=>?_).set 0 v',cs,(Fr.of_set w9 ⟨B5,0,none⟩ v').own hown' (fun g hg e=>hnv g hg e),hone⟩,(f9.mono fun _ _ e=>.inr e).trans (Fr.of_set w9 ⟨B5,0,none⟩ v') fun k _ e=>.inl e,fun g hg=>?_⟩
 ·have:=(h.lt B5 e.symm).1;omega
 ·rcases hat with q | q
  ·exact .inl (q▸hg)
  ·rw [q] at hg;cases hg;exact .inr (by omega)
theorem own_baseC {w:World} {base base':Nat} {e:TypeId} {size n:Nat} {v:Value} {xs:List Value} (h:w.ownsRow base e size v n xs) (hb:base'≤base):w.ownsRow base' e size v n xs:=
 ⟨h.1,h.2.imp id fun ⟨g,cap,cur,a,b,c⟩=>⟨g,cap,cur,a,Nat.le_trans hb b,c⟩⟩
theorem no_rj:(0:Nat)=0→∀ z∈([]:List Nd),rjB z=true:=fun _ _ hz=>nomatch hz
theorem no_own {C:Nat→Prop}:∀ g,(Value.slice none 0 0).ownBlock=some g→C g:=fun _ hg=>nomatch hg
attribute [local go_sem] Oper.semAt_some wide_fn wide_depth in
theorem ccheck_any {x:Nd} {pr:Int} (hx:szT x≤100000) (hd:dpT x≤1000) (hpre:∀ y∈preT x,RjPre y) {A:Option Addr} {cap:Nat} {w:World} (hK:NdsAt w A x.kids) :
  Calls Tryz.prog 58 #[.int .i64 pr,.agg (ndC x A cap)] w (CkrP x w):=by
 have H3:=kp (three_cells w #[.int .i64 pr] (ndC x A cap) #[.slice none 0 0] 3 26 58)
 have HK:=kp hK
 have HPR:=kp hpre
 obtain ⟨i0,hi0,hz0,hz1,hz2⟩:=info_parts info_rj
 have HI0:=kp (And.intro hi0 (And.intro hz0 (And.intro hz1 hz2)))
 clear hK hpre hi0 hz0 hz1 hz2
 refine (callsIn_wide (n:=0)).1 ?_
 refine callsIn_of_wp_marks Tryz.func58 rfl trivial ?_ rfl
 simp only [Tryz.ntmps58,List.size_toArray,List.length_cons,List.length_nil,Nat.reduceAdd,Nat.reduceSub,Array.replicate_succ,Array.replicate_zero,List.push_toArray,List.append_toArray,List.nil_append,List.cons_append]
 refine (wpIn_wide (n:=0)).2 ?_
 go_upto_region 2 with fail
 generalize World.alloc _ _=V at H3 ⊢
 obtain ⟨h1,h2,h3,h4,h5⟩:=H3.out
 have HC:=kp (walk_any (cap:=cap) hx (HK.out.mono h1))
 obtain ⟨a0,a1,a2,a3,_⟩:=h3.four
 have hla:=h3.lt
 clear h1 h2 h3 h4 h5
 go_wp2_with fail
 refine HC.out.mono ?_
 rintro e w1 ⟨Bt,A1,c1,rfl,hbt,hb1,hb2,hd1,hbl⟩
 have HW:=kp (And.intro hbt (And.intro hb1 (And.intro hb2 (And.intro hd1 hbl))))
 clear hbt hb1 hb2 hd1 hbl
 go_wp2_with fail
 have hB2:w.heap.size<V.heap.size:=by have:=H3.out.2.2.2.2;omega
 have hB5:w.heap.size+1+1<V.heap.size:=by have:=H3.out.2.2.2.2;omega
 have hVs:V.heap.size≤w1.heap.size:=HW.out.2.2.2.2.size
 have hwV:w.heap.size≤V.heap.size:=by omega
 refine (wpIn_wide (n:=0)).1 ?_
 refine wpIn_rangeWalk (lo:=V.heap.size) rfl rfl hx hd HW.out.1 HW.out.2.1 HW.out.2.2.2.1 (ChkI w V.heap.size w1.heap.size w.heap.size (w.heap.size+1+1) pr) NoX (ChkI.rng hwV hB2 hB5 hVs) (fun _ _ _ _ h _=>h) ⟨⟨bls H3.out.1 hwV HW.out.2.2.2.2,hVs⟩,fun k h=>h.1,H3.out.2.1.below HW.out.2.2.2.2,.slice none 0 0,0,⟨H3.out.2.2.2.1.below HW.out.2.2.2.2,[],World.ownsRow_nil _ _ _ _,fun _ h=>nomatch h⟩,Nat.zero_le _,no_rj,no_own⟩ ?round ?done ?stop
 case round=>
  intro X pre y Ay cy Ap np cp W hI hKy hcy hpr hXl hlt
  have HI:=kp hI
  have HBX:=kp (blb W (Obj.cells (ndC y Ay cy) 26))
  have HRX:=kp (bxn W (ndC y Ay cy) 26)
  have hyp:y∈preT x:=by
   obtain ⟨r,hr⟩:=hpr
   rw [← hr];simp
  have HPY:=kp (HPR.out y hyp)
  have hpl:pre.length<100000:=by
   have h1:=hpr.length_le
   rw [preT_len.1,List.length_append,List.length_singleton] at h1
   omega
  clear hI hKy hyp hpr
  gi_wp2
  refine ⟨HBX.out,?_⟩
  intro W2 hf2 hz2 hi2 hK2
  have hbx:Bx W2 W.heap.size (ndC y Ay cy):=HRX.out.fr hf2 (fun e=>by have e':W.heap.size=w1.heap.size+1:=e;omega)
  have HC2:=kp (reject_any HPY.out hcy hK2)
  have HI2:=kp hi2
  have HXL:=kp hXl
  obtain ⟨c0,c1',c2,c3,_⟩:=hbx.four
  have hlc:=hbx.lt
  have HS2:=kp (Nat.le_trans HBX.out.size hf2.size)
  clear hf2 hi2 hbx hz2 hK2 hXl
  gi_wp2
  refine (callsIn_wide.2 HC2.out).mono ?_
  rintro e W3 ⟨s,er,rfl,her,hb3⟩
  have HB3:=kp hb3
  have HER:=kp her
  have HI3:=kp (show ChkI w V.heap.size w1.heap.size w.heap.size (w.heap.size+1+1) pr X pre W3 from by
   obtain ⟨⟨i1,i2⟩,i3,i4,v,u,i5,i6,i7,i8⟩:=HI2.out
   exact ⟨⟨bls i1 i1.size hb3,Nat.le_trans i2 hb3.size⟩,i3,i4.below hb3,v,u,i5.fr (Fr.of_below hb3 fun _=>False) id (fun _ _=>id),i6,i7,i8⟩)
  have hne:=bne_int er 0
  clear hb3 her c0 c1' c2 c3 hlc
  by_cases h0:er=0
  ·rw [decide_eq_true h0] at hne
   have HZ:=kp (fun (a:Act)=>show rndPost w1.heap.size (ChkI w V.heap.size w1.heap.size w.heap.size (w.heap.size+1+1) pr) NoX X (pre++[y]) W2 .normal a W3 from by
    obtain ⟨i1,i3,i4,v,u,i5,i6,i7,i8⟩:=HI3.out
    refine ⟨Fr.of_below HB3.out _,i1,i3,i4,v,u,i5,by rw [List.length_append];omega,fun hu z hz=>?_,i8⟩
    rcases List.mem_append.1 hz with hz | hz
    ·exact i7 hu z hz
    ·rw [List.mem_singleton.1 hz];exact HER.out h0)
   clear h0
   gi_wp2
   exact HZ.out _
  ·rw [decide_eq_false h0] at hne
   clear h0
   obtain ⟨⟨i1,i2⟩,i3,i4,v,u,i5,i6,i7,i8⟩:=HI3.out
   obtain ⟨cs,hown,hone⟩:=i5.own
   have HONE:=kp (show ∀ u∈cs++[.int .i64 pr,.slice Ap np cp,.int .i64 er,.string s],u.oneCell'=true from fun u hu=>by
    rcases List.mem_append.1 hu with hu | hu
    ·exact hone u hu
    ·simp at hu;rcases hu with rfl | rfl | rfl | rfl<;>rfl)
   obtain ⟨Av,cv,rfl,hcv,hqq⟩:=ofb hown
   have HOW:=kp hown
   have HRJ:=kp i5
   have HU:=kp (show u≤100000 by omega)
   have HX8:=kp i8
   have HV3:=kp i2
   have b0:=i5.b.cell (j:=0) rfl
   have bf:=i5.b.free 0
   have hlb:=i5.b.lt
   have p0:=i4.cell (j:=0) rfl
   have hlp:=i4.lt
   have HF:=kp (fun (a:Act) (v':Value) (w':World) (hr:RjO w' (w.heap.size+1+1) V.heap.size v' (u+1)) (hf:Fr W3 w' (fun k=>k=w.heap.size+1+1∨some k=(Value.slice Av u cv).ownBlock)) (hn:∀ g,v'.ownBlock=some g→(Value.slice Av u cv).ownBlock=some g∨W3.heap.size≤g)=>show rndPost w1.heap.size (ChkI w V.heap.size w1.heap.size w.heap.size (w.heap.size+1+1) pr) NoX X (pre++[y]) W2 .normal a w' from by
    have hg:∀ g,(Value.slice Av u cv).ownBlock=some g→V.heap.size≤g:=fun g hg=>(i5.lt g hg).1
    have hz3:=HB3.out.size
    refine ⟨(Fr.of_below HB3.out _).trans hf fun k hk e=>?_,⟨hf.toBelow i1 i1.size fun k e=>?_,Nat.le_trans i2 hf.size⟩,i3,i4.fr hf fun e=>?_,v',u+1,hr,by rw [List.length_append,List.length_singleton];omega,fun e=>absurd e (Nat.succ_ne_zero u),fun g hg'=>?_⟩
    ·rcases e with e | e
     ·exact ⟨fun hx=>by have:=i3 k hx;omega,by omega,by omega⟩
     ·exact i8 k e.symm
    ·rcases e with e | e
     ·omega
     ·have:=hg k e.symm;omega
    ·rcases e with e | e
     ·omega
     ·have:=hg _ e.symm;omega
    ·rcases hn g hg' with e | e
     ·exact i8 g e
     ·have hs2:=HS2.out
      exact ⟨fun hx=>by have:=HXL.out g hx;omega,by omega,by omega⟩)
   clear i1 i2 i3 i4 i5 i6 i7 i8 hown hone hcv hqq
   gi_wp2_with (gi_at_builtin;go_loud (refine wpListIn_app _ rfl _ _ 58 rfl V.heap.size 153 i0 (.agg #[.int .i64 0,.slice none 0 0,.int .i64 0,.string ⟨#[]⟩]) 4 56 Tryz.underlying58 HI0.out.1 HI0.out.2.1 HI0.out.2.2.1 HI0.out.2.2.2 rfl (by decide) (.slice Av u cv) u cs rfl (obl HOW.out (blb _ _)) (some ⟨W3.heap.size,0,none⟩) 1 1 [.int .i64 pr,.slice Ap np cp,.int .i64 er,.string s] rfl rfl (cnu W3 rfl [.int .i64 pr,.slice Ap np cp,.int .i64 er,.string s] _) (fun u hu=>by simp at hu;rcases hu with rfl | rfl | rfl | rfl<;>rfl) (by have:=HU.out;unfold maxLen;omega) (by have:=HU.out;omega) (by have:=HV3.out;simp;omega) ?_;intro v' w9 hown' hgrow hat;have HM:=kp (HRJ.out.push (by omega) (blb W3 _) hown' hgrow hat HONE.out);have z0:=(((HRJ.out.b.below (blb _ _)).fr (Fr.of_grown hgrow) (fun e=>by have:=obg HOW.out _ e.symm;omega)).cell (j:=0) rfl);have zf:=(((HRJ.out.b.below (blb _ _)).fr (Fr.of_grown hgrow) (fun e=>by have:=obg HOW.out _ e.symm;omega)).free 0);have hlz:=block_lt_of_cell z0;obtain ⟨A9,c9,rfl,hc9,hqq⟩:=ofb hown';clear hqq hc9 hown' hgrow hat))
   exact HF.out _ _ _ HM.out.1 HM.out.2.1 HM.out.2.2
 case done=>
  intro X W hI hD
  obtain ⟨i1,i3,i4,v,u,i5,i6,i7,i8⟩:=hI
  have b0:=i5.b.cell (j:=0) rfl
  have hlb:=i5.b.lt
  have HB:=kp i1.1
  have HR:=kp i5
  have HN:=kp i7
  have HL:=kp (show u≤szT x by rw [← preT_len.1];exact i6)
  have HD:=kp hD
  have HG:=kp i8
  clear i1 i3 i4 i5 i6 i7 i8 hD
  go_simp
  go_wp2_with fail
  have hl1:=(Array.getElem?_eq_some_iff.1 HD.out).1
  refine leave_mark (v:=v) HD.out (by simp [results,Tryz.results58,go_sem]) ⟨v,u,rfl,HL.out,?_,HN.out,(fr_put _ _ _).toBelow HB.out HB.out.size fun k e=>by have e':k=w1.heap.size:=e;omega⟩
  obtain ⟨cs,ho,hone⟩:=HR.out.own
  exact ⟨cs,own_baseC ((fr_put W w1.heap.size (.deferred none)).own ho fun g hg e=>(HG.out g hg).2.1 e) (by omega),hone⟩
 case stop=>
  rintro c q W hq h hD
  exact h.elim
theorem cells_of_own {w:World} {base:Nat} {e:TypeId} {size n:Nat} {v:Value} {cs:List Value} (h:w.ownsRow base e size v n cs):∃ A c,v=.slice A n c∧CellsAt w A cs:=by
 obtain ⟨A,c,rfl,hc,hA⟩:=ofb h
 refine ⟨A,c,rfl,fun j u hu=>?_⟩
 have hl:=h.1
 have hj:=(List.getElem?_eq_some_iff.1 hu).1
 have hn:0<n:=by
  rcases Nat.eq_zero_or_pos n with e | e
  ·rw [e,Nat.zero_mul] at hl;omega
  ·exact e
 obtain ⟨g,rfl,_⟩:=hA hn
 have:=h.cells (g:=g) rfl j u hu
 rw [add0] at this
 refine ⟨g,0,rfl,?_⟩
 rw [Nat.zero_add];exact this
theorem own_len {w:World} {base:Nat} {e:TypeId} {size n:Nat} {v:Value} {cs:List Value} (h:w.ownsRow base e size v n cs):cs.length=n*size:=h.1
structure CkL (P:Pg) (W:World) (k u:Nat) (v:Value) (wr:World):Prop where
 b:Below W.heap.size W wr
 own:∃ cs,wr.ownsRow W.heap.size 153 4 v u cs∧∀ u∈cs,u.oneCell'=true
 le:u≤k*2000
 rj:u=0→∀ q∈P.procs.take k,∀ z∈preT q.body,rjB z=true
def CkA (P:Pg) (w:World) (e:Ending) (w':World):Prop:=∃ A u c,e=.returned (.slice A u c)∧(u=0→∀ b,(b=P.main∨∃ p∈P.procs,b=p.body)→∀ z∈preT b,rjB z=true)∧Below w.heap.size w w'
theorem CkL.next {P:Pg} {W wr w1 w2:World} {k u u8:Nat} {v v':Value} {cs cs8:List Value} {q:Pc} (h:CkL P W k u v wr) (hq:P.procs[k]?=some q) (hb:Below wr.heap.size wr w1) (hown:wr.ownsRow W.heap.size 153 4 v u cs) (hone:∀ u∈cs,u.oneCell'=true) (hone8:∀ u∈cs8,u.oneCell'=true) (hu8:u8≤2000) (hr8:u8=0→∀ z∈preT q.body,rjB z=true)
  (hown':w2.ownsRow W.heap.size 153 4 v' (u+u8) (cs++cs8)) (hg:w1.grownBy w2 v.ownBlock):CkL P W (k+1) (u+u8) v' w2:=by
 refine ⟨(Fr.of_grown hg).toBelow (bls h.b h.b.size hb) (Nat.le_trans h.b.size hb.size) fun g hg=>obg hown g hg.symm,⟨_,hown',fun x hx=>?_⟩,by have:=h.le;omega,fun h0 q' hq'=>?_⟩
 ·rcases List.mem_append.1 hx with hx | hx
  ·exact hone x hx
  ·exact hone8 x hx
 ·have hkl:=(List.getElem?_eq_some_iff.1 hq).1
  have hqe:P.procs[k]=q:=Option.some.inj ((List.getElem?_eq_getElem hkl).symm.trans hq)
  rw [← List.take_append_getElem hkl,List.mem_append,List.mem_singleton,hqe] at hq'
  rcases hq' with hq' | rfl
  ·exact h.rj (by omega) q' hq'
  ·exact hr8 (by omega)
theorem cCheck_any (P:Pg) (hf:PgFit P) (hv:validB P=true) (hc:chkN P=0) (Av Ap Am:Option Addr) (cv cp cm:Nat) (w:World) (hK:PgAt w Av Ap Am P) (hS:SlOk Av P.vars.length cv) :
  Calls Tryz.prog 25 #[.agg (pgC P Av Ap Am cv cp cm)] w (CkA P w):=by
 have HB:=kp (blb w (Obj.cells (pgC P Av Ap Am cv cp cm) 28))
 have HRX:=kp (bxn w (pgC P Av Ap Am cv cp cm) 28)
 have HK:=kp (hK.mono HB.out)
 have HVL:=kp (fun (V:World) (hV:PgAt V Av Ap Am P)=>show Calls Tryz.prog 23 #[.agg (pgC P Av Ap Am cv cp cm)] V fun e w'=>e=.returned (.bool true)∧Below V.heap.size V w' from by have:=valid_any P hf Av Ap Am cv cp cm V hV;rwa [hv] at this)
 have HSC:=kp (fun (V:World) (hV:PgAt V Av Ap Am P)=>show Calls Tryz.prog 24 #[.agg (pgC P Av Ap Am cv cp cm)] V (ChkP 0 V) from by have:=scheck_any P hf Av Ap Am cv cp cm V hV hS;rwa [hv,if_pos rfl,hc] at this)
 have HVB:=kp (val_bnd hv)
 have HF:=kp hf
 have hlp:P.procs.length≤64:=(val_bnd hv).lp
 obtain ⟨i0,hi0,hz0,hz1,hz2⟩:=info_parts info_rj
 have HI0:=kp (And.intro hi0 (And.intro hz0 (And.intro hz1 hz2)))
 clear hK hf hv hc hS hi0 hz0 hz1 hz2
 go_enter Tryz.func25,Tryz.ntmps25
 go_upto_region 1 with fail
 generalize w.alloc _=V at HB HRX HK ⊢
 obtain ⟨a0,a1,a2,a3,a4,a5⟩:=HRX.out.six1
 have hla:=HRX.out.lt
 go_wp2_with fail
 refine (HVL.out V HK.out).mono ?_
 rintro e V1 ⟨rfl,hb⟩
 have HB1:=kp (bls HB.out HB.out.size hb)
 have HR1:=kp (HRX.out.below hb)
 have HK1:=kp (HK.out.mono hb)
 clear hb a0 a1 a2 a3 a4 a5 hla
 obtain ⟨a0,a1,a2,a3,a4,a5⟩:=HR1.out.six1
 have hla:=HR1.out.lt
 go_wp2_with fail
 refine (HSC.out V1 HK1.out).mono ?_
 rintro e V2 ⟨As,cs,rfl,hb⟩
 have HB2:=kp (bls HB1.out HB1.out.size hb)
 have HR2:=kp (HR1.out.below hb)
 have HK2:=kp (HK1.out.mono hb)
 clear hb a0 a1 a2 a3 a4 a5 hla
 obtain ⟨a0,a1,a2,a3,a4,a5⟩:=HR2.out.six1
 have hla:=HR2.out.lt
 go_upto_region 5 with fail
 go_loopw [18,3] (fun i l wr=>∃ (k u:Nat) (A:Option Addr) (c:Nat),k≤P.procs.length∧i=.int .i64 k∧l=.slice A u c∧Hid (CkL P V2 k u (.slice A u c) wr)) (fun i _ _=>P.procs.length - (intOf i).toNat)
 case atStart=>exact ⟨0,0,none,0,by omega,rfl,rfl,kp ⟨Below.refl _ _,⟨[],World.ownsRow_nil _ _ _ _,fun _ h=>nomatch h⟩,by omega,fun _ q hq=>by simp at hq⟩⟩
 case round=>
  obtain ⟨k,u,A,c,hk,rfl,rfl,HR⟩:=hrel
  clear a0 a1 a2 a3 a4 a5 hla
  have HPB:=kp (HR2.out.below HR.out.b)
  by_cases hin:k<P.procs.length
  ·have HKR:=kp (HK2.out.mono HR.out.b)
   have HQ:=kp (List.getElem?_eq_getElem hin)
   obtain ⟨bk,ok,Aq,cq,Ak,ck,rfl,hbk,k0,k1,k2,k3,k4,k5,_,hkb⟩:=HKR.out.p.at_ hin
   have hqm:=List.getElem_mem hin
   have HBN:=kp (HVB.out.p _ hqm).2.2.2
   have HFT:=kp (HF.out.p _ hqm).b
   have HKB:=kp hkb
   have r0:(0:Int)≤k:=by omega
   have r1:(k:Int)<P.procs.length:=by omega
   clear hkb hqm
   have HBX:=kp (blb wr (Obj.cells (qC P.procs[k] Aq Ak cq ck) 91))
   have HQX:=kp (bxn wr (qC P.procs[k] Aq Ak cq ck) 91)
   generalize P.procs[k]=q at *
   go_upto_region 7 with fail
   generalize wr.alloc _=W at HBX HQX ⊢
   have HCK:=kp (ccheck_any (pr:=(k:Int)) (cap:=ck) (by have:=HBN.out.s;omega) (by have:=HBN.out.d;omega) (any_pre _ q.body (Nat.le_refl _) (.inr (.inr HBN.out.b)) (by have:=HBN.out.s;omega) (by have:=HBN.out.d;omega) HFT.out) (HKB.out.mono HBX.out))
   obtain ⟨q0,q1,q2,q3,q4,q5⟩:=HQX.out.six1
   have hlq:=HQX.out.lt
   clear k0 k1 k2 k3 k4 k5 hbk
   go_wp2_with fail
   refine HCK.out.mono ?_
   rintro e W1 ⟨v8,u8,rfl,hu8,⟨cs8,ho8,hone8⟩,hr8,hb8⟩
   obtain ⟨A8,c8,rfl,hca8⟩:=cells_of_own ho8
   have HB8:=kp (bls HBX.out HBX.out.size hb8)
   have HC8:=kp (And.intro hca8 (And.intro hone8 (And.intro (own_len ho8) (And.intro (show u8≤2000 by have:=HBN.out.s;omega) hr8))))
   obtain ⟨cs0,ho0,hone0⟩:=HR.out.own
   have HO0:=kp (And.intro ho0 hone0)
   have HLE:=kp (show u≤200000 by have:=HR.out.le;omega)
   clear hu8 ho8 hone8 hr8 hb8 hca8 ho0 hone0 q0 q1 q2 q3 q4 q5 hlq
   go_wp2_with (at_builtin;go_loud (refine wpList_app _ rfl _ _ 58 rfl V2.heap.size 153 i0 (.agg #[.int .i64 0,.slice none 0 0,.int .i64 0,.string ⟨#[]⟩]) 4 56 Tryz.underlying58 HI0.out.1 HI0.out.2.1 HI0.out.2.2.1 HI0.out.2.2.2 rfl (by decide) (.slice A u c) u cs0 rfl (obl HO0.out.1 HB8.out) A8 u8 c8 cs8 rfl HC8.out.2.2.1 HC8.out.1 HC8.out.2.1 (by have:=HLE.out;have:=HC8.out.2.2.2.1;unfold maxLen;omega) (by have:=HLE.out;have:=HC8.out.2.2.2.1;omega) (Nat.le_trans HR.out.b.size HB8.out.size) ?_;intro v' w9 hown' hgrow hat;obtain ⟨A9,c9,rfl,hc9,hqq⟩:=ofb hown';have HM:=kp (HR.out.next HQ.out HB8.out HO0.out.1 HO0.out.2 HC8.out.2.1 HC8.out.2.2.2.1 HC8.out.2.2.2.2 hown' hgrow);clear hqq hc9 hown' hgrow hat))
   go_wp2_with fail
   exact ⟨⟨k+1,u+u8,A9,c9,by omega,by go_num,rfl,HM⟩,by simp [intOf];omega⟩
  ·obtain rfl:k=P.procs.length:=by omega
   have HKM:=kp (HK2.out.m.mono HR.out.b)
   have HCK:=kp (ccheck_any (pr:=-1) (cap:=cm) (by have:=HVB.out.m.s;omega) (by have:=HVB.out.m.d;omega) (any_pre _ P.main (Nat.le_refl _) (.inr (.inr HVB.out.m.b)) (by have:=HVB.out.m.s;omega) (by have:=HVB.out.m.d;omega) HF.out.m) HKM.out)
   obtain ⟨q0,q1,q2,q3,q4,q5⟩:=HPB.out.six1
   have hlq:=HPB.out.lt
   clear hin hk
   have HM0:=kp HVB.out.m.s
   go_wp2_with fail
   refine HCK.out.mono ?_
   rintro e W1 ⟨v8,u8,rfl,hu8,⟨cs8,ho8,hone8⟩,hr8,hb8⟩
   obtain ⟨A8,c8,rfl,hca8⟩:=cells_of_own ho8
   have HB8:=kp hb8
   have HC8:=kp (And.intro hca8 (And.intro hone8 (And.intro (own_len ho8) (And.intro (show u8≤2000 by have:=HM0.out;omega) hr8))))
   obtain ⟨cs0,ho0,hone0⟩:=HR.out.own
   have HO0:=kp ho0
   have HLE:=kp (show u≤200000 by have:=HR.out.le;omega)
   have HZ:=kp (fun (A9:Option Addr) (c9:Nat) (w9:World) (hg:W1.grownBy w9 (Value.slice A u c).ownBlock)=>show CkA P w (.returned (.slice A9 (u+u8) c9)) w9 from by
    refine ⟨A9,u+u8,c9,rfl,fun h0 b hb=>?_,bls HB2.out HB2.out.size ((Fr.of_grown hg).toBelow (bls HR.out.b HR.out.b.size HB8.out) (Nat.le_trans HR.out.b.size HB8.out.size) fun g hg=>obg HO0.out g hg.symm)⟩
    rcases hb with rfl | ⟨q,hq,rfl⟩
    ·exact HC8.out.2.2.2.2 (by omega)
    ·exact HR.out.rj (by omega) q (by rw [List.take_length];exact hq))
   clear hu8 ho8 hone8 hr8 hb8 hca8 ho0 hone0 q0 q1 q2 q3 q4 q5 hlq
   go_wp2_with (at_builtin;go_loud (refine wpList_app _ rfl _ _ 58 rfl V2.heap.size 153 i0 (.agg #[.int .i64 0,.slice none 0 0,.int .i64 0,.string ⟨#[]⟩]) 4 56 Tryz.underlying58 HI0.out.1 HI0.out.2.1 HI0.out.2.2.1 HI0.out.2.2.2 rfl (by decide) (.slice A u c) u cs0 rfl (obl HO0.out HB8.out) A8 u8 c8 cs8 rfl HC8.out.2.2.1 HC8.out.1 HC8.out.2.1 (by have:=HLE.out;have:=HC8.out.2.2.2.1;unfold maxLen;omega) (by have:=HLE.out;have:=HC8.out.2.2.2.1;omega) (Nat.le_trans HR.out.b.size HB8.out.size) ?_;intro v' w9 hown' hgrow hat;obtain ⟨A9,c9,rfl,hc9,hqq⟩:=ofb hown';have HM:=kp (HZ.out A9 c9 w9 hgrow);clear hqq hc9 hown' hgrow hat))
   go_ret
   exact HM.out
theorem no_tt {p:Prop}:false=true→p:=fun h=>Bool.noConfusion h
def OkP (P:Pg) (w:World) (e:Ending) (w':World):Prop:=∃ b:Bool,e=.returned (.bool b)∧(b=true→PgOk P)∧Below w.heap.size w w'
theorem ok_any (P:Pg) (hf:PgFit P) (Av Ap Am:Option Addr) (cv cp cm:Nat) (w:World) (hK:PgAt w Av Ap Am P) (hS:SlOk Av P.vars.length cv) :
  Calls Tryz.prog 13 #[.agg (pgC P Av Ap Am cv cp cm)] w (OkP P w):=by
 have HB:=kp (blb w (Obj.cells (pgC P Av Ap Am cv cp cm) 28))
 have HRX:=kp (bxn w (pgC P Av Ap Am cv cp cm) 28)
 have HK:=kp (hK.mono HB.out)
 have HVL:=kp (fun (V:World) (hV:PgAt V Av Ap Am P)=>valid_any P hf Av Ap Am cv cp cm V hV)
 have HSC:=kp (fun (V:World) (hV:PgAt V Av Ap Am P)=>scheck_any P hf Av Ap Am cv cp cm V hV hS)
 have HCC:=kp (fun (hv:validB P=true) (hc:chkN P=0) (V:World) (hV:PgAt V Av Ap Am P)=>cCheck_any P hf hv hc Av Ap Am cv cp cm V hV hS)
 have HPO:=kp (fun (hv:validB P=true) (hc:chkN P=0) (hr:∀ b,(b=P.main∨∃ p∈P.procs,b=p.body)→∀ z∈preT b,rjB z=true)=>(⟨hv,hc,hr⟩:PgOk P))
 have hcn:chkN P≤100000000∨True:=.inr trivial
 generalize validB P=bv at HVL HSC HCC HPO
 clear hK hf hS hcn
 cases bv with
 | false=>
   go_enter Tryz.func13,Tryz.ntmps13
   go_upto_region 1 with fail
   generalize w.alloc _=V at HB HRX HK ⊢
   obtain ⟨a0,a1,a2,a3,a4,a5⟩:=HRX.out.six1
   have hla:=HRX.out.lt
   go_wp2_with fail
   refine (HVL.out V HK.out).mono ?_
   rintro e V1 ⟨rfl,hb⟩
   have HB1:=kp (bls HB.out HB.out.size hb)
   clear hb a0 a1 a2 a3 a4 a5 hla
   go_wp2_with fail
   go_ret
   exact ⟨false,rfl,no_tt,HB1.out⟩
 | true=>
   go_enter Tryz.func13,Tryz.ntmps13
   go_upto_region 1 with fail
   generalize w.alloc _=V at HB HRX HK ⊢
   obtain ⟨a0,a1,a2,a3,a4,a5⟩:=HRX.out.six1
   have hla:=HRX.out.lt
   go_wp2_with fail
   refine (HVL.out V HK.out).mono ?_
   rintro e V1 ⟨rfl,hb⟩
   have HB1:=kp (bls HB.out HB.out.size hb)
   have HR1:=kp (HRX.out.below hb)
   have HK1:=kp (HK.out.mono hb)
   clear hb a0 a1 a2 a3 a4 a5 hla
   obtain ⟨a0,a1,a2,a3,a4,a5⟩:=HR1.out.six1
   have hla:=HR1.out.lt
   have HS1:=kp (show Calls Tryz.prog 24 #[.agg (pgC P Av Ap Am cv cp cm)] V1 (ChkP (chkN P) V1) from HSC.out V1 HK1.out)
   go_wp2_with fail
   refine HS1.out.mono ?_
   rintro e V2 ⟨As,cs,rfl,hb⟩
   have HB2:=kp (bls HB1.out HB1.out.size hb)
   have HR2:=kp (HR1.out.below hb)
   have HK2:=kp (HK1.out.mono hb)
   clear hb a0 a1 a2 a3 a4 a5 hla
   obtain ⟨a0,a1,a2,a3,a4,a5⟩:=HR2.out.six1
   have hla:=HR2.out.lt
   have hq:((chkN P:Int) == 0)=decide (chkN P=0):=beqD _ 0
   by_cases h0:chkN P=0
   ·have HC:=kp (HCC.out trivial h0 V2 HK2.out)
    have HO:=kp (HPO.out trivial h0)
    rw [decide_eq_true h0] at hq
    clear h0
    go_wp2_with fail
    refine HC.out.mono ?_
    rintro e V3 ⟨A3,u,c3,rfl,hr,hb⟩
    have HB3:=kp (bls HB2.out HB2.out.size hb)
    have HR:=kp hr
    have hq2:((u:Int) == 0)=decide (u=0):=beqD _ 0
    clear hr hb a0 a1 a2 a3 a4 a5 hla
    by_cases h0:u=0
    ·rw [decide_eq_true h0] at hq2
     have HU:=kp h0
     clear h0
     go_wp2_with fail
     go_ret
     exact ⟨true,rfl,fun _=>HO.out (HR.out HU.out),HB3.out⟩
    ·rw [decide_eq_false h0] at hq2
     clear h0
     go_wp2_with fail
     go_ret
     exact ⟨false,rfl,no_tt,HB3.out⟩
   ·rw [decide_eq_false h0] at hq
    clear h0
    go_wp2_with fail
    go_ret
    exact ⟨false,rfl,no_tt,HB2.out⟩
end Go.Proofs.YtgbomnibedefoaaGreatDoor
