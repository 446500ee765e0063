import Derived.Test.YtgbomnibedefoaaGreatDoorQa18
import Derived.Test.YtgbomnibedefoaaGreatDoorQa19
import Derived.Test.YtgbomnibedefoaaGreatDoorQa24
set_option maxRecDepth 100000
set_option maxHeartbeats 8000000
namespace Go.Proofs.YtgbomnibedefoaaGreatDoor
open Go.ChangeShapes Go.WideShapes Go.ChangeAt Go.RowKit Go.Sort
theorem invT_kind_or (x:Nd) (h:x.kind=52∨x.kind=53∨x.kind=54):invT x=.mk x.kind x.num x.name (swapFL (x.kids.map (invK1 false))):=by
 rw [invT_eq,if_neg (by omega),if_pos h]
theorem invT_low (x:Nd) (h:x.kind≠52∧x.kind≠53∧x.kind≠54∧x.kind≠57):invT x=.mk (exK x.kind) x.num x.name (x.kids.map (invK1 false)):=by
 rw [invT_eq,if_neg h.2.2.2,if_neg (by omega)]
theorem invT_name (x:Nd):(invT x).name=x.name:=by
 rw [invT_eq];split;rfl;split<;>rfl
theorem map_same {l:List Nd} (h:∀ y∈l,y.kind≠57):l.map (invK1 false)=l:=by
 rw [List.map_congr_left (g:=id) fun y hy=>by unfold invK1;rw [if_neg (by have:=h y hy;simp [this])];rfl,List.map_id]
theorem map_true (l:List Nd):l.map (invK1 true)=l.map invT:=List.map_congr_left fun y _=>by unfold invK1;rw [if_pos (.inl rfl)]
theorem invT_block (x:Nd) (h:isBlT x=true):invT x=.mk x.kind x.num x.name (x.kids.map invT).reverse:=by
 rw [isBlT_eq] at h
 simp only [Bool.and_eq_true,decide_eq_true_eq] at h
 rw [invT_eq,if_pos h.1.1,map_true]
theorem blT_kids {x:Nd} (h:isBlT x=true):∀ y∈x.kids,isStT y=true:=fun y hy=>by
 rw [isBlT_eq] at h
 simp only [Bool.and_eq_true] at h
 exact List.all_eq_true.1 h.2 y hy
theorem ord_inv (b:Bool) (l:List Nd):ordK b ((l.map invT).reverse)=(ordK (!b) l).map invT:=by
 cases b with
 | false=>show (l.map invT).reverse=(l.reverse).map invT;rw [List.map_reverse]
 | true=>show ((l.map invT).reverse).reverse=l.map invT;rw [List.reverse_reverse]
theorem ord_mem {b:Bool} {l:List Nd} {y:Nd} (h:y∈ordK b l):y∈l:=by cases b;exact h;exact List.mem_reverse.1 h
structure Four (x:Nd) (a b c d:Nd):Prop where
 kids:x.kids=[a,b,c,d]
 ka:a.kind≤23
 kd:d.kind≤23
 b1:isBlT b=true
 b2:isBlT c=true
theorem blT_kind {x:Nd} (h:isBlT x=true):x.kind=57:=by
 rw [isBlT_eq] at h
 simp only [Bool.and_eq_true,decide_eq_true_eq] at h
 exact h.1.1
theorem st_four {x:Nd} (h:isStT x=true) (hk:x.kind=52∨x.kind=53):∃ a b c d,Four x a b c d:=by
 rw [isStT_eq] at h
 unfold isStK at h
 rw [if_neg (by omega),if_neg (by omega),if_neg (by omega),if_neg (by omega),if_neg (by omega),if_pos hk] at h
 simp only [Bool.and_eq_true,decide_eq_true_eq,List.all_cons,List.all_nil,id] at h
 obtain ⟨_,hl,h0,h1,h2,h3,_⟩:=h
 match hx:x.kids,hl with
 | [a,b,c,d],_=>
   have e0:kid x 0=a:=kid_eq (by rw [hx];rfl)
   have e3:kid x 3=d:=kid_eq (by rw [hx];rfl)
   have e1:=blD (show x.kids[1]?=some b by rw [hx];rfl)
   have e2:=blD (show x.kids[2]?=some c by rw [hx];rfl)
   exact ⟨a,b,c,d,hx,ex_kind (e0▸h0),ex_kind (e3▸h3),e1▸h1,e2▸h2⟩
structure Three (x:Nd) (a b c:Nd):Prop where
 kids:x.kids=[a,b,c]
 ka:a.kind≤23
 kc:c.kind≤23
 b1:isBlT b=true
theorem st_three {x:Nd} (h:isStT x=true) (hk:x.kind=54):∃ a b c,Three x a b c:=by
 rw [isStT_eq] at h
 unfold isStK at h
 rw [if_neg (by omega),if_neg (by omega),if_neg (by omega),if_neg (by omega),if_neg (by omega),if_neg (by omega),if_pos hk] at h
 simp only [Bool.and_eq_true,decide_eq_true_eq,List.all_cons,List.all_nil,id] at h
 obtain ⟨_,hl,h0,h1,h2,_⟩:=h
 match hx:x.kids,hl with
 | [a,b,c],_=>
   have e0:kid x 0=a:=kid_eq (by rw [hx];rfl)
   have e2:kid x 2=c:=kid_eq (by rw [hx];rfl)
   have e1:=blD (show x.kids[1]?=some b by rw [hx];rfl)
   exact ⟨a,b,c,hx,ex_kind (e0▸h0),ex_kind (e2▸h2),e1▸h1⟩
theorem st_one {x:Nd} (h:isStT x=true) (hk:x.kind=55):∃ a,x.kids=[a]∧isBlT a=true:=by
 rw [isStT_eq] at h
 unfold isStK at h
 rw [if_neg (by omega),if_neg (by omega),if_neg (by omega),if_neg (by omega),if_neg (by omega),if_neg (by omega),if_neg (by omega),if_pos hk] at h
 simp only [Bool.and_eq_true,decide_eq_true_eq,List.all_cons,List.all_nil,id] at h
 obtain ⟨_,hl,h0,_⟩:=h
 match hx:x.kids,hl with
 | [a],_=>
   have e1:=blD (show x.kids[0]?=some a by rw [hx];rfl)
   exact ⟨a,rfl,e1▸h0⟩
theorem kid_mk (k:Nat) (n:Int) (s:ByteArray) (l:List Nd) (i:Nat) (y:Nd) (h:l[i]?=some y):kid (.mk k n s l) i=y:=kid_eq h
theorem keep_of {y:Nd} (h:y.kind≤23):invK1 false y=y:=by unfold invK1;rw [if_neg (by simp;omega)]
theorem inv_of {y:Nd} (h:isBlT y=true):invK1 false y=invT y:=by unfold invK1;rw [if_pos (.inr (blT_kind h))]
theorem four_inv {x a b c d:Nd} (h:Four x a b c d) (hk:x.kind=52∨x.kind=53):invT x=.mk x.kind x.num x.name [d,invT b,invT c,a]:=by
 rw [invT_kind_or x (by omega),h.kids]
 simp only [List.map_cons,List.map_nil,keep_of h.ka,keep_of h.kd,inv_of h.b1,inv_of h.b2]
 rfl
theorem three_inv {x a b c:Nd} (h:Three x a b c) (hk:x.kind=54):invT x=.mk x.kind x.num x.name [c,invT b,a]:=by
 rw [invT_kind_or x (by omega),h.kids]
 simp only [List.map_cons,List.map_nil,keep_of h.ka,keep_of h.kc,inv_of h.b1]
 rfl
theorem st_plain {x:Nd} (h:isStT x=true) (hk:x.kind≠52∧x.kind≠53∧x.kind≠54∧x.kind≠55):∀ y∈x.kids,y.kind≠57:=fun y hy e=>by
 have:=st_kids_low h hk y hy
 omega
where
 st_kids_low {x:Nd} (h:isStT x=true) (hk:x.kind≠52∧x.kind≠53∧x.kind≠54∧x.kind≠55):∀ y∈x.kids,y.kind≤23:=fun y hy=>by
  obtain ⟨i,hi⟩:=List.getElem?_of_mem hy
  have hil:=(List.getElem?_eq_some_iff.1 hi).1
  have hkd:=kid_eq hi
  rw [isStT_eq] at h
  unfold isStK at h
  by_cases c1:x.kind=40∨x.kind=41∨x.kind=42∨x.kind=56
  ·rw [if_pos c1] at h
   simp only [Bool.and_eq_true,decide_eq_true_eq,List.all_cons,List.all_nil,id] at h
   obtain ⟨_,hl,h0,h1,_⟩:=h
   match i,hil,hkd with
   | 0,_,e=>exact plc_kind (e▸h0)
   | 1,_,e=>exact ex_kind (e▸h1)
   | i+2,hil,_=>omega
  rw [if_neg c1] at h
  by_cases c2:x.kind=43
  ·rw [if_pos c2] at h
   simp only [Bool.and_eq_true,decide_eq_true_eq,List.all_cons,List.all_nil,id] at h
   obtain ⟨_,hl,h0,h1,_⟩:=h
   match i,hil,hkd with
   | 0,_,e=>exact plc_kind (e▸h0)
   | 1,_,e=>exact plc_kind (e▸h1)
   | i+2,hil,_=>omega
  rw [if_neg c2] at h
  by_cases c3:x.kind=44∨x.kind=45
  ·rw [if_pos c3] at h
   simp only [Bool.and_eq_true,decide_eq_true_eq,List.all_cons,List.all_nil,id] at h
   obtain ⟨_,hl,h0,_⟩:=h
   match i,hil,hkd with
   | 0,_,e=>exact plc_kind (e▸h0)
   | i+1,hil,_=>omega
  rw [if_neg c3] at h
  by_cases c4:x.kind=46∨x.kind=47∨x.kind=48∨x.kind=49
  ·rw [if_pos c4] at h
   simp only [Bool.and_eq_true,decide_eq_true_eq,List.all_cons,List.all_nil,id] at h
   obtain ⟨_,hl,h0,_⟩:=h
   match i,hil,hkd with
   | 0,_,e=>exact plc_kind (e▸h0)
   | i+1,hil,_=>omega
  rw [if_neg c4] at h
  by_cases c5:x.kind=50∨x.kind=51
  ·rw [if_pos c5] at h
   simp only [Bool.and_eq_true] at h
   have:=List.all_eq_true.1 h.2 y hy
   unfold varB at this
   rw [Bool.and_eq_true] at this
   exact ex_kind this.2
  rw [if_neg c5,if_neg (by omega),if_neg (by omega),if_neg (by omega)] at h
  cases h
theorem low_inv {x:Nd} (h:isStT x=true) (hk:x.kind≠52∧x.kind≠53∧x.kind≠54∧x.kind≠55):invT x=.mk (exK x.kind) x.num x.name x.kids:=by
 have hp:=st_plain h hk
 have hx57:x.kind≠57:=fun e=>by
  rw [isStT_eq] at h
  unfold isStK at h
  rw [e] at h
  simp at h
 rw [invT_low x ⟨hk.1,hk.2.1,hk.2.2.1,hx57⟩,map_same hp]
theorem basicP_congr {env:List Ev} {kind:Nat} {n m:Nd} (hn:n.name=m.name) (hk:n.kids=m.kids) (σ:Mt) (p:Nat × Nat):basicP env kind n σ p=basicP env kind m σ p:=by
 have e1:kid n 1=kid m 1:=by unfold kid;rw [hk]
 unfold basicP;rw [hn,e1]
theorem basicT_congr {env:List Ev} {kind:Nat} {n m:Nd} (hn:n.name=m.name) (hk:n.kids=m.kids) (σ:Mt):basicT env kind n σ=basicT env kind m σ:=by
 have e0:kid n 0=kid m 0:=by unfold kid;rw [hk]
 unfold basicT;rw [e0]
 congr 1
 funext p
 exact basicP_congr hn hk σ p
def invTk:Tk→Tk
 | .st n=>.st (invT n)
 | .bl l=>.bl (l.map invT)
 | .hd n=>.hd (invT n)
 | .ck n=>.ck (invT n)
def TkI:Tk→Prop
 | .st n=>isStT n=true
 | .bl l=>∀ y∈l,isStT y=true
 | .hd n=>isStT n=true∧(n.kind=52∨n.kind=53)
 | .ck n=>isStT n=true∧(n.kind=52∨n.kind=53)
theorem ex_inv {P:List Pc} {F:Nat}:∀ (d:Nat) (t:Tk) (dep:Nat) (env:List Ev) (b:Bool) (σ:St),TkI t→ex P F d (invTk t) dep env b σ=ex P F d t dep env (!b) σ:=by
 intro d
 induction d with
 | zero=>intros;rfl
 | succ d ih=>
   intro t dep env b σ ht
   have hbl:∀ (y:Nd),isBlT y=true→∀ env σ,ex P F d (.bl (ordK b (invT y).kids)) dep env b σ=ex P F d (.bl (ordK (!b) y.kids)) dep env (!b) σ:=fun y hy env σ=>by
    rw [invT_block y hy]
    show ex P F d (.bl (ordK b (y.kids.map invT).reverse)) dep env b σ=_
    rw [ord_inv]
    exact ih (.bl (ordK (!b) y.kids)) dep env b σ fun z hz=>blT_kids hy z (ord_mem hz)
   rw [ex_succ,ex_succ]
   match t,ht with
   | .bl [],_=>rfl
   | .bl (x::l),ht=>
     show (ex P F d (.st (invT x)) dep env b σ).andThen (fun σ1=>ex P F d (.bl (l.map invT)) dep env b σ1)=(ex P F d (.st x) dep env (!b) σ).andThen fun σ1=>ex P F d (.bl l) dep env (!b) σ1
     have h1:=ih (.st x) dep env b σ (ht x List.mem_cons_self)
     have h2:(fun σ1=>ex P F d (.bl (l.map invT)) dep env b σ1)=fun σ1=>ex P F d (.bl l) dep env (!b) σ1:=funext fun σ1=>ih (.bl l) dep env b σ1 fun y hy=>ht y (List.mem_cons_of_mem _ hy)
     rw [h2]
     exact congrArg (fun r=>Rs.andThen r _) h1
   | .hd n,ht=>
     obtain ⟨x0,x1,x2,x3,h4⟩:=st_four ht.1 ht.2
     have e1:kid (invT n) 1=invT x1:=by rw [four_inv h4 ht.2];exact kid_mk _ _ _ _ _ _ rfl
     have f1:kid n 1=x1:=kid_eq (by rw [h4.kids];rfl)
     show (ex P F d (.bl (ordK b (kid (invT n) 1).kids)) dep env b σ).andThen (fun σ1=>ex P F d (.ck (invT n)) dep env b σ1)=(ex P F d (.bl (ordK (!b) (kid n 1).kids)) dep env (!b) σ).andThen fun σ1=>ex P F d (.ck n) dep env (!b) σ1
     rw [e1,f1,hbl x1 h4.b1]
     congr 1
     funext σ1
     exact ih (.ck n) dep env b σ1 ht
   | .ck n,ht=>
     obtain ⟨x0,x1,x2,x3,h4⟩:=st_four ht.1 ht.2
     have e2:kid (invT n) 2=invT x2:=by rw [four_inv h4 ht.2];exact kid_mk _ _ _ _ _ _ rfl
     have f2:kid n 2=x2:=kid_eq (by rw [h4.kids];rfl)
     have el:lstK (invT n) b=lstK n (!b):=by unfold lstK kid;rw [four_inv h4 ht.2,h4.kids];cases b<;>rfl
     have ef:fstK (invT n) b=fstK n (!b):=by unfold fstK kid;rw [four_inv h4 ht.2,h4.kids];cases b<;>rfl
     show exB P F (ex P F d) (.ck (invT n)) dep env b σ=_
     simp only [exB]
     rw [el,ef,e2,f2]
     congr 1
     funext b1 σ1
     cases b1 with
     | true=>rfl
     | false=>
       show (ex P F d (.bl (ordK b (invT x2).kids)) dep env b σ1).andThen _=(ex P F d (.bl (ordK (!b) x2.kids)) dep env (!b) σ1).andThen _
       rw [hbl x2 h4.b2]
       congr 1
       funext σ2
       congr 1
       funext b2 σ3
       cases b2 with
       | true=>rfl
       | false=>exact ih (.hd n) dep env b σ3 ht
   | .st n,ht=>
     show exB P F (ex P F d) (.st (invT n)) dep env b σ=_
     have ht:isStT n=true:=ht
     by_cases h52:n.kind=52
     ·obtain ⟨x0,x1,x2,x3,h4⟩:=st_four ht (.inl h52)
      have e1:kid (invT n) 1=invT x1:=by rw [four_inv h4 (.inl h52)];exact kid_mk _ _ _ _ _ _ rfl
      have e2:kid (invT n) 2=invT x2:=by rw [four_inv h4 (.inl h52)];exact kid_mk _ _ _ _ _ _ rfl
      have f1:kid n 1=x1:=kid_eq (by rw [h4.kids];rfl)
      have f2:kid n 2=x2:=kid_eq (by rw [h4.kids];rfl)
      have el:lstK (invT n) b=lstK n (!b):=by unfold lstK kid;rw [four_inv h4 (.inl h52),h4.kids];cases b<;>rfl
      have ef:fstK (invT n) b=fstK n (!b):=by unfold fstK kid;rw [four_inv h4 (.inl h52),h4.kids];cases b<;>rfl
      have ek:(invT n).kind=52:=by rw [four_inv h4 (.inl h52)];exact h52
      simp only [exB]
      rw [if_pos h52,if_pos ek,ef,el]
      congr 1
      funext b1 σ1
      have hb1:ex P F d (.bl (ordK b (kid (invT n) (if b1=true then 1 else 2)).kids)) dep env b σ1=ex P F d (.bl (ordK (!b) (kid n (if b1=true then 1 else 2)).kids)) dep env (!b) σ1:=by
       cases b1 with
       | true=>show ex P F d (.bl (ordK b (kid (invT n) 1).kids)) dep env b σ1=ex P F d (.bl (ordK (!b) (kid n 1).kids)) dep env (!b) σ1;rw [e1,f1];exact hbl x1 h4.b1 env σ1
       | false=>show ex P F d (.bl (ordK b (kid (invT n) 2).kids)) dep env b σ1=ex P F d (.bl (ordK (!b) (kid n 2).kids)) dep env (!b) σ1;rw [e2,f2];exact hbl x2 h4.b2 env σ1
      rw [hb1]
     by_cases h53:n.kind=53
     ·obtain ⟨x0,x1,x2,x3,h4⟩:=st_four ht (.inr h53)
      have ef:fstK (invT n) b=fstK n (!b):=by unfold fstK kid;rw [four_inv h4 (.inr h53),h4.kids];cases b<;>rfl
      have ek:(invT n).kind=53:=by rw [four_inv h4 (.inr h53)];exact h53
      simp only [exB]
      rw [if_neg h52,if_neg (by omega),if_pos h53,if_pos ek,ef]
      congr 1
      funext b1 σ1
      cases b1 with
      | true=>exact ih (.hd n) dep env b σ1 ⟨ht,.inr h53⟩
      | false=>rfl
     by_cases h54:n.kind=54
     ·obtain ⟨x0,x1,x2,h3⟩:=st_three ht h54
      have e1:kid (invT n) 1=invT x1:=by rw [three_inv h3 h54];exact kid_mk _ _ _ _ _ _ rfl
      have f1:kid n 1=x1:=kid_eq (by rw [h3.kids];rfl)
      have el:lstK (invT n) b=lstK n (!b):=by unfold lstK kid;rw [three_inv h3 h54,h3.kids];cases b<;>rfl
      have ef:fstK (invT n) b=fstK n (!b):=by unfold fstK kid;rw [three_inv h3 h54,h3.kids];cases b<;>rfl
      have ek:(invT n).kind=54:=by rw [three_inv h3 h54];exact h54
      have eo:openT env (invT n) b σ.m=openT env n (!b) σ.m:=by unfold openT;rw [ef,invT_name]
      have ec:∀ env m σ,closeT env (invT n) b m σ=closeT env n (!b) m σ:=fun env m σ=>by unfold closeT;rw [el]
      have ei:intV (invT n)=intV n:=by unfold intV;rw [invT_name]
      simp only [exB]
      rw [if_neg h52,if_neg (by omega),if_neg h53,if_neg (by omega),if_pos h54,if_pos ek,eo,e1,f1,ei]
      congr 1
      funext σ0
      congr 1
      funext σ1
      rw [hbl x1 h3.b1]
      congr 1
      funext σ2
      rw [ec]
     by_cases h55:n.kind=55
     ·obtain ⟨x0,hx,hbx⟩:=st_one ht h55
      have en:invT n=.mk n.kind n.num n.name [invT x0]:=by
       rw [invT_low n (by omega),hx]
       simp only [List.map_cons,List.map_nil,inv_of hbx]
       rw [h55];rfl
      have e1:kid (invT n) 0=invT x0:=by rw [en];exact kid_mk _ _ _ _ _ _ rfl
      have f1:kid n 0=x0:=kid_eq (by rw [hx];rfl)
      have ek:(invT n).kind=55:=by rw [en];exact h55
      have eo:openS env (invT n) σ.m=openS env n σ.m:=by unfold openS;rw [invT_name]
      have ei:stkV (invT n)=stkV n:=by unfold stkV;rw [invT_name]
      simp only [exB]
      rw [if_neg h52,if_neg (by omega),if_neg h53,if_neg (by omega),if_neg h54,if_neg (by omega),if_pos h55,if_pos ek,eo,e1,f1,ei]
      congr 1
      funext σ0
      congr 1
      funext σ1
      rw [hbl x0 hbx]
     have en:=low_inv ht ⟨h52,h53,h54,h55⟩
     by_cases h50:n.kind=50∨n.kind=51
     ·have ek:(invT n).kind=if n.kind=50 then 51 else 50:=by
       rw [en]
       show exK n.kind=_
       unfold exK
       rcases h50 with h | h<;>rw [h]<;>rfl
      have ek1:∀ b,(b != decide ((invT n).kind=51))=((!b) != decide (n.kind=51)):=fun b=>by
       rw [ek];rcases h50 with h | h<;>rw [h]<;>cases b<;>rfl
      have ek2:(invT n).kind=50∨(invT n).kind=51:=by rw [ek];split<;>simp
      have eks:(invT n).kids=n.kids:=by rw [en];rfl
      simp only [exB]
      rw [if_neg h52,if_neg (by omega),if_neg h53,if_neg (by omega),if_neg h54,if_neg (by omega),if_neg h55,if_neg (by omega),if_pos h50,if_pos ek2,invT_name,eks,ek1]
     ·have ek:(invT n).kind=invK n.kind:=by
       rw [en]
       show exK n.kind=_
       unfold exK
       rw [if_neg (by omega),if_neg (by omega)]
      have hr:∀ k,k≠50→k≠51→k≠52→k≠53→k≠54→k≠55→invK k≠50∧invK k≠51∧invK k≠52∧invK k≠53∧invK k≠54∧invK k≠55:=fun k=>by
       unfold invK;intros;split<;>(try omega)
       split<;>(try omega)
       split<;>(try omega)
       split<;>(try omega)
       split<;>(try omega)
       split<;>(try omega)
       split<;>(try omega)
       split<;>omega
      obtain ⟨g0,g1,g2,g3,g4,g5⟩:=hr n.kind (by omega) (by omega) h52 h53 h54 h55
      simp only [exB]
      rw [ek,if_neg h52,if_neg g2,if_neg h53,if_neg g3,if_neg h54,if_neg g4,if_neg h55,if_neg g5,if_neg h50,if_neg (by omega)]
      congr 1
      funext σ1
      rw [basicT_congr (n:=invT n) (m:=n) (invT_name n) (by rw [en];rfl),show (if b=true then invK (invK n.kind) else invK n.kind)=if (!b)=true then invK n.kind else n.kind by cases b;rfl;exact invK_invK _]
theorem there_back {P:List Pc} {T:List (Nat × Int)} {env:List Ev} {l:List Nd} {σ s:St} (hP:POk P) (hl:∀ y∈l,SOk P (env.map (·.v)) y) (hi:∀ y∈l,isStT y=true) (hE:EOk T env) (hM:MOk T σ.m) (hk:σ.k=0) {F d:Nat} (h:ex P F d (.bl l) 0 env false σ=.ok s) (F2:Nat) (hF:2*s.k≤F2) (b:Bool) :
  ∃ d,ex P F2 d (.bl (ordK b (l++(l.map invT).reverse))) 0 env b ⟨0,σ.m⟩=.ok ⟨2*s.k,σ.m⟩:=by
 obtain ⟨mM,_,hB⟩:=rev_all hP d (.bl l) 0 env false σ s T hl hE hM h
 have hB:Bk P 0 env true (.bl l.reverse) s.m σ.m s.k:=Bk.cast hB (by omega)
 obtain ⟨d1,e1⟩:=hB s.k 0 (by omega)
 obtain ⟨_,_,hB2⟩:=rev_all hP d1 (.bl l.reverse) 0 env true ⟨0,s.m⟩ ⟨0+s.k,σ.m⟩ T (fun y hy=>hl y (List.mem_reverse.1 hy)) hE mM e1
 have hB2:Bk P 0 env false (.bl l) σ.m s.m s.k:=by
  have h3:Bk P 0 env false (.bl l.reverse.reverse) σ.m s.m s.k:=Bk.cast hB2 (show 0+s.k - 0=s.k by omega)
  rwa [List.reverse_reverse] at h3
 have fin:∀ {t:List Nd} {b:Bool},Bk P 0 env b (.bl t) σ.m σ.m (s.k+s.k)→∃ d,ex P F2 d (.bl t) 0 env b ⟨0,σ.m⟩=.ok ⟨2*s.k,σ.m⟩:=fun hb=>by
  obtain ⟨d,e⟩:=hb F2 0 (by omega)
  exact ⟨d,by rw [e];congr 2;omega⟩
 cases b with
 | false=>
   refine fin (Bk.app (r1:=s.k) (r2:=s.k) hB2 fun F k hk=>?_)
   obtain ⟨d2,e2⟩:=hB F k hk
   refine ⟨d2,?_⟩
   rw [← List.map_reverse]
   exact (ex_inv d2 (.bl l.reverse) 0 env false ⟨k,s.m⟩ fun y hy=>hi y (List.mem_reverse.1 hy)).trans e2
 | true=>
   show ∃ d,ex P F2 d (.bl (l++(l.map invT).reverse).reverse) 0 env true ⟨0,σ.m⟩=_
   rw [List.reverse_append,List.reverse_reverse]
   refine fin (Bk.app (r1:=s.k) (r2:=s.k) (fun F k hk=>?_) hB)
   obtain ⟨d2,e2⟩:=hB2 F k hk
   exact ⟨d2,(ex_inv d2 (.bl l) 0 env true ⟨k,σ.m⟩ hi).trans e2⟩
abbrev Ro:=Nat × Nat
def RowR (w:World) (R:Nat→Ro) (r:Ro) (B:Nat) (e:TypeId) (s:Nat) (v:Value) (n:Nat) (xs:List Value):Prop:=w.ownsRow B e s v n xs∧∀ g,v.ownBlock=some g→R g=r
def BoxR (w:World) (R:Nat→Ro) (r:Ro) (b:Nat) (cs:Array Value):Prop:=Bx w b cs∧R b=r
theorem RowR.fr {w w':World} {R R':Nat→Ro} {r:Ro} {B:Nat} {e:TypeId} {s:Nat} {v:Value} {n:Nat} {xs:List Value} (h:RowR w R r B e s v n xs) {m:Nat→Prop} (hf:Fr w w' m) (hm:∀ k,k<w.heap.size→R k=r→¬ m k) (hR:∀ k,k<w.heap.size→R' k=R k):RowR w' R' r B e s v n xs:=
 ⟨hf.own h.1 fun g hg hmg=>hm g (h.1.lt g hg).2 (h.2 g hg) hmg,fun g hg=>(hR g (h.1.lt g hg).2).trans (h.2 g hg)⟩
theorem BoxR.fr {w w':World} {R R':Nat→Ro} {r:Ro} {b:Nat} {cs:Array Value} (h:BoxR w R r b cs) {m:Nat→Prop} (hf:Fr w w' m) (hm:∀ k,k<w.heap.size→R k=r→¬ m k) (hR:∀ k,k<w.heap.size→R' k=R k):BoxR w' R' r b cs:=
 ⟨h.1.fr hf fun hmb=>hm b h.1.lt h.2 hmb,(hR b h.1.lt).trans h.2⟩
structure Fm where
 env:List Ev
 loc:Nat
 vV:Value
 cV:Value
def Fm.cs (f:Fm):List Value:=[f.vV,f.cV,.int .i64 f.loc]
def frCs (l:List Fm):List Value:=l.flatMap Fm.cs
structure Gs where
 SB:Nat
 TB:Nat
 cb:List Nat
 fs:List Fm
 it:List Value
 iv:Value
 ov:Value
 cv:Value
 R:Nat→Ro
def ptrs (cb:List Nat) (env:List Ev):List Value:=env.map fun e=>.pointer (some ⟨(cb[e.c]?).getD 0,0,none⟩)
structure StO (B:Nat) (w:World) (G:Gs) (σ:Mt):Prop where
 sto:∃ f0,G.fs[0]?=some f0∧BoxR w G.R (1,0) G.SB #[f0.vV,f0.cV,.int .i64 f0.loc,G.cv,.pointer (some ⟨G.TB,0,none⟩)]
 cal:RowR w G.R (5,0) B 108 3 G.cv (G.fs.length - 1) (frCs (G.fs.drop 1))
 tap:BoxR w G.R (2,0) G.TB #[G.iv,G.ov]
 inn:RowR w G.R (3,0) B 3 1 G.iv σ.inp.length (σ.inp.map (.int .i64))
 out:RowR w G.R (4,0) B 3 1 G.ov σ.out.length (σ.out.map (.int .i64))
 cel:∀ i b,G.cb[i]?=some b→∃ v,G.it[i]?=some v∧BoxR w G.R (8,i) b #[v]
 itm:∀ i c,σ.mem[i]?=some c→∃ v,G.it[i]?=some v∧RowR w G.R (9,i) B 3 1 v c.length (c.map (.int .i64))
 lcb:G.cb.length=σ.mem.length
 lit:G.it.length=σ.mem.length
 frv:∀ i f,G.fs[i]?=some f→RowR w G.R (6,i) B 62 3 f.vV f.env.length (vdCs (f.env.map (·.v)))
 frc:∀ i f,G.fs[i]?=some f→RowR w G.R (7,i) B 113 1 f.cV f.env.length (ptrs G.cb f.env)
 env:∀ (i:Nat) (f:Fm) (e:Ev),G.fs[i]?=some f→e∈f.env→e.c<σ.mem.length
 ge:∀ k,G.R k≠(0,0)→B≤k∧k<w.heap.size
theorem StO.fr {B:Nat} {w w':World} {G:Gs} {σ:Mt} (h:StO B w G σ) {m:Nat→Prop} (hf:Fr w w' m) (hm:∀ k,k<w.heap.size→G.R k≠(0,0)→G.R k≠(10,0)→¬ m k):StO B w' G σ:=by
 have hR:∀ k,k<w.heap.size→G.R k=G.R k:=fun _ _=>rfl
 have key:∀ (r:Ro),r≠(0,0)→r≠(10,0)→∀ k,k<w.heap.size→G.R k=r→¬ m k:=fun r h0 h1 k hk e=>hm k hk (e▸h0) (e▸h1)
 obtain ⟨f0,h1,h2⟩:=h.sto
 refine ⟨⟨f0,h1,h2.fr hf (key _ (by simp) (by simp)) hR⟩,h.cal.fr hf (key _ (by simp) (by simp)) hR,h.tap.fr hf (key _ (by simp) (by simp)) hR,h.inn.fr hf (key _ (by simp) (by simp)) hR,h.out.fr hf (key _ (by simp) (by simp)) hR,?_,?_,h.lcb,h.lit,?_,?_,h.env,fun k hk=>⟨(h.ge k hk).1,Nat.lt_of_lt_of_le (h.ge k hk).2 hf.size⟩⟩
 ·intro i b hb
  obtain ⟨v,e,hv⟩:=h.cel i b hb
  exact ⟨v,e,hv.fr hf (key _ (by simp) (by simp)) hR⟩
 ·intro i c hc
  obtain ⟨v,e,hv⟩:=h.itm i c hc
  exact ⟨v,e,hv.fr hf (key _ (by simp) (by simp)) hR⟩
 ·exact fun i f hi=>(h.frv i f hi).fr hf (key _ (by simp) (by simp)) hR
 ·exact fun i f hi=>(h.frc i f hi).fr hf (key _ (by simp) (by simp)) hR
theorem StO.below {B:Nat} {w w':World} {G:Gs} {σ:Mt} (h:StO B w G σ) (hb:Below w.heap.size w w'):StO B w' G σ:=h.fr (Fr.of_below hb fun _=>False) fun _ _ _ _=>id
structure FrL (w:World) (b o:Nat) (f:Fm):Prop where
 c0:w.cell? ⟨b,o,none⟩=some f.vV
 c1:w.cell? ⟨b,o+1,none⟩=some f.cV
 c2:w.cell? ⟨b,o+2,none⟩=some (.int .i64 f.loc)
 z0:w.frozen? ⟨b,o,none⟩=false
 z1:w.frozen? ⟨b,o+1,none⟩=false
 z2:w.frozen? ⟨b,o+2,none⟩=false
theorem frCs_len (l:List Fm):(frCs l).length=l.length*3:=by
 unfold frCs
 induction l with
 | nil=>rfl
 | cons v r ih=>rw [List.flatMap_cons,List.length_append,ih,List.length_cons];simp [Fm.cs];omega
theorem frCs_get {l:List Fm} {k:Nat} {f:Fm} (hk:l[k]?=some f):(frCs l)[k*3]?=some f.vV∧(frCs l)[k*3+1]?=some f.cV∧(frCs l)[k*3+2]?=some (.int .i64 f.loc):=by
 induction l generalizing k with
 | nil=>simp at hk
 | cons x r ih=>
   unfold frCs
   rw [List.flatMap_cons]
   cases k with
   | zero=>simp at hk;subst hk;exact ⟨rfl,rfl,rfl⟩
   | succ k=>
     have hl:x.cs.length=3:=rfl
     obtain ⟨h1,h2,h3⟩:=ih (k:=k) (by simpa using hk)
     refine ⟨?_,?_,?_⟩
     ·rw [List.getElem?_append_right (by omega),hl,show (k+1)*3 - 3=k*3 by omega];exact h1
     ·rw [List.getElem?_append_right (by omega),hl,show (k+1)*3+1 - 3=k*3+1 by omega];exact h2
     ·rw [List.getElem?_append_right (by omega),hl,show (k+1)*3+2 - 3=k*3+2 by omega];exact h3
theorem FrL.fr {w w':World} {b o:Nat} {f:Fm} (h:FrL w b o f) {m:Nat→Prop} (hf:Fr w w' m) (hn:¬ m b):FrL w' b o f:=by
 have hz:∀ j v,w.cell? ⟨b,j,none⟩=some v→w'.frozen? ⟨b,j,none⟩=w.frozen? ⟨b,j,none⟩:=fun j v hc=>by
  simp only [World.frozen?,hf.block b (block_lt_of_cell hc) hn]
 exact ⟨hf.cell h.c0 hn,hf.cell h.c1 hn,hf.cell h.c2 hn,(hz _ _ h.c0).trans h.z0,(hz _ _ h.c1).trans h.z1,(hz _ _ h.c2).trans h.z2⟩
theorem FrL.lt {w:World} {b o:Nat} {f:Fm} (h:FrL w b o f):b<w.heap.size:=block_lt_of_cell h.c0
structure CurL (w:World) (G:Gs) (fb fo:Nat) (f:Fm):Prop where
 last:G.fs[G.fs.length - 1]?=some f
 loc:FrL w fb fo f
 at_:(G.fs.length=1∧fb=G.SB∧fo=0)∨(1<G.fs.length∧G.R fb=(5,0)∧fo=(G.fs.length - 2)*3∧∃ n c,G.cv=.slice (some ⟨fb,0,none⟩) n c)
theorem StO.fpos {B:Nat} {w:World} {G:Gs} {σ:Mt} (h:StO B w G σ):1≤G.fs.length:=by
 obtain ⟨f0,h1,_⟩:=h.sto
 exact (List.getElem?_eq_some_iff.1 h1).1
theorem StO.cur {B:Nat} {w:World} {G:Gs} {σ:Mt} (h:StO B w G σ):∃ fb fo f,CurL w G fb fo f:=by
 have hp:=h.fpos
 by_cases h1:G.fs.length=1
 ·obtain ⟨f0,hf,hb⟩:=h.sto
  exact ⟨G.SB,0,f0,by rw [h1];exact hf,⟨hb.1.cell rfl,hb.1.cell rfl,hb.1.cell rfl,hb.1.free 0,hb.1.free 1,hb.1.free 2⟩,.inl ⟨h1,rfl,rfl⟩⟩
 ·have hlt:G.fs.length - 1<G.fs.length:=by omega
  have hf:=List.getElem?_eq_getElem hlt
  obtain ⟨hown,hro⟩:=h.cal
  rcases id hown.2 with ⟨_,h0⟩ | ⟨g,cap,cur,hcv,hg,hh,_,_,_,_⟩
  ·omega
  ·have hd:(G.fs.drop 1)[G.fs.length - 2]?=some G.fs[G.fs.length - 1]:=by
    rw [List.getElem?_drop,show 1+(G.fs.length - 2)=G.fs.length - 1 by omega];exact hf
   obtain ⟨c0,c1,c2⟩:=frCs_get hd
   have hcell:∀ j u,(frCs (G.fs.drop 1))[j]?=some u→w.cell? ⟨g,j,none⟩=some u:=fun j u hu=>by
    have:=hown.cells (g:=g) (by rw [hcv];rfl) j u hu
    rw [add0] at this;exact this
   have hfz:∀ j,w.frozen? ⟨g,j,none⟩=false:=fun j=>by simp [World.frozen?,hh]
   exact ⟨g,(G.fs.length - 2)*3,G.fs[G.fs.length - 1],hf,⟨hcell _ _ c0,hcell _ _ c1,hcell _ _ c2,hfz _,hfz _,hfz _⟩,.inr ⟨by omega,hro g (by rw [hcv];rfl),rfl,_,_,hcv⟩⟩
structure StX (B:Nat) (K:Nat→Prop) (w:World) (SB:Nat) (es:List (List Ev × Nat)) (σ:Mt):Prop where
 ex:∃ G,StO B w G σ∧G.SB=SB∧(G.fs.map fun f=>(f.env,f.loc))=es∧∀ k,K k→G.R k=(10,0)
theorem StX.below {B SB:Nat} {K:Nat→Prop} {w w':World} {es:List (List Ev × Nat)} {σ:Mt} (h:StX B K w SB es σ) (hb:Below w.heap.size w w'):StX B K w' SB es σ:=by
 obtain ⟨G,h1,h2,h3,h4⟩:=h.ex
 exact ⟨G,h1.below hb,h2,h3,h4⟩
theorem current_any {B:Nat} {w:World} {G:Gs} {σ:Mt} (h:StO B w G σ) {fb fo:Nat} {f:Fm} (hc:CurL w G fb fo f):Calls Tryz.prog 134 #[.pointer (some ⟨G.SB,0,none⟩)] w fun e w'=>e=.returned (.pointer (some ⟨fb,fo,none⟩))∧w=w':=by
 obtain ⟨f0,hf0,hb0,_⟩:=h.sto
 have y3:w.cell? ⟨G.SB,3,none⟩=some G.cv:=hb0.cell rfl
 have hls:=hb0.lt
 rcases hc.at_ with ⟨h1,rfl,rfl⟩ | ⟨h1,hr,rfl,n,c,hcv⟩
 ·have hown:=h.cal.1
  obtain ⟨A,cap,hv,hcap,hq⟩:=ofb hown
  rw [h1] at hv
  rw [hv] at y3
  clear hcap hq hown h hc
  go_enter Tryz.func134,Tryz.ntmps134
  go_wp2_with fail
  go_ret
  exact ⟨rfl,rfl⟩
 ·have hown:=h.cal.1
  obtain ⟨A,cap,hv,hcap,hq⟩:=ofb hown
  rw [hcv] at hv
  injection hv with e1 e2 e3
  subst e1 e2 e3
  rw [hcv] at y3
  obtain ⟨m,hm⟩:∃ m,G.fs.length=m+2:=⟨G.fs.length - 2,by omega⟩
  rw [hm] at y3 ⊢
  simp only [Nat.add_sub_cancel,show m+2 - 1=m+1 by omega] at y3 ⊢
  have hlm:m≤9223372036854775806:=by
   have h3:=hown.2
   rcases h3 with ⟨h3,_⟩ | ⟨g,cap,cur,h3,_,_,h4,h5,_,_⟩
   ·rw [hcv] at h3;cases h3
   ·unfold maxLen at h5;omega
  have r0:(0:Int)<(m:Int)+1:=by omega
  have r1:(((m+1:Nat):Int))=(m:Int)+1:=by omega
  clear hcap hq hown h hc h1 hm hcv
  go_enter Tryz.func134,Tryz.ntmps134
  go_wp2_with fail
  go_ret
  exact ⟨rfl,rfl⟩
def fidxK (l:List Vd) (s:ByteArray):Nat→Int
 | 0=>-1
 | i+1=>match l[i]? with | some v=>if v.name=s then (i:Int) else fidxK l s i | none=>fidxK l s i
def fidx (l:List Vd) (s:ByteArray):Int:=fidxK l s l.length
theorem findE_take {l:List Ev} {k:Nat} (h:k<l.length) (s:ByteArray):findE (l.take (k+1)) s=if l[k].v.name=s then some l[k] else findE (l.take k) s:=by
 unfold findE
 rw [List.take_succ_eq_append_getElem h,List.reverse_append]
 show List.find? _ (l[k]::(l.take k).reverse)=_
 by_cases e:l[k].v.name=s
 ·rw [if_pos e,List.find?_cons_of_pos (by simpa using e)]
 ·rw [if_neg e,List.find?_cons_of_neg (by simpa using e)]
theorem fidxK_E (env:List Ev) (s:ByteArray):∀ k,k≤env.length→(fidxK (env.map (·.v)) s k=-1∧findE (env.take k) s=none)∨∃ (i:Nat) (e:Ev),fidxK (env.map (·.v)) s k=(i:Int)∧env[i]?=some e∧findE (env.take k) s=some e
 | 0,_=>.inl ⟨rfl,rfl⟩
 | k+1,hk=>by
   have hlt:k<env.length:=by omega
   rw [findE_take hlt,fidxK,List.getElem?_map,List.getElem?_eq_getElem hlt]
   simp only [Option.map_some]
   by_cases e:env[k].v.name=s
   ·rw [if_pos e,if_pos e]
    exact .inr ⟨k,env[k],rfl,List.getElem?_eq_getElem hlt,rfl⟩
   ·rw [if_neg e,if_neg e]
    exact fidxK_E env s k (by omega)
theorem fidx_E (env:List Ev) (s:ByteArray):(fidx (env.map (·.v)) s=-1∧findE env s=none)∨∃ (i:Nat) (e:Ev),fidx (env.map (·.v)) s=(i:Int)∧env[i]?=some e∧findE env s=some e:=by
 have h:=fidxK_E env s env.length (Nat.le_refl _)
 rw [List.take_length] at h
 unfold fidx
 rw [List.length_map]
 exact h
theorem ffind_any (l:List Vd) (hl:l.length≤9223372036854775807) (s:ByteArray) (b o:Nat) (A:Option Addr) (cap:Nat) (w:World) (hc:w.cell? ⟨b,o,none⟩=some (.slice A l.length cap)) (hK:VdsAt w A l) :
  Calls Tryz.prog 135 #[.pointer (some ⟨b,o,none⟩),.string s] w fun e w'=>e=.returned (.int .i64 (fidx l s))∧w=w':=by
 have HK:=kp hK
 have hlb:=block_lt_of_cell hc
 clear hK
 go_enter Tryz.func135,Tryz.ntmps135
 go_wp2_with fail
 go_loopw [5] (fun i wr=>∃ k:Nat,k≤l.length∧i=.int .i64 ((k:Int) - 1)∧w=wr∧Hid (fidx l s=fidxK l s k)) (fun i _=>(intOf i+1).toNat)
 case atStart=>exact ⟨l.length,by omega,by go_num,rfl,kp rfl⟩
 case round=>
  obtain ⟨k1,hk,rfl,rfl,HS⟩:=hrel
  by_cases hk0:k1=0
  ·subst hk0
   have HE:=kp (show fidx l s=-1 by rw [HS.out];rfl)
   rw [show (((0:Nat):Int) - 1)=-1 by omega]
   go_wp2_with fail
   go_ret
   exact ⟨by rw [HE.out];rfl,rfl⟩
  ·obtain ⟨k,rfl⟩:∃ k,k1=k+1:=⟨k1 - 1,by omega⟩
   have hin:k<l.length:=by omega
   obtain ⟨bk,ok,rfl,hbk,k0,k1,k2⟩:=HK.out.at_ hin
   have HT:=kp (show fidxK l s (k+1)=if l[k].name=s then (k:Int) else fidxK l s k from by rw [fidxK,List.getElem?_eq_getElem hin])
   have hq:(l[k].name.toList == s.toList)=decide (l[k].name=s):=eqS_eq _ _
   have r0:(0:Int)≤k:=by omega
   have r1:(k:Int)<l.length:=by omega
   have hki:(((k+1:Nat):Int) - 1)=(k:Int):=by omega
   rw [hki]
   generalize l[k]=v at *
   clear hin
   by_cases hv:v.name=s
   ·rw [decide_eq_true hv] at hq
    have HE:=kp (show fidx l s=(k:Int) by rw [HS.out,HT.out,if_pos hv])
    clear hv
    go_wp2_with fail
    go_ret
    exact ⟨by rw [HE.out];rfl,rfl⟩
   ·rw [decide_eq_false hv] at hq
    have HE:=kp (show fidx l s=fidxK l s k by rw [HS.out,HT.out,if_neg hv])
    clear hv
    go_wp2_with fail
    exact ⟨⟨k,by omega,by go_num,trivial,HE⟩,by simp [intOf]⟩
theorem StO.flen {B:Nat} {w:World} {G:Gs} {σ:Mt} (h:StO B w G σ) {i:Nat} {f:Fm} (hi:G.fs[i]?=some f):∃ A c,f.vV=.slice A f.env.length c∧VdsAt w A (f.env.map (·.v))∧f.env.length≤9223372036854775807∧∃ A2 c2,f.cV=.slice A2 f.env.length c2∧CellsAt w A2 (ptrs G.cb f.env):=by
 have h1:=(h.frv i f hi).1
 have h2:=(h.frc i f hi).1
 obtain ⟨A,c,e,_,hv⟩:=vds_of_own (l:=f.env.map (·.v)) (by rw [List.length_map];exact h1)
 rw [List.length_map] at e
 obtain ⟨A2,c2,e2,hc2,_⟩:=ofb h2
 have hlen:f.env.length≤9223372036854775807:=by
  rcases h1.2 with ⟨_,h0⟩ | ⟨g,cap,cur,h3,_,_,h4,h5,_,_⟩
  ·omega
  ·unfold maxLen at h5;omega
 refine ⟨A,c,e,hv,hlen,A2,c2,e2,fun j u hu=>?_⟩
 rcases id h2.2 with ⟨e3,h0⟩ | ⟨g,cap,cur,e3,_,_,_⟩
 ·have:f.env=[]:=List.length_eq_zero_iff.1 h0
  rw [this] at hu;simp [ptrs] at hu
 ·rw [e3] at e2
  cases e2
  refine ⟨g,0,rfl,?_⟩
  have:=h2.cells (g:=g) (by rw [e3];rfl) j u hu
  rw [add0] at this
  rw [Nat.zero_add];exact this
theorem StO.var {B:Nat} {w:World} {G:Gs} {σ:Mt} (h:StO B w G σ) {i:Nat} {f:Fm} (hi:G.fs[i]?=some f) {e:Ev} (he:e∈f.env):∃ b c A cap,G.cb[e.c]?=some b∧σ.mem[e.c]?=some c∧w.cell? ⟨b,0,none⟩=some (.slice A c.length cap)∧IntsAt w A c:=by
 have hlt:=h.env i f e hi he
 have hb:e.c<G.cb.length:=by rw [h.lcb];exact hlt
 obtain ⟨v,hv,hbx⟩:=h.cel e.c _ (List.getElem?_eq_getElem hb)
 obtain ⟨v',hv',hr⟩:=h.itm e.c _ (List.getElem?_eq_getElem hlt)
 rw [hv] at hv'
 cases hv'
 obtain ⟨A,cap,rfl,hints⟩:=ints_of_own hr.1
 exact ⟨_,_,A,cap,List.getElem?_eq_getElem hb,List.getElem?_eq_getElem hlt,hbx.1.cell rfl,hints⟩
theorem findE_mem2 {env:List Ev} {s:ByteArray} {e:Ev} (h:findE env s=some e):e∈env:=(findE_mem h).1
def LkS (o:Option (List Int)) (w:World) (e:Ending) (w':World):Prop:=(match o with | some l=>∃ A c,e=.returned (.tuple #[.slice A l.length c,.bool true])∧IntsAt w' A l | none=>e=.returned (.tuple #[.slice none 0 0,.bool false]))∧w=w'
theorem lookup_any {B:Nat} {w:World} {G:Gs} {σ:Mt} (h:StO B w G σ) {f:Fm} (hf:G.fs[G.fs.length - 1]?=some f) (s:ByteArray):Calls Tryz.prog 155 #[.pointer (some ⟨G.SB,0,none⟩),.string s] w (LkS (look f.env σ.mem s) w):=by
 obtain ⟨fb,fo,f',hc⟩:=h.cur
 obtain rfl:f'=f:=Option.some.inj (hc.last.symm.trans hf)
 have HCU:=kp (current_any h hc)
 obtain ⟨A,c,ev,hv,hlen,A2,c2,ec,hcs⟩:=h.flen hf
 have y0:=hc.loc.c0
 have y1:=hc.loc.c1
 rw [ev] at y0
 rw [ec] at y1
 have HFI:=kp (show Calls Tryz.prog 135 #[.pointer (some ⟨fb,fo,none⟩),.string s] w fun e w'=>e=.returned (.int .i64 (fidx (f'.env.map (·.v)) s))∧w=w' from by
  refine ffind_any (f'.env.map (·.v)) (by rw [List.length_map];exact hlen) s fb fo A c w ?_ hv
  rw [List.length_map];exact y0)
 have hlb:=hc.loc.lt
 rcases fidx_E f'.env s with ⟨hx,hE⟩ | ⟨i,e,hx,hi,hE⟩
 ·have HL:=kp (show look f'.env σ.mem s=none from by unfold look;rw [hE];rfl)
  rw [hx] at HFI
  clear hx hE h hc hcs hv ev ec hf
  go_enter Tryz.func155,Tryz.ntmps155
  go_wp2_with fail
  refine HCU.out.mono ?_
  rintro e w1 ⟨rfl,rfl⟩
  go_wp2_with fail
  refine HFI.out.mono ?_
  rintro e w1 ⟨rfl,rfl⟩
  go_wp2_with fail
  go_ret2
  exact ⟨by rw [HL.out];rfl,rfl⟩
 ·have hm:=findE_mem2 hE
  obtain ⟨b,cc,A3,cap3,hb,hcc,hcell,hints⟩:=h.var hf hm
  have HL:=kp (show look f'.env σ.mem s=some cc from by unfold look;rw [hE];exact hcc)
  have hil:i<f'.env.length:=(List.getElem?_eq_some_iff.1 hi).1
  obtain ⟨b2,o2,rfl,hp⟩:=hcs i (.pointer (some ⟨b,0,none⟩)) (by unfold ptrs;rw [List.getElem?_map,hi];simp [hb])
  have HIN:=kp hints
  have hlb2:=block_lt_of_cell hp
  have hlb3:=block_lt_of_cell hcell
  have r0:(0:Int)≤i:=by omega
  have r1:(i:Int)<f'.env.length:=by omega
  rw [hx] at HFI
  clear hx hE h hc hcs hv ev ec hf hm hb hcc hints hi
  go_enter Tryz.func155,Tryz.ntmps155
  go_wp2_with fail
  refine HCU.out.mono ?_
  rintro e w1 ⟨rfl,rfl⟩
  go_wp2_with fail
  refine HFI.out.mono ?_
  rintro e w1 ⟨rfl,rfl⟩
  go_wp2_with fail
  go_ret2
  exact ⟨by rw [HL.out];exact ⟨_,_,rfl,HIN.out⟩,rfl⟩
end Go.Proofs.YtgbomnibedefoaaGreatDoor
