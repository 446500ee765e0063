import Derived.Test.YtgbomnibedefoaaGreatDoorQa23
set_option maxRecDepth 100000
set_option maxHeartbeats 8000000
namespace Go.Proofs.YtgbomnibedefoaaGreatDoor
open Go.ChangeShapes Go.WideShapes Go.ChangeAt Go.RowKit Go.Sort
theorem findE_snoc (env:List Ev) (e:Ev) (s:ByteArray):findE (env++[e]) s=if e.v.name=s then some e else findE env s:=by
 unfold findE
 rw [List.reverse_append]
 show (List.find? _ (e::env.reverse))=_
 by_cases h:e.v.name=s
 ·rw [if_pos h,List.find?_cons_of_pos (by simpa using h)]
 ·rw [if_neg h,List.find?_cons_of_neg (by simpa using h)]
theorem findE_none {env:List Ev} {s:ByteArray} (h:findE env s=none):∀ e∈env,e.v.name≠s:=fun e he q=>by
 unfold findE at h
 have:=List.find?_eq_none.1 h e (List.mem_reverse.2 he)
 simp [q] at this
theorem EOk.snoc {T:List (Nat × Int)} {env:List Ev} (h:EOk T env) {v:Vd} (hf:findE env v.name=none):EOk (T++[(v.kind,v.len)]) (env++[⟨v,T.length⟩]):=by
 have hlt:∀ e∈env,e.c<T.length:=fun e he=>(List.getElem?_eq_some_iff.1 (h.ty e he)).1
 refine ⟨?_,?_,fun e he=>?_⟩
 ·rw [List.map_append,List.nodup_append]
  refine ⟨h.names,by simp,fun a ha b hb=>?_⟩
  obtain ⟨e,he,rfl⟩:=List.mem_map.1 ha
  rw [List.mem_singleton.1 hb]
  exact findE_none hf e he
 ·rw [List.map_append,List.nodup_append]
  refine ⟨h.cells,by simp,fun a ha b hb=>?_⟩
  obtain ⟨e,he,rfl⟩:=List.mem_map.1 ha
  rw [List.mem_singleton.1 hb]
  have:=hlt e he
  show e.c≠T.length
  omega
 ·rcases List.mem_append.1 he with q | q
  ·have:=hlt e q
   rw [List.getElem?_append_left this];exact h.ty e q
  ·rw [List.mem_singleton.1 q]
   show (T++[(v.kind,v.len)])[T.length]?=_
   rw [List.getElem?_append_right (Nat.le_refl _),Nat.sub_self];rfl
theorem MOk.snoc {T:List (Nat × Int)} {σ:Mt} (h:MOk T σ) {t:Nat × Int} {c:List Int} (hs:Shape t c) (hr:∀ x∈c,InR x) (hn:c.length≤1000):MOk (T++[t]) ⟨σ.mem++[c],σ.inp,σ.out⟩:=by
 refine ⟨by rw [List.length_append,List.length_append,h.len];rfl,fun j u d h1 h2=>?_,fun d hd x hx=>?_,fun d hd=>?_,h.li,h.lo,h.ri,h.ro⟩
 ·by_cases e:j<T.length
  ·rw [List.getElem?_append_left e] at h1
   have h2:(σ.mem++[c])[j]?=some d:=h2
   rw [List.getElem?_append_left (by rw [h.len];exact e)] at h2
   exact h.sh j u d h1 h2
  ·have:=(List.getElem?_eq_some_iff.1 h1).1
   rw [List.length_append,List.length_singleton] at this
   have e2:j=T.length:=by omega
   subst e2
   rw [List.getElem?_append_right (Nat.le_refl _),Nat.sub_self] at h1
   have h2:(σ.mem++[c])[T.length]?=some d:=h2
   rw [List.getElem?_append_right (by rw [h.len];exact Nat.le_refl _),h.len,Nat.sub_self] at h2
   cases h1;cases h2;exact hs
 ·rcases List.mem_append.1 hd with q | q
  ·exact h.rg d q x hx
  ·rw [List.mem_singleton.1 q] at hx;exact hr x hx
 ·rcases List.mem_append.1 hd with q | q
  ·exact h.ln d q
  ·rw [List.mem_singleton.1 q];exact hn
theorem MOk.take {T:List (Nat × Int)} {σ:Mt} {t:Nat × Int} (h:MOk (T++[t]) σ):MOk T ⟨σ.mem.take T.length,σ.inp,σ.out⟩:=by
 have hl:=h.len
 rw [List.length_append,List.length_singleton] at hl
 refine ⟨by rw [List.length_take];omega,fun j u d h1 h2=>?_,fun d hd x hx=>?_,fun d hd=>?_,h.li,h.lo,h.ri,h.ro⟩
 ·have hj:=(List.getElem?_eq_some_iff.1 h1).1
  have h2:(σ.mem.take T.length)[j]?=some d:=h2
  rw [List.getElem?_take_of_lt hj] at h2
  exact h.sh j u d (by rw [List.getElem?_append_left hj];exact h1) h2
 ·exact h.rg d (List.mem_of_mem_take hd) x hx
 ·exact h.ln d (List.mem_of_mem_take hd)
theorem take_last {mem:List (List Int)} {m:Nat} {c:List Int} (hl:mem.length=m+1) (h:mem[m]?=some c):mem.take m++[c]=mem:=by
 obtain ⟨h1,h2⟩:=List.getElem?_eq_some_iff.1 h
 rw [← h2,← List.take_succ_eq_append_getElem h1,List.take_of_length_le (by omega)]
theorem ev_local {T:List (Nat × Int)} {env:List Ev} (h:EOk T env) {v:Vd} {x:Nd} (hm:mentT v.name x=false) {mem:List (List Int)} {c:List Int} (hl:mem.length=T.length):evT (look (env++[⟨v,T.length⟩]) (mem++[c])) x=evT (look env mem) x:=
 evT_congr _ fun s hs=>by
  have hne:v.name≠s:=fun e=>by rw [e,hs] at hm;cases hm
  unfold look
  rw [findE_snoc,if_neg hne]
  cases hf:findE env s with
  | none=>rfl
  | some e=>
    have:=(List.getElem?_eq_some_iff.1 (h.kind hf)).1
    show (mem++[c])[e.c]?=mem[e.c]?
    rw [List.getElem?_append_left (by omega)]
theorem enterT_eq {env:List Ev}:∀ (ps:List Vd) (al:List Nd) {env2:List Ev},enterT env ps al=some env2→env2.map (·.v)=ps∧∀ e∈env2,∃ a∈al,∃ f,findE env a.name=some f∧e.c=f.c∧f.v.kind=e.v.kind∧f.v.len=e.v.len
 | [],[],env2,h=>by cases h;exact ⟨rfl,fun e he=>by cases he⟩
 | [],a::al,env2,h=>by cases h
 | v::ps,[],env2,h=>by cases h
 | v::ps,a::al,env2,h=>by
   rw [enterT] at h
   obtain ⟨f,h1,h⟩:=Option.bind_eq_some_iff.1 h
   split at h
   ·rename_i hc
    obtain ⟨r,h2,rfl⟩:=Option.map_eq_some_iff.1 h
    obtain ⟨h3,h4⟩:=enterT_eq ps al h2
    refine ⟨by rw [List.map_cons,h3],fun e he=>?_⟩
    rcases List.mem_cons.1 he with q | q
    ·subst q;exact ⟨a,List.mem_cons_self,f,h1,rfl,hc.1,hc.2⟩
    ·obtain ⟨b,hb,g,h5⟩:=h4 e q
     exact ⟨b,List.mem_cons_of_mem _ hb,g,h5⟩
   ·cases h
theorem enterT_cells {T:List (Nat × Int)} {env:List Ev} (h:EOk T env):∀ (ps:List Vd) (al:List Nd) {env2:List Ev},(al.map Nd.name).Nodup→enterT env ps al=some env2→(env2.map (·.c)).Nodup
 | [],[],env2,_,h=>by cases h;exact List.nodup_nil
 | [],a::al,env2,_,h=>by cases h
 | v::ps,[],env2,_,h=>by cases h
 | v::ps,a::al,env2,hn,he=>by
   rw [enterT] at he
   obtain ⟨f,h1,he⟩:=Option.bind_eq_some_iff.1 he
   split at he
   ·obtain ⟨r,h2,rfl⟩:=Option.map_eq_some_iff.1 he
    rw [List.map_cons,List.nodup_cons] at hn ⊢
    refine ⟨fun q=>?_,enterT_cells h ps al hn.2 h2⟩
    obtain ⟨e,he,hq⟩:=List.mem_map.1 q
    obtain ⟨b,hb,g,h5,h6,_⟩:=(enterT_eq ps al h2).2 e he
    have hne:a.name≠b.name:=fun e=>hn.1 (e▸List.mem_map.2 ⟨b,hb,rfl⟩)
    exact h.cell_ne h1 h5 hne (by rw [← h6];exact hq.symm)
   ·cases he
theorem EOk.enter {T:List (Nat × Int)} {env env2:List Ev} (h:EOk T env) {ps:List Vd} {al:List Nd} (hp:(ps.map Vd.name).Nodup) (hn:(al.map Nd.name).Nodup) (he:enterT env ps al=some env2):EOk T env2:=by
 obtain ⟨h1,h2⟩:=enterT_eq ps al he
 refine ⟨?_,enterT_cells h ps al hn he,fun e hm=>?_⟩
 ·have:env2.map (fun e=>e.v.name)=(env2.map (·.v)).map Vd.name:=by rw [List.map_map];rfl
  rw [this,h1];exact hp
 ·obtain ⟨a,_,f,h3,h4,h5,h6⟩:=h2 e hm
  rw [h4,← h5,← h6];exact h.kind h3
theorem invK_invK (k:Nat):invK (invK k)=k:=by
 by_cases h0:k=40;·subst h0;rfl
 by_cases h1:k=41;·subst h1;rfl
 by_cases h4:k=44;·subst h4;rfl
 by_cases h5:k=45;·subst h5;rfl
 by_cases h6:k=46;·subst h6;rfl
 by_cases h7:k=47;·subst h7;rfl
 by_cases h8:k=48;·subst h8;rfl
 by_cases h9:k=49;·subst h9;rfl
 have e:invK k=k:=by unfold invK;rw [if_neg h0,if_neg h1,if_neg h4,if_neg h5,if_neg h6,if_neg h7,if_neg h8,if_neg h9]
 rw [e,e]
theorem ord_rev (back:Bool) (l:List Nd):(ordK back l).reverse=ordK (!back) l:=by cases back<;>simp [ordK]
theorem lst_not (n:Nd) (back:Bool):lstK n (!back)=fstK n back:=by cases back<;>rfl
theorem fst_not (n:Nd) (back:Bool):fstK n (!back)=lstK n back:=by cases back<;>rfl
theorem mem_ord {back:Bool} {l:List Nd} {y:Nd} (h:y∈ordK back l):y∈l:=by cases back<;>simpa [ordK] using h
def RevC (P:List Pc) (dep:Nat) (env:List Ev) (back:Bool) (σ σ':St):Tk→Prop
 | .st n=>Bk P dep env (!back) (.st n) σ'.m σ.m (σ'.k - σ.k)
 | .bl l=>Bk P dep env (!back) (.bl l.reverse) σ'.m σ.m (σ'.k - σ.k)
 | .hd n=>σ.k+1≤σ'.k∧(∃ v,evT (look env σ'.m.mem) (lstK n back)=some v∧v≠0)∧∀ τ r,Bk P dep env (!back) (.ck n) σ.m τ r→Bk P dep env (!back) (.hd n) σ'.m τ (σ'.k - σ.k - 1+r)
 | .ck n=>σ.k+1≤σ'.k∧(∃ v,evT (look env σ'.m.mem) (lstK n back)=some v∧v≠0)∧∀ τ r,Bk P dep env (!back) (.hd n) σ.m τ r→Bk P dep env (!back) (.hd n) σ'.m τ (σ'.k - σ.k - 1+r)
theorem Bk.cast {P:List Pc} {dep:Nat} {env:List Ev} {back:Bool} {t:Tk} {σ τ:Mt} {r r':Nat} (h:Bk P dep env back t σ τ r) (e:r=r'):Bk P dep env back t σ τ r':=e▸h
theorem rev_all {P:List Pc} (hP:POk P) {F:Nat}:∀ (d:Nat) (t:Tk) (dep:Nat) (env:List Ev) (back:Bool) (σ σ':St) (T:List (Nat × Int)),TOk P (env.map (·.v)) t→EOk T env→MOk T σ.m→ex P F d t dep env back σ=.ok σ'→MOk T σ'.m∧σ.k≤σ'.k∧RevC P dep env back σ σ' t:=by
 intro d
 induction d with
 | zero=>intro t dep env back σ σ' T _ _ _ h;cases h
 | succ d ih=>
   intro t dep env back σ σ' T hT hE hM h
   rw [ex_succ] at h
   match t,hT,h with
   | .bl [],_,h=>
     cases h
     exact ⟨hM,Nat.le_refl _,by show Bk P dep env (!back) (.bl []) σ.m σ.m (σ.k - σ.k);exact Bk.nil.cast (by omega)⟩
   | .bl (x::l),hT,h=>
     obtain ⟨σ1,h1,h2⟩:=Rs.andThen_eq h
     obtain ⟨m1,k1,b1⟩:=ih (.st x) dep env back σ σ1 T (hT x List.mem_cons_self) hE hM h1
     obtain ⟨m2,k2,b2⟩:=ih (.bl l) dep env back σ1 σ' T (fun y hy=>hT y (List.mem_cons_of_mem _ hy)) hE m1 h2
     refine ⟨m2,by omega,?_⟩
     show Bk P dep env (!back) (.bl (x::l).reverse) σ'.m σ.m (σ'.k - σ.k)
     rw [List.reverse_cons]
     exact (Bk.app b2 (Bk.one b1)).cast (by omega)
   | .hd n,hT,h=>
     obtain ⟨σ1,h1,h2⟩:=Rs.andThen_eq h
     obtain ⟨m1,k1,b1⟩:=ih (.bl (ordK back (kid n 1).kids)) dep env back σ σ1 T (fun y hy=>hT.1 y (mem_ord hy)) hE hM h1
     obtain ⟨m2,k2,b2,b3,b4⟩:=ih (.ck n) dep env back σ1 σ' T hT hE m1 h2
     have b1:Bk P dep env (!back) (.bl (ordK back (kid n 1).kids).reverse) σ1.m σ.m (σ1.k - σ.k):=b1
     rw [ord_rev] at b1
     refine ⟨m2,by omega,by omega,b3,fun τ r hb=>?_⟩
     exact (b4 τ _ (Bk.hd b1 hb)).cast (by omega)
   | .ck n,hT,h=>
     simp only [exB] at h
     obtain ⟨v,hk,hv,h⟩:=testT_eq h
     by_cases h0:v=0
     ·rw [decide_eq_false (fun h=>h h0)] at h
      obtain ⟨σ2,h1,h2⟩:=Rs.andThen_eq h
      obtain ⟨u,hk2,hu,h2⟩:=testT_eq h2
      by_cases hu0:u=0
      ·rw [decide_eq_false (fun h=>h hu0)] at h2
       obtain ⟨m1,k1,b1⟩:=ih (.bl (ordK back (kid n 2).kids)) dep env back ⟨σ.k+1,σ.m⟩ σ2 T (fun y hy=>hT.2 y (mem_ord hy)) hE hM h1
       obtain ⟨m2,k2,b2,b3,b4⟩:=ih (.hd n) dep env back ⟨σ2.k+1,σ2.m⟩ σ' T hT hE m1 h2
       have b1:Bk P dep env (!back) (.bl (ordK back (kid n 2).kids).reverse) σ2.m σ.m (σ2.k - (σ.k+1)):=b1
       rw [ord_rev] at b1
       have k1:σ.k+1≤σ2.k:=k1
       have b2:σ2.k+1+1≤σ'.k:=b2
       refine ⟨m2,by omega,by omega,b3,fun τ r hb=>?_⟩
       have hc:=Bk.ckF (n:=n) (by rw [lst_not];exact hu) hu0 b1 (by rw [fst_not];exact hv) h0 hb
       exact (b4 τ _ hc).cast (by show σ'.k - (σ2.k+1) - 1+_=_;omega)
      ·rw [decide_eq_true hu0] at h2;cases h2
     ·rw [decide_eq_true h0] at h
      cases h
      exact ⟨hM,by show σ.k≤σ.k+1;omega,Nat.le_refl _,⟨v,hv,h0⟩,fun τ r hb=>hb.cast (by show r=σ.k+1 - σ.k - 1+r;omega)⟩
   | .st n,hT,h=>
     simp only [exB] at h
     by_cases h52:n.kind=52
     ·rw [if_pos h52] at h
      obtain ⟨v,hk,hv,h⟩:=testT_eq h
      obtain ⟨σ2,h1,h2⟩:=Rs.andThen_eq h
      obtain ⟨u,hk2,hu,h2⟩:=testT_eq h2
      by_cases he:decide (u≠0)=decide (v≠0)
      ·rw [if_pos he] at h2
       cases h2
       have hkids:∀ y∈(kid n (if decide (v≠0)=true then 1 else 2)).kids,SOk P (env.map (·.v)) y:=by
        cases hT with
        | bas hk=>exact absurd h52 hk.2.2.1
        | cal hk=>omega
        | two hk h1 h2=>split;exact h1;exact h2
        | loc hk=>omega
        | lst hk=>omega
       obtain ⟨m1,k1,b1⟩:=ih (.bl (ordK back (kid n (if decide (v≠0)=true then 1 else 2)).kids)) dep env back ⟨σ.k+1,σ.m⟩ σ2 T (fun y hy=>hkids y (mem_ord hy)) hE hM h1
       have b1:Bk P dep env (!back) (.bl (ordK back (kid n (if decide (v≠0)=true then 1 else 2)).kids).reverse) σ2.m σ.m (σ2.k - (σ.k+1)):=b1
       rw [ord_rev] at b1
       have k1:σ.k+1≤σ2.k:=k1
       refine ⟨m1,by show σ.k≤σ2.k+1;omega,fun F k hkF=>?_⟩
       have hkF:k+(σ2.k+1 - σ.k)≤F:=hkF
       obtain ⟨d1,e1⟩:=b1 F (k+1) (by omega)
       refine ⟨d1+1,?_⟩
       rw [ex_succ]
       simp only [exB]
       rw [if_pos h52,fst_not,testT_ok (σ:=⟨k,σ2.m⟩) (v:=u) (show k<F by omega) hu,he]
       show (ex P F d1 _ dep env (!back) ⟨k+1,σ2.m⟩).andThen _=_
       rw [e1,Rs.andThen_ok,lst_not,testT_ok (σ:=⟨k+1+(σ2.k - (σ.k+1)),σ.m⟩) (v:=v) (show k+1+(σ2.k - (σ.k+1))<F by omega) hv,if_pos rfl]
       show Rs.ok ⟨k+1+(σ2.k - (σ.k+1))+1,σ.m⟩=Rs.ok ⟨k+(σ2.k+1 - σ.k),σ.m⟩
       congr 2;omega
      ·rw [if_neg he] at h2;cases h2
     rw [if_neg h52] at h
     by_cases h53:n.kind=53
     ·rw [if_pos h53] at h
      obtain ⟨v,hk,hv,h⟩:=testT_eq h
      by_cases h0:v=0
      ·rw [decide_eq_false (fun h=>h h0)] at h;cases h
      ·rw [decide_eq_true h0] at h
       have hkids:TOk P (env.map (·.v)) (.hd n):=by
        cases hT with
        | bas hk=>exact absurd h53 hk.2.2.2.1
        | cal hk=>omega
        | two hk h1 h2=>exact ⟨h1,h2⟩
        | loc hk=>omega
        | lst hk=>omega
       obtain ⟨m1,k1,b2,⟨u,hu,hu0⟩,b4⟩:=ih (.hd n) dep env back ⟨σ.k+1,σ.m⟩ σ' T hkids hE hM h
       have b2:σ.k+1+1≤σ'.k:=b2
       have b5:=b4 σ.m 1 (Bk.ckT (n:=n) (v:=v) (by rw [lst_not];exact hv) h0)
       have b5:=b5.cast (show σ'.k - (σ.k+1) - 1+1=σ'.k - (σ.k+1) by omega)
       refine ⟨m1,by omega,fun F k hkF=>?_⟩
       obtain ⟨d1,e1⟩:=b5 F (k+1) (by omega)
       refine ⟨d1+1,?_⟩
       rw [ex_succ]
       simp only [exB]
       rw [if_neg h52,if_pos h53,fst_not,testT_ok (σ:=⟨k,σ'.m⟩) (v:=u) (show k<F by omega) hu,decide_eq_true hu0]
       show ex P F d1 (.hd n) dep env (!back) ⟨k+1,σ'.m⟩=_
       rw [e1]
       congr 2;omega
     rw [if_neg h53] at h
     by_cases h54:n.kind=54
     ·rw [if_pos h54] at h
      obtain ⟨hk,h⟩:=stepS_eq h
      obtain ⟨σ1,h1,h⟩:=Rs.andThen_eq h
      obtain ⟨m1,hm1,rfl⟩:=optS_eq h1
      obtain ⟨σ2,h2,h3⟩:=Rs.andThen_eq h
      obtain ⟨hk2,h3⟩:=stepS_eq h3
      obtain ⟨m3,hm3,rfl⟩:=optS_eq h3
      unfold openT at hm1
      obtain ⟨v,hv,hm1⟩:=Option.bind_eq_some_iff.1 hm1
      unfold closeT at hm3
      obtain ⟨u,hu,hm3⟩:=Option.bind_eq_some_iff.1 hm3
      cases hf:findE env n.name with
      | some e=>rw [hf] at hm1;cases hm1
      | none=>
        rw [hf] at hm1
        cases hm1
        have hlm:=hM.len
        by_cases hcl:σ2.m.mem[σ.m.mem.length]?=some [u]
        ·rw [if_pos hcl] at hm3
         cases hm3
         rw [hlm] at h2 hu hcl
         rw [hlm]
         obtain ⟨mf,ml,ff,fl,hkids⟩:mentT n.name (fstK n back)=false∧mentT n.name (lstK n back)=false∧NdFit (fstK n back)∧NdFit (lstK n back)∧∀ y∈(kid n 1).kids,SOk P (env.map (·.v)++[intV n]) y:=by
          cases hT with
          | bas hk=>exact absurd h54 hk.2.2.2.2.1
          | cal hk=>omega
          | two hk=>omega
          | loc hk m0 m2 f0 f2 hy=>cases back;exact ⟨m0,m2,f0,f2,hy⟩;exact ⟨m2,m0,f2,f0,hy⟩
          | lst hk=>omega
         have hrv:InR v:=evT_inR (hM.look env) _ _ (Nat.le_refl _) ff v hv
         have hM1:MOk (T++[(1,0)]) ⟨σ.m.mem++[[v]],σ.m.inp,σ.m.out⟩:=hM.snoc ⟨fun _=>rfl,fun h=>absurd h (by decide),fun h=>absurd h (by decide)⟩ (fun x hx=>by rw [List.mem_singleton.1 hx];exact hrv) (by rw [List.length_singleton];omega)
         obtain ⟨m2,k2,b1⟩:=ih (.bl (ordK back (kid n 1).kids)) dep (env++[⟨intV n,T.length⟩]) back ⟨σ.k+1,⟨σ.m.mem++[[v]],σ.m.inp,σ.m.out⟩⟩ σ2 (T++[(1,0)]) (fun y hy=>by rw [List.map_append];exact hkids y (mem_ord hy)) (hE.snoc (v:=intV n) hf) hM1 h2
         have b1:Bk P dep (env++[⟨intV n,T.length⟩]) (!back) (.bl (ordK back (kid n 1).kids).reverse) σ2.m ⟨σ.m.mem++[[v]],σ.m.inp,σ.m.out⟩ (σ2.k - (σ.k+1)):=b1
         rw [ord_rev] at b1
         have k2:σ.k+1≤σ2.k:=k2
         have hl2:=m2.len
         rw [List.length_append,List.length_singleton] at hl2
         have htk:=take_last hl2 hcl
         have hlt:(σ2.m.mem.take T.length).length=T.length:=by rw [List.length_take];omega
         refine ⟨m2.take,by show σ.k≤σ2.k+1;omega,fun F k hkF=>?_⟩
         have hkF:k+(σ2.k+1 - σ.k)≤F:=hkF
         obtain ⟨d1,e1⟩:=b1 F (k+1) (by omega)
         refine ⟨d1+1,?_⟩
         rw [ex_succ]
         simp only [exB]
         rw [if_neg h52,if_neg h53,if_pos h54]
         unfold stepS
         rw [if_pos (show k<F by omega)]
         unfold openT
         rw [fst_not,hlt,show evT (look env (σ2.m.mem.take T.length)) (lstK n back)=some u from by rw [← ev_local hE (v:=intV n) ml hlt,htk];exact hu]
         show (optS (if (findE env n.name).isNone=true then some (Mt.mk (σ2.m.mem.take T.length++[[u]]) σ2.m.inp σ2.m.out) else none) (k+1)).andThen _=_
         rw [hf,htk]
         show (ex P F d1 _ dep (env++[⟨intV n,T.length⟩]) (!back) ⟨k+1,σ2.m⟩).andThen _=_
         rw [e1,Rs.andThen_ok]
         show (if k+1+(σ2.k - (σ.k+1))<F then optS (closeT (env++[⟨intV n,T.length⟩]) n (!back) T.length ⟨σ.m.mem++[[v]],σ.m.inp,σ.m.out⟩) (k+1+(σ2.k - (σ.k+1))+1) else Rs.bad)=_
         rw [if_pos (by omega)]
         unfold closeT
         rw [lst_not]
         show optS ((evT (look (env++[⟨intV n,T.length⟩]) (σ.m.mem++[[v]])) (fstK n back)).bind _) _=_
         rw [ev_local hE (v:=intV n) mf hlm,hv]
         show optS (if (σ.m.mem++[[v]])[T.length]?=some [v] then some (Mt.mk ((σ.m.mem++[[v]]).take T.length) σ.m.inp σ.m.out) else none) _=_
         rw [if_pos (by rw [← hlm,List.getElem?_append_right (Nat.le_refl _),Nat.sub_self];rfl),← hlm,List.take_left]
         show Rs.ok ⟨k+1+(σ2.k - (σ.k+1))+1,σ.m⟩=Rs.ok ⟨k+(σ2.k+1 - σ.k),σ.m⟩
         congr 2;omega
        ·rw [if_neg hcl] at hm3;cases hm3
     rw [if_neg h54] at h
     by_cases h55:n.kind=55
     ·rw [if_pos h55] at h
      obtain ⟨hk,h⟩:=stepS_eq h
      obtain ⟨σ1,h1,h⟩:=Rs.andThen_eq h
      obtain ⟨m1,hm1,rfl⟩:=optS_eq h1
      obtain ⟨σ2,h2,h3⟩:=Rs.andThen_eq h
      obtain ⟨hk2,h3⟩:=stepS_eq h3
      obtain ⟨m3,hm3,rfl⟩:=optS_eq h3
      unfold openS at hm1
      unfold closeS at hm3
      cases hf:findE env n.name with
      | some e=>rw [hf] at hm1;cases hm1
      | none=>
        rw [hf] at hm1
        cases hm1
        have hlm:=hM.len
        by_cases hcl:σ2.m.mem[σ.m.mem.length]?=some []
        ·rw [if_pos hcl] at hm3
         cases hm3
         rw [hlm] at h2 hcl
         rw [hlm]
         have hkids:∀ y∈(kid n 0).kids,SOk P (env.map (·.v)++[stkV n]) y:=by
          cases hT with
          | bas hk=>exact absurd h55 hk.2.2.2.2.2
          | cal hk=>omega
          | two hk=>omega
          | loc hk=>omega
          | lst hk hy=>exact hy
         have hM1:MOk (T++[(3,0)]) ⟨σ.m.mem++[[]],σ.m.inp,σ.m.out⟩:=hM.snoc ⟨fun h=>absurd h (by decide),fun h=>absurd h (by decide),fun _=>Nat.zero_le _⟩ (fun x hx=>by cases hx) (Nat.zero_le _)
         obtain ⟨m2,k2,b1⟩:=ih (.bl (ordK back (kid n 0).kids)) dep (env++[⟨stkV n,T.length⟩]) back ⟨σ.k+1,⟨σ.m.mem++[[]],σ.m.inp,σ.m.out⟩⟩ σ2 (T++[(3,0)]) (fun y hy=>by rw [List.map_append];exact hkids y (mem_ord hy)) (hE.snoc (v:=stkV n) hf) hM1 h2
         have b1:Bk P dep (env++[⟨stkV n,T.length⟩]) (!back) (.bl (ordK back (kid n 0).kids).reverse) σ2.m ⟨σ.m.mem++[[]],σ.m.inp,σ.m.out⟩ (σ2.k - (σ.k+1)):=b1
         rw [ord_rev] at b1
         have k2:σ.k+1≤σ2.k:=k2
         have hl2:=m2.len
         rw [List.length_append,List.length_singleton] at hl2
         have htk:=take_last hl2 hcl
         have hlt:(σ2.m.mem.take T.length).length=T.length:=by rw [List.length_take];omega
         refine ⟨m2.take,by show σ.k≤σ2.k+1;omega,fun F k hkF=>?_⟩
         have hkF:k+(σ2.k+1 - σ.k)≤F:=hkF
         obtain ⟨d1,e1⟩:=b1 F (k+1) (by omega)
         refine ⟨d1+1,?_⟩
         rw [ex_succ]
         simp only [exB]
         rw [if_neg h52,if_neg h53,if_neg h54,if_pos h55]
         unfold stepS
         rw [if_pos (show k<F by omega)]
         unfold openS
         rw [hlt,hf]
         show (ex P F d1 _ dep (env++[⟨stkV n,T.length⟩]) (!back) ⟨k+1,⟨σ2.m.mem.take T.length++[[]],σ2.m.inp,σ2.m.out⟩⟩).andThen _=_
         rw [htk,e1,Rs.andThen_ok]
         show (if k+1+(σ2.k - (σ.k+1))<F then optS (closeS T.length ⟨σ.m.mem++[[]],σ.m.inp,σ.m.out⟩) (k+1+(σ2.k - (σ.k+1))+1) else Rs.bad)=_
         rw [if_pos (by omega)]
         unfold closeS
         show optS (if (σ.m.mem++[[]])[T.length]?=some [] then some (Mt.mk ((σ.m.mem++[[]]).take T.length) σ.m.inp σ.m.out) else none) _=_
         rw [if_pos (by rw [← hlm,List.getElem?_append_right (Nat.le_refl _),Nat.sub_self];rfl),← hlm,List.take_left]
         show Rs.ok ⟨k+1+(σ2.k - (σ.k+1))+1,σ.m⟩=Rs.ok ⟨k+(σ2.k+1 - σ.k),σ.m⟩
         congr 2;omega
        ·rw [if_neg hcl] at hm3;cases hm3
     rw [if_neg h55] at h
     by_cases h50:n.kind=50∨n.kind=51
     ·rw [if_pos h50] at h
      obtain ⟨hk,h⟩:=stepS_eq h
      cases hp:procT P n.name with
      | none=>rw [hp] at h;cases h
      | some p=>
        rw [hp] at h
        simp only at h
        cases he:enterT env p.params n.kids with
        | none=>rw [he] at h;cases h
        | some env2=>
          rw [he] at h
          simp only at h
          by_cases hd:100≤dep
          ·rw [if_pos hd] at h;cases h
          ·rw [if_neg hd] at h
           obtain ⟨σ2,h1,h2⟩:=Rs.andThen_eq h
           obtain ⟨hk2,h2⟩:=stepS_eq h2
           cases h2
           have hn:(n.kids.map Nd.name).Nodup:=by
            cases hT with
            | bas hk=>exact absurd h50 (by omega)
            | cal hk hy=>exact hy
            | two hk=>omega
            | loc hk=>omega
            | lst hk=>omega
           obtain ⟨hp1,hp2⟩:=hP p (List.mem_of_find?_eq_some hp)
           have hv2:=(enterT_eq _ _ he).1
           obtain ⟨m1,k1,b1⟩:=ih (.bl (ordK (back != decide (n.kind=51)) p.body.kids)) (dep+1) env2 (back != decide (n.kind=51)) ⟨σ.k+1,σ.m⟩ σ2 T (fun y hy=>by rw [hv2];exact hp2 y (mem_ord hy)) (hE.enter hp1 hn he) hM h1
           have b1:Bk P (dep+1) env2 (!(back != decide (n.kind=51))) (.bl (ordK (back != decide (n.kind=51)) p.body.kids).reverse) σ2.m σ.m (σ2.k - (σ.k+1)):=b1
           rw [ord_rev,show (!(back != decide (n.kind=51)))=((!back) != decide (n.kind=51)) by cases back<;>simp] at b1
           have k1:σ.k+1≤σ2.k:=k1
           refine ⟨m1,by show σ.k≤σ2.k+1;omega,fun F k hkF=>?_⟩
           have hkF:k+(σ2.k+1 - σ.k)≤F:=hkF
           obtain ⟨d1,e1⟩:=b1 F (k+1) (by omega)
           refine ⟨d1+1,?_⟩
           rw [ex_succ]
           simp only [exB]
           rw [if_neg h52,if_neg h53,if_neg h54,if_neg h55,if_pos h50]
           unfold stepS
           rw [if_pos (show k<F by omega),hp]
           simp only
           rw [he]
           simp only
           rw [if_neg hd]
           show (ex P F d1 _ (dep+1) env2 ((!back) != decide (n.kind=51)) ⟨k+1,σ2.m⟩).andThen _=_
           rw [e1,Rs.andThen_ok,if_pos (show k+1+(σ2.k - (σ.k+1))<F by omega)]
           show Rs.ok ⟨k+1+(σ2.k - (σ.k+1))+1,σ.m⟩=Rs.ok ⟨k+(σ2.k+1 - σ.k),σ.m⟩
           congr 2;omega
     ·rw [if_neg h50] at h
      obtain ⟨hk,h⟩:=stepS_eq h
      obtain ⟨m,hm,rfl⟩:=optS_eq h
      have hO:BOk (env.map (·.v)) n:=by
       cases hT with
       | bas hk hy=>exact hy
       | cal hk=>exact absurd hk h50
       | two hk=>omega
       | loc hk=>omega
       | lst hk=>omega
      obtain ⟨m1,b1⟩:=basic_rev (by cases back;exact .inl rfl;exact .inr rfl) hE hM hO hm
      refine ⟨m1,by show σ.k≤σ.k+1;omega,fun F k hkF=>⟨1,?_⟩⟩
      have hkF:k+(σ.k+1 - σ.k)≤F:=hkF
      rw [ex_succ]
      simp only [exB]
      rw [if_neg h52,if_neg h53,if_neg h54,if_neg h55,if_neg h50]
      unfold stepS
      rw [if_pos (show k<F by omega),show (if (!back)=true then invK n.kind else n.kind)=invK (if back=true then invK n.kind else n.kind) by cases back;rfl;exact (invK_invK _).symm,b1]
      show Rs.ok ⟨k+1,σ.m⟩=Rs.ok ⟨k+(σ.k+1 - σ.k),σ.m⟩
      congr 2;omega
def ES (K:Nat) (f:Nat→Rs):Prop:=∃ d0 r,r≠Rs.deep∧(∀ s,r=.ok s→K≤s.k)∧∀ d,d0≤d→f d=r
theorem ES.const {K:Nat} {r:Rs} (h:r≠.deep) (hk:∀ s,r=.ok s→K≤s.k):ES K fun _=>r:=⟨0,r,h,hk,fun _ _=>rfl⟩
theorem ES.bad {K:Nat}:ES K fun _=>.bad:=ES.const (by simp) fun s h=>by cases h
theorem ES.ok {K:Nat} {s:St} (h:K≤s.k):ES K fun _=>.ok s:=ES.const (by simp) fun t e=>by cases e;exact h
theorem ES.mono {K K':Nat} {f:Nat→Rs} (h:ES K f) (hk:K'≤K):ES K' f:=by
 obtain ⟨d0,r,h1,h2,h3⟩:=h
 exact ⟨d0,r,h1,fun s e=>Nat.le_trans hk (h2 s e),h3⟩
theorem ES.bind {K:Nat} {f:Nat→Rs} {g:Nat→St→Rs} (h:ES K f) (hg:∀ s,K≤s.k→ES K fun d=>g d s):ES K fun d=>(f d).andThen (g d):=by
 obtain ⟨d0,r,h1,h2,h3⟩:=h
 cases r with
 | deep=>exact absurd rfl h1
 | bad=>exact ⟨d0,.bad,by simp,(fun s e=>by cases e),fun d hd=>by show (f d).andThen (g d)=_;rw [h3 d hd];rfl⟩
 | ok s=>
   obtain ⟨d1,r1,h4,h5,h6⟩:=hg s (h2 s rfl)
   exact ⟨max d0 d1,r1,h4,h5,fun d hd=>by show (f d).andThen (g d)=_;rw [h3 d (by omega),Rs.andThen_ok];exact h6 d (by omega)⟩
theorem ES.step {F:Nat} {σ:St} {g:Nat→St→Rs} (h:σ.k<F→ES (σ.k+1) fun d=>g d ⟨σ.k+1,σ.m⟩):ES σ.k fun d=>stepS F σ (g d):=by
 by_cases hk:σ.k<F
 ·have:=(h hk).mono (Nat.le_succ σ.k)
  simpa only [stepS,if_pos hk] using this
 ·simpa only [stepS,if_neg hk] using (ES.bad (K:=σ.k))
theorem ES.test {F:Nat} {env:List Ev} {n:Nd} {σ:St} {g:Nat→Bool→St→Rs} (h:∀ b,σ.k<F→ES (σ.k+1) fun d=>g d b ⟨σ.k+1,σ.m⟩):ES σ.k fun d=>testT F env n σ (g d):=by
 unfold testT
 refine ES.step (g:=fun d σ1=>match evT (look env σ.m.mem) n with | some v=>g d (decide (v≠0)) σ1 | none=>.bad) fun hk=>?_
 cases evT (look env σ.m.mem) n with
 | none=>exact ES.bad
 | some v=>exact h _ hk
theorem ES.opt {K k:Nat} (o:Option Mt) (h:K≤k):ES K fun _=>optS o k:=by
 cases o with
 | none=>exact ES.bad
 | some m=>exact ES.ok (s:=⟨k,m⟩) h
def Tk.rank:Tk→Nat
 | .st _=>0
 | .bl l=>l.length+1
 | .hd n=>(kid n 1).kids.length+2
 | .ck _=>0
theorem ordK_len (b:Bool) (l:List Nd):(ordK b l).length=l.length:=by cases b;rfl;exact List.length_reverse
theorem ES.ex {P:List Pc} {F:Nat}:∀ (m r:Nat) (t:Tk) (dep:Nat) (env:List Ev) (back:Bool) (σ:St),F - σ.k≤m→t.rank≤r→ES σ.k fun d=>Go.Proofs.YtgbomnibedefoaaGreatDoor.ex P F d t dep env back σ:=by
 intro m
 induction m using Nat.strongRecOn with
 | _ m ihm=>
   intro r
   induction r using Nat.strongRecOn with
   | _ r ihr=>
     intro t dep env back σ hm hr
     have up:ES σ.k (fun d=>exB P F (Go.Proofs.YtgbomnibedefoaaGreatDoor.ex P F d) t dep env back σ)→ES σ.k fun d=>Go.Proofs.YtgbomnibedefoaaGreatDoor.ex P F d t dep env back σ:=by
      rintro ⟨d0,r,h1,h2,h3⟩
      refine ⟨d0+1,r,h1,h2,fun d hd=>?_⟩
      obtain ⟨d,rfl⟩:∃ d',d=d'+1:=⟨d - 1,by omega⟩
      exact h3 d (by omega)
     have low:∀ (t':Tk) (dep':Nat) (env':List Ev) (back':Bool) (σ':St),σ.k<F→σ.k+1≤σ'.k→ES (σ.k+1) fun d=>Go.Proofs.YtgbomnibedefoaaGreatDoor.ex P F d t' dep' env' back' σ':=fun t' dep' env' back' σ' h1 h2=>
      (ihm (F - σ'.k) (by omega) t'.rank t' dep' env' back' σ' (Nat.le_refl _) (Nat.le_refl _)).mono h2
     have same:∀ (t':Tk) (dep':Nat) (env':List Ev) (back':Bool) (σ':St),t'.rank<t.rank→σ.k≤σ'.k→ES σ.k fun d=>Go.Proofs.YtgbomnibedefoaaGreatDoor.ex P F d t' dep' env' back' σ':=fun t' dep' env' back' σ' h1 h2=>
      (ihr t'.rank (by omega) t' dep' env' back' σ' (by omega) (Nat.le_refl _)).mono h2
     refine up ?_
     match t with
     | .bl []=>exact ES.ok (Nat.le_refl _)
     | .bl (x::l)=>
       exact ES.bind (same (.st x) dep env back σ (by simp [Tk.rank]) (Nat.le_refl _)) fun s hs=>same (.bl l) dep env back s (by simp [Tk.rank]) hs
     | .hd n=>
       exact ES.bind (same (.bl (ordK back (kid n 1).kids)) dep env back σ (by simp [Tk.rank,ordK_len]) (Nat.le_refl _)) fun s hs=>same (.ck n) dep env back s (by simp [Tk.rank]) hs
     | .ck n=>
       simp only [exB]
       refine ES.test (g:=fun d b σ1=>if b then .ok σ1 else (Go.Proofs.YtgbomnibedefoaaGreatDoor.ex P F d (.bl (ordK back (kid n 2).kids)) dep env back σ1).andThen fun σ2=>testT F env (fstK n back) σ2 fun b2 σ3=>if b2 then .bad else Go.Proofs.YtgbomnibedefoaaGreatDoor.ex P F d (.hd n) dep env back σ3) fun b hk=>?_
       cases b with
       | true=>exact ES.ok (Nat.le_refl _)
       | false=>
         refine ES.bind (low _ _ _ _ _ hk (Nat.le_refl _)) fun s hs=>?_
         refine (ES.test (g:=fun d b2 σ3=>if b2 then .bad else Go.Proofs.YtgbomnibedefoaaGreatDoor.ex P F d (.hd n) dep env back σ3) fun b hk2=>?_).mono hs
         cases b with
         | true=>exact ES.bad
         | false=>exact (ihm (F - (s.k+1)) (by omega) _ _ dep env back ⟨s.k+1,s.m⟩ (Nat.le_refl _) (Nat.le_refl _))
     | .st n=>
       simp only [exB]
       by_cases h52:n.kind=52
       ·simp only [if_pos h52]
        refine ES.test (g:=fun d b σ1=>(Go.Proofs.YtgbomnibedefoaaGreatDoor.ex P F d (.bl (ordK back (kid n (if b then 1 else 2)).kids)) dep env back σ1).andThen fun σ2=>testT F env (lstK n back) σ2 fun b2 σ3=>if b2=b then .ok σ3 else .bad) fun b hk=>?_
        refine ES.bind (low _ _ _ _ _ hk (Nat.le_refl _)) fun s hs=>?_
        refine (ES.test (g:=fun _ b2 σ3=>if b2=b then .ok σ3 else .bad) fun b2 hk2=>?_).mono hs
        by_cases e:b2=b
        ·simp only [if_pos e];exact ES.ok (Nat.le_refl _)
        ·simp only [if_neg e];exact ES.bad
       simp only [if_neg h52]
       by_cases h53:n.kind=53
       ·simp only [if_pos h53]
        refine ES.test (g:=fun d b σ1=>if b then Go.Proofs.YtgbomnibedefoaaGreatDoor.ex P F d (.hd n) dep env back σ1 else .bad) fun b hk=>?_
        cases b with
        | true=>exact low _ _ _ _ _ hk (Nat.le_refl _)
        | false=>exact ES.bad
       simp only [if_neg h53]
       by_cases h54:n.kind=54
       ·simp only [if_pos h54]
        refine ES.step (g:=fun d σ0=>(optS (openT env n back σ.m) σ0.k).andThen fun σ1=>(Go.Proofs.YtgbomnibedefoaaGreatDoor.ex P F d (.bl (ordK back (kid n 1).kids)) dep (env++[⟨intV n,σ.m.mem.length⟩]) back σ1).andThen fun σ2=>stepS F σ2 fun σ3=>optS (closeT (env++[⟨intV n,σ.m.mem.length⟩]) n back σ.m.mem.length σ2.m) σ3.k) fun hk=>?_
        refine ES.bind (ES.opt _ (Nat.le_refl _)) fun s hs=>ES.bind (low _ _ _ _ _ hk hs) fun s2 hs2=>?_
        exact (ES.step (g:=fun _ σ3=>optS (closeT (env++[⟨intV n,σ.m.mem.length⟩]) n back σ.m.mem.length s2.m) σ3.k) fun _=>ES.opt _ (Nat.le_refl _)).mono hs2
       simp only [if_neg h54]
       by_cases h55:n.kind=55
       ·simp only [if_pos h55]
        refine ES.step (g:=fun d σ0=>(optS (openS env n σ.m) σ0.k).andThen fun σ1=>(Go.Proofs.YtgbomnibedefoaaGreatDoor.ex P F d (.bl (ordK back (kid n 0).kids)) dep (env++[⟨stkV n,σ.m.mem.length⟩]) back σ1).andThen fun σ2=>stepS F σ2 fun σ3=>optS (closeS σ.m.mem.length σ2.m) σ3.k) fun hk=>?_
        refine ES.bind (ES.opt _ (Nat.le_refl _)) fun s hs=>ES.bind (low _ _ _ _ _ hk hs) fun s2 hs2=>?_
        exact (ES.step (g:=fun _ σ3=>optS (closeS σ.m.mem.length s2.m) σ3.k) fun _=>ES.opt _ (Nat.le_refl _)).mono hs2
       simp only [if_neg h55]
       by_cases h50:n.kind=50∨n.kind=51
       ·simp only [if_pos h50]
        refine ES.step (g:=fun d σ1=>match procT P n.name with
         | none=>.bad
         | some p=>match enterT env p.params n.kids with
           | none=>.bad
           | some env2=>if 100≤dep then .bad else (Go.Proofs.YtgbomnibedefoaaGreatDoor.ex P F d (.bl (ordK (back != decide (n.kind=51)) p.body.kids)) (dep+1) env2 (back != decide (n.kind=51)) σ1).andThen fun σ2=>stepS F σ2 .ok) fun hk=>?_
        cases procT P n.name with
        | none=>exact ES.bad
        | some p=>
          simp only
          cases enterT env p.params n.kids with
          | none=>exact ES.bad
          | some env2=>
            simp only
            by_cases hd:100≤dep
            ·simp only [if_pos hd];exact ES.bad
            ·simp only [if_neg hd]
             refine ES.bind (low _ _ _ _ _ hk (Nat.le_refl _)) fun s2 hs2=>?_
             exact (ES.step (g:=fun _=>.ok) fun _=>ES.ok (Nat.le_refl _)).mono hs2
       ·simp only [if_neg h50]
        exact ES.step (g:=fun _ σ1=>optS (basicT env (if back then invK n.kind else n.kind) n σ.m) σ1.k) fun _=>ES.opt _ (Nat.le_refl _)
theorem ex_ends (P:List Pc) (F:Nat) (t:Tk) (dep:Nat) (env:List Ev) (back:Bool) (σ:St):∃ d,ex P F d t dep env back σ≠.deep∧∀ d' s,ex P F d' t dep env back σ=.ok s→ex P F d t dep env back σ=.ok s:=by
 obtain ⟨d0,r,h1,_,h3⟩:=ES.ex (P:=P) (F:=F) _ _ t dep env back σ (Nat.le_refl _) (Nat.le_refl _)
 have h3:∀ d,d0≤d→Go.Proofs.YtgbomnibedefoaaGreatDoor.ex P F d t dep env back σ=r:=h3
 refine ⟨d0,by rw [h3 d0 (Nat.le_refl _)];exact h1,fun d' s hs=>?_⟩
 have:=ex_mono (Nat.le_max_right d0 d') hs
 rw [h3 _ (Nat.le_max_left d0 d')] at this
 rw [h3 d0 (Nat.le_refl _),this]
def Cap (F:Nat) (r:Rs):Prop:=∀ s,r=.ok s→s.k≤F
theorem Cap.bad {F:Nat}:Cap F .bad:=fun s h=>by cases h
theorem Cap.deep {F:Nat}:Cap F .deep:=fun s h=>by cases h
theorem Cap.ok {F:Nat} {s:St} (h:s.k≤F):Cap F (.ok s):=fun t e=>by cases e;exact h
theorem Cap.bind {F:Nat} {r:Rs} {f:St→Rs} (h:Cap F r) (hf:∀ s,s.k≤F→Cap F (f s)):Cap F (r.andThen f):=fun s e=>by
 obtain ⟨t,h1,h2⟩:=Rs.andThen_eq e
 exact hf t (h t h1) s h2
theorem Cap.step {F:Nat} {σ:St} {f:St→Rs} (hf:σ.k<F→Cap F (f ⟨σ.k+1,σ.m⟩)):Cap F (stepS F σ f):=fun s e=>by
 obtain ⟨h1,h2⟩:=stepS_eq e
 exact hf h1 s h2
theorem Cap.test {F:Nat} {env:List Ev} {n:Nd} {σ:St} {f:Bool→St→Rs} (hf:∀ b,σ.k<F→Cap F (f b ⟨σ.k+1,σ.m⟩)):Cap F (testT F env n σ f):=fun s e=>by
 obtain ⟨v,h1,_,h2⟩:=testT_eq e
 exact hf _ h1 s h2
theorem Cap.opt {F k:Nat} (o:Option Mt) (h:k≤F):Cap F (optS o k):=fun s e=>by
 obtain ⟨m,_,rfl⟩:=optS_eq e
 exact h
theorem ex_cap (P:List Pc) (F:Nat):∀ (d:Nat) (t:Tk) (dep:Nat) (env:List Ev) (back:Bool) (σ:St),σ.k≤F→Cap F (ex P F d t dep env back σ):=by
 intro d
 induction d with
 | zero=>intro t dep env back σ _;exact Cap.deep
 | succ d ih=>
   intro t dep env back σ hk
   rw [ex_succ]
   match t with
   | .bl []=>exact Cap.ok hk
   | .bl (x::l)=>exact Cap.bind (ih _ _ _ _ _ hk) fun s hs=>ih _ _ _ _ _ hs
   | .hd n=>exact Cap.bind (ih _ _ _ _ _ hk) fun s hs=>ih _ _ _ _ _ hs
   | .ck n=>
     simp only [exB]
     refine Cap.test fun b h1=>?_
     cases b with
     | true=>exact Cap.ok h1
     | false=>
       refine Cap.bind (ih _ _ _ _ _ h1) fun s hs=>Cap.test fun b h2=>?_
       cases b with
       | true=>exact Cap.bad
       | false=>exact ih _ _ _ _ _ h2
   | .st n=>
     simp only [exB]
     by_cases h52:n.kind=52
     ·simp only [if_pos h52]
      refine Cap.test fun b h1=>Cap.bind (ih _ _ _ _ _ h1) fun s hs=>Cap.test fun b2 h2=>?_
      by_cases e:b2=b
      ·simp only [if_pos e];exact Cap.ok h2
      ·simp only [if_neg e];exact Cap.bad
     simp only [if_neg h52]
     by_cases h53:n.kind=53
     ·simp only [if_pos h53]
      refine Cap.test fun b h1=>?_
      cases b with
      | true=>exact ih _ _ _ _ _ h1
      | false=>exact Cap.bad
     simp only [if_neg h53]
     by_cases h54:n.kind=54
     ·simp only [if_pos h54]
      exact Cap.step fun h1=>Cap.bind (Cap.opt _ h1) fun s hs=>Cap.bind (ih _ _ _ _ _ hs) fun s2 hs2=>Cap.step fun h2=>Cap.opt _ h2
     simp only [if_neg h54]
     by_cases h55:n.kind=55
     ·simp only [if_pos h55]
      exact Cap.step fun h1=>Cap.bind (Cap.opt _ h1) fun s hs=>Cap.bind (ih _ _ _ _ _ hs) fun s2 hs2=>Cap.step fun h2=>Cap.opt _ h2
     simp only [if_neg h55]
     by_cases h50:n.kind=50∨n.kind=51
     ·simp only [if_pos h50]
      refine Cap.step fun h1=>?_
      cases procT P n.name with
      | none=>exact Cap.bad
      | some p=>
        simp only
        cases enterT env p.params n.kids with
        | none=>exact Cap.bad
        | some env2=>
          simp only
          by_cases hd:100≤dep
          ·simp only [if_pos hd];exact Cap.bad
          ·simp only [if_neg hd]
           exact Cap.bind (ih _ _ _ _ _ h1) fun s2 hs2=>Cap.step fun h2=>Cap.ok h2
     ·simp only [if_neg h50]
      exact Cap.step fun h1=>Cap.opt _ h1
end Go.Proofs.YtgbomnibedefoaaGreatDoor
