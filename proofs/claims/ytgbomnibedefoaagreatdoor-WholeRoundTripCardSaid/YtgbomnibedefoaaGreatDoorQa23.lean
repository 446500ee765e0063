import Derived.Laws.BitsAllLaws
import Derived.Test.YtgbomnibedefoaaGreatDoorQa03
set_option maxRecDepth 100000
set_option maxHeartbeats 8000000
namespace Go.Proofs.YtgbomnibedefoaaGreatDoor
open Go.ChangeShapes Go.WideShapes Go.ChangeAt Go.RowKit Go.Sort
def InR (x:Int):Prop:=-9223372036854775808≤x∧x≤9223372036854775807
theorem wrap64_inR (x:Int):InR (wrap64 x):=by unfold wrap64 InR;omega
theorem xor_inR (x y:Int):InR (bits BinOp.xor IntKind.i64 x y):=by
 show InR (IntKind.i64.wrap ((BitVec.ofInt 64 x ^^^ BitVec.ofInt 64 y).toNat:Int))
 rw [IntKind.wrap_i64];unfold InR;omega
theorem ofInt_wrap (n:Int):BitVec.ofInt 64 (IntKind.i64.wrap n)=BitVec.ofInt 64 n:=by
 apply BitVec.eq_of_toNat_eq
 rw [IntKind.wrap_i64,BitVec.toNat_ofInt,BitVec.toNat_ofInt]
 have:((2 ^ 64:Nat):Int)=18446744073709551616:=by decide
 rw [this]
 congr 1
 omega
theorem xor_back {x:Int} (hx:InR x) (y:Int):bits BinOp.xor IntKind.i64 (bits BinOp.xor IntKind.i64 x y) y=x:=by
 show IntKind.i64.wrap ((BitVec.ofInt 64 (IntKind.i64.wrap ((BitVec.ofInt 64 x ^^^ BitVec.ofInt 64 y).toNat:Int)) ^^^ BitVec.ofInt 64 y).toNat:Int)=x
 rw [ofInt_wrap]
 have e:BitVec.ofInt 64 (((BitVec.ofInt 64 x ^^^ BitVec.ofInt 64 y).toNat:Nat):Int)=BitVec.ofInt 64 x ^^^ BitVec.ofInt 64 y:=by
  rw [BitVec.ofInt_natCast,BitVec.ofNat_toNat,BitVec.setWidth_eq]
 rw [e,BitVec.xor_assoc,BitVec.xor_self,BitVec.xor_zero,IntKind.wrap_i64]
 rw [BitVec.toNat_ofInt]
 unfold InR at hx
 have:(2 ^ 64:Nat)=18446744073709551616:=by decide
 rw [this]
 omega
theorem upd_back {kind:Nat} (hk:kind=40∨kind=41∨kind=42) {x:Int} (hx:InR x) (y:Int):updR (invK kind) (updR kind x y) y=x∧InR (updR kind x y):=by
 rcases hk with rfl | rfl | rfl
 ·refine ⟨?_,wrap64_inR _⟩
  show wrap64 (wrap64 (x+y) - y)=x
  unfold wrap64;unfold InR at hx;omega
 ·refine ⟨?_,wrap64_inR _⟩
  show wrap64 (wrap64 (x - y)+y)=x
  unfold wrap64;unfold InR at hx;omega
 ·exact ⟨xor_back hx y,xor_inR _ _⟩
def Shape (t:Nat × Int) (c:List Int):Prop:=(t.1=1→c.length=1)∧(t.1=2→(c.length:Int)=t.2)∧(t.1=3→c.length≤1000)
structure MOk (T:List (Nat × Int)) (σ:Mt):Prop where
 len:σ.mem.length=T.length
 sh:∀ (i:Nat) (t:Nat × Int) (c:List Int),T[i]?=some t→σ.mem[i]?=some c→Shape t c
 rg:∀ c∈σ.mem,∀ x∈c,InR x
 ln:∀ c∈σ.mem,c.length≤1000
 li:σ.inp.length≤4096
 lo:σ.out.length≤4096
 ri:∀ x∈σ.inp,InR x
 ro:∀ x∈σ.out,InR x
structure EOk (T:List (Nat × Int)) (env:List Ev):Prop where
 names:(env.map fun e=>e.v.name).Nodup
 cells:(env.map fun e=>e.c).Nodup
 ty:∀ e∈env,T[e.c]?=some (e.v.kind,e.v.len)
theorem findE_mem {env:List Ev} {s:ByteArray} {e:Ev} (h:findE env s=some e):e∈env∧e.v.name=s:=by
 unfold findE at h
 have h1:=List.mem_of_find?_eq_some h
 have h2:=List.find?_some h
 exact ⟨List.mem_reverse.1 h1,by simpa using h2⟩
theorem nodup_map_inj {α β:Type} {f:α→β} {l:List α} (h:(l.map f).Nodup) {a b:α} (ha:a∈l) (hb:b∈l) (e:f a=f b):a=b:=by
 induction l with
 | nil=>cases ha
 | cons x r ih=>
   rw [List.map_cons,List.nodup_cons] at h
   rcases List.mem_cons.1 ha with e1 | h1
   ·rcases List.mem_cons.1 hb with e2 | h2
    ·rw [e1,e2]
    ·exact absurd (List.mem_map.2 ⟨b,h2,by rw [← e,e1]⟩) h.1
   ·rcases List.mem_cons.1 hb with e2 | h2
    ·exact absurd (List.mem_map.2 ⟨a,h1,by rw [e,e2]⟩) h.1
    ·exact ih h.2 h1 h2
theorem EOk.cell_ne {T:List (Nat × Int)} {env:List Ev} (h:EOk T env) {s t:ByteArray} {e f:Ev} (he:findE env s=some e) (hf:findE env t=some f) (hn:s≠t):e.c≠f.c:=fun q=>by
 obtain ⟨h1,h2⟩:=findE_mem he
 obtain ⟨h3,h4⟩:=findE_mem hf
 have:=nodup_map_inj h.cells h1 h3 q
 subst this
 exact hn (h2.symm.trans h4)
theorem EOk.look_set {T:List (Nat × Int)} {env:List Ev} (h:EOk T env) {s t:ByteArray} {e:Ev} (he:findE env s=some e) (hn:t≠s) (mem:List (List Int)) (c:List Int):look env (mem.set e.c c) t=look env mem t:=by
 unfold look
 cases hf:findE env t with
 | none=>rfl
 | some f=>
   show (mem.set e.c c)[f.c]?=mem[f.c]?
   rw [List.getElem?_set_ne]
   exact h.cell_ne he hf (Ne.symm hn)
theorem findV_E {env:List Ev} {s:ByteArray}:findV (env.map (·.v)) s=(findE env s).map (·.v):=by
 unfold findV findE
 rw [← List.map_reverse,List.find?_map]
 rfl
theorem EOk.kind {T:List (Nat × Int)} {env:List Ev} (h:EOk T env) {s:ByteArray} {e:Ev} (he:findE env s=some e):T[e.c]?=some (e.v.kind,e.v.len):=h.ty e (findE_mem he).1
def plOk (p:Nd) (s:ByteArray):Prop:=p.kind=2∨mentT s (kid p 0)=false
theorem indexT_keep {g g':ByteArray→Option (List Int)} {p:Nd} (h:∀ s,¬ plOk p s→g s=g' s):indexT g p=indexT g' p:=by
 unfold indexT
 by_cases hk:p.kind=2
 ·rw [if_pos hk,if_pos hk]
 ·rw [if_neg hk,if_neg hk]
  exact evT_congr _ fun s hs=>h s fun q=>by
   rcases q with q | q
   ·exact hk q
   ·rw [hs] at q;cases q
theorem placeT_eq {env:List Ev} {mem:List (List Int)} {p:Nd} {q:Nat × Nat} (h:placeT env mem p=some q):∃ i e c,indexT (look env mem) p=some i∧findE env p.name=some e∧mem[e.c]?=some c∧0≤i∧i<c.length∧q=(e.c,i.toNat):=by
 unfold placeT at h
 obtain ⟨i,h1,h⟩:=Option.bind_eq_some_iff.1 h
 obtain ⟨e,h2,h⟩:=Option.bind_eq_some_iff.1 h
 obtain ⟨c,h3,h⟩:=Option.bind_eq_some_iff.1 h
 by_cases hc:0≤i∧i<c.length
 ·rw [if_pos hc] at h
  exact ⟨i,e,c,h1,h2,h3,hc.1,hc.2,(Option.some.inj h).symm⟩
 ·rw [if_neg hc] at h;cases h
theorem placeT_keep {env:List Ev} {mem mem':List (List Int)} {p:Nd} {q:Nat × Nat} (h:placeT env mem p=some q) (hl:∀ s,¬ plOk p s→look env mem s=look env mem' s) (hc:∀ c,mem[q.1]?=some c→∃ c',mem'[q.1]?=some c'∧c'.length=c.length):placeT env mem' p=some q:=by
 obtain ⟨i,e,c,h1,h2,h3,h4,h5,rfl⟩:=placeT_eq h
 obtain ⟨c',h6,h7⟩:=hc c h3
 unfold placeT
 rw [← indexT_keep hl,h1,h2]
 show (mem'[e.c]?).bind _=_
 rw [h6]
 show (if 0≤i∧i<(c'.length:Int) then some (e.c,i.toNat) else none)=_
 rw [if_pos ⟨h4,by rw [h7];exact h5⟩]
def PlIn (mem:List (List Int)) (q:Nat × Nat):Prop:=∃ c,mem[q.1]?=some c∧q.2<c.length
theorem placeT_in {env:List Ev} {mem:List (List Int)} {p:Nd} {q:Nat × Nat} (h:placeT env mem p=some q):PlIn mem q:=by
 obtain ⟨i,e,c,h1,h2,h3,h4,h5,rfl⟩:=placeT_eq h
 exact ⟨c,h3,by show i.toNat<_;omega⟩
theorem getM_eq {mem:List (List Int)} {q:Nat × Nat} {c:List Int} (h:mem[q.1]?=some c):getM mem q=(c[q.2]?).getD 0:=by unfold getM;rw [h];rfl
theorem setM_eq {mem:List (List Int)} {q:Nat × Nat} {c:List Int} (h:mem[q.1]?=some c) (v:Int):setM mem q v=mem.set q.1 (c.set q.2 v):=by unfold setM;rw [h];rfl
theorem setM_at {mem:List (List Int)} {q:Nat × Nat} {c:List Int} (h:mem[q.1]?=some c) (v:Int):(setM mem q v)[q.1]?=some (c.set q.2 v):=by
 rw [setM_eq h,List.getElem?_set_self (List.getElem?_eq_some_iff.1 h).1]
theorem setM_ne {mem:List (List Int)} {q:Nat × Nat} {j:Nat} (h:j≠q.1) (v:Int):(setM mem q v)[j]?=mem[j]?:=by
 unfold setM;rw [List.getElem?_set_ne (Ne.symm h)]
theorem setM_lens (mem:List (List Int)) (q:Nat × Nat) (v:Int) (j:Nat) (c:List Int) (h:mem[j]?=some c):∃ c',(setM mem q v)[j]?=some c'∧c'.length=c.length:=by
 by_cases e:j=q.1
 ·subst e;exact ⟨_,setM_at h v,by rw [List.length_set]⟩
 ·exact ⟨c,by rw [setM_ne e];exact h,rfl⟩
theorem getM_setM {mem:List (List Int)} {q:Nat × Nat} (h:PlIn mem q) (v:Int):getM (setM mem q v) q=v:=by
 obtain ⟨c,h1,h2⟩:=h
 rw [getM_eq (setM_at h1 v),List.getElem?_set_self h2];rfl
theorem getM_setM_ne {mem:List (List Int)} {q r:Nat × Nat} (h:r≠q) (v:Int):getM (setM mem q v) r=getM mem r:=by
 by_cases e:r.1=q.1
 ·have hne:q.2≠r.2:=fun e2=>h (Prod.ext e e2.symm)
  cases hc:mem[q.1]? with
  | none=>
    unfold setM getM
    rw [hc,e,List.getElem?_set_self',hc];rfl
  | some c=>
    rw [getM_eq (q:=r) (c:=c.set q.2 v) (by rw [e];exact setM_at hc v),getM_eq (q:=r) (c:=c) (by rw [e];exact hc),List.getElem?_set_ne hne]
 ·unfold getM;rw [setM_ne e]
theorem setM_setM {mem:List (List Int)} {q:Nat × Nat} (h:PlIn mem q) (v u:Int):setM (setM mem q v) q u=setM mem q u:=by
 obtain ⟨c,h1,h2⟩:=h
 rw [setM_eq (setM_at h1 v),setM_eq h1,setM_eq h1,List.set_set,List.set_set]
theorem setM_getM {mem:List (List Int)} {q:Nat × Nat} (h:PlIn mem q):setM mem q (getM mem q)=mem:=by
 obtain ⟨c,h1,h2⟩:=h
 rw [setM_eq h1,getM_eq h1,List.getElem?_eq_getElem h2]
 show mem.set q.1 (c.set q.2 c[q.2])=mem
 rw [List.set_getElem_self]
 obtain ⟨h3,h4⟩:=List.getElem?_eq_some_iff.1 h1
 rw [← h4,List.set_getElem_self]
theorem setM_comm {mem:List (List Int)} {q r:Nat × Nat} (h:r≠q) (v u:Int):setM (setM mem q v) r u=setM (setM mem r u) q v:=by
 by_cases e:r.1=q.1
 ·have hne:q.2≠r.2:=fun e2=>h (Prod.ext e e2.symm)
  cases hc:mem[q.1]? with
  | none=>
    have:mem.length≤q.1:=List.getElem?_eq_none_iff.1 hc
    have k:∀ (m:List (List Int)) (p:Nat × Nat) (z:Int),m.length≤p.1→setM m p z=m:=fun m p z hm=>by unfold setM;exact List.set_eq_of_length_le hm
    rw [k mem q v this,k mem r u (by omega),k mem q v this]
  | some c=>
    have hr:mem[r.1]?=some c:=by rw [e];exact hc
    rw [setM_eq (q:=r) (c:=c.set q.2 v) (by rw [e];exact setM_at hc v),setM_eq hc,setM_eq (q:=q) (mem:=setM mem r u) (c:=c.set r.2 u) (by rw [← e];exact setM_at hr u),setM_eq hr,e,List.set_set,List.set_set,List.set_comm _ _ hne]
 ·unfold setM
  rw [List.getElem?_set_ne (Ne.symm e),List.getElem?_set_ne e,List.set_comm _ _ (Ne.symm e)]
theorem MOk.setC {T:List (Nat × Int)} {σ:Mt} (h:MOk T σ) {i:Nat} {c:List Int} (hs:∀ t,T[i]?=some t→Shape t c) (hr:∀ x∈c,InR x) (hn:c.length≤1000):MOk T ⟨σ.mem.set i c,σ.inp,σ.out⟩:=by
 refine ⟨by rw [List.length_set];exact h.len,fun j t d h1 h2=>?_,fun d hd x hx=>?_,fun d hd=>?_,h.li,h.lo,h.ri,h.ro⟩
 ·by_cases e:i=j
  ·subst e
   have:=(List.getElem?_eq_some_iff.1 h2).1
   rw [List.length_set] at this
   rw [List.getElem?_set_self this] at h2
   cases h2
   exact hs t h1
  ·rw [List.getElem?_set_ne e] at h2;exact h.sh j t d h1 h2
 ·rcases List.mem_or_eq_of_mem_set hd with e | e
  ·exact h.rg d e x hx
  ·subst e;exact hr x hx
 ·rcases List.mem_or_eq_of_mem_set hd with e | e
  ·exact h.ln d e
  ·subst e;exact hn
theorem MOk.getR {T:List (Nat × Int)} {σ:Mt} (h:MOk T σ) {q:Nat × Nat} (hq:PlIn σ.mem q):InR (getM σ.mem q):=by
 obtain ⟨c,h1,h2⟩:=hq
 rw [getM_eq h1,List.getElem?_eq_getElem h2]
 exact h.rg c (List.mem_of_getElem? h1) _ (List.getElem_mem h2)
theorem MOk.setM {T:List (Nat × Int)} {σ:Mt} (h:MOk T σ) {q:Nat × Nat} (hq:PlIn σ.mem q) {v:Int} (hv:InR v):MOk T ⟨setM σ.mem q v,σ.inp,σ.out⟩:=by
 obtain ⟨c,h1,h2⟩:=hq
 rw [setM_eq h1]
 refine h.setC (fun t ht=>?_) (fun x hx=>?_) (by rw [List.length_set];exact h.ln c (List.mem_of_getElem? h1))
 ·have:=h.sh _ _ _ ht h1
  unfold Shape at *
  rw [List.length_set];exact this
 ·rcases List.mem_or_eq_of_mem_set hx with e | e
  ·exact h.rg c (List.mem_of_getElem? h1) x e
  ·subst e;exact hv
theorem shape3 {t:Nat × Int} {c:List Int} (h:t.1=3) (hl:c.length≤1000):Shape t c:=⟨fun q=>by omega,fun q=>by omega,fun _=>hl⟩
structure BOk (vis:List Vd) (n:Nd):Prop where
 p0:plOk (kid n 0) (kid n 0).name
 up:n.kind=40∨n.kind=41∨n.kind=42→mentT (kid n 0).name (kid n 1)=false
 sw:n.kind=43→plOk (kid n 0) (kid n 1).name∧plOk (kid n 1) (kid n 0).name∧plOk (kid n 1) (kid n 1).name
 sk:n.kind=44∨n.kind=45→plOk (kid n 0) n.name∧(∃ v,findV vis n.name=some v∧v.kind=3)∧∃ v,findV vis (kid n 0).name=some v∧v.kind≠3
theorem setM_set {mem:List (List Int)} {q:Nat × Nat} {i:Nat} (h:q.1≠i) (v:Int) (c:List Int):(setM mem q v).set i c=setM (mem.set i c) q v:=by
 unfold setM
 rw [List.getElem?_set_ne (Ne.symm h),List.set_comm _ _ h]
theorem PlIn.setM {mem:List (List Int)} {q r:Nat × Nat} (h:PlIn mem q) (v:Int):PlIn (setM mem r v) q:=by
 obtain ⟨c,h1,h2⟩:=h
 obtain ⟨c',h3,h4⟩:=setM_lens mem r v _ _ h1
 exact ⟨c',h3,by omega⟩
theorem PlIn.set {mem:List (List Int)} {q:Nat × Nat} (h:PlIn mem q) {i:Nat} (hi:q.1≠i) (c:List Int):PlIn (mem.set i c) q:=by
 obtain ⟨d,h1,h2⟩:=h
 exact ⟨d,by rw [List.getElem?_set_ne (Ne.symm hi)];exact h1,h2⟩
theorem set_same {mem:List (List Int)} {i:Nat} {c:List Int} (h:mem[i]?=some c):mem.set i c=mem:=by
 obtain ⟨h3,h4⟩:=List.getElem?_eq_some_iff.1 h
 rw [← h4,List.set_getElem_self]
theorem getLast_app {l:List Int} {v:Int} (h:l.getLast?=some v):l.dropLast++[v]=l:=by
 obtain ⟨h1,h2⟩:=List.getLast?_eq_some_iff.1 h
 subst h2;simp
theorem EOk.look_setM {T:List (Nat × Int)} {env:List Ev} (h:EOk T env) {mem:List (List Int)} {p:Nd} {q:Nat × Nat} (hp:placeT env mem p=some q) {t:ByteArray} (hn:t≠p.name) (mem2:List (List Int)) (v:Int):look env (setM mem2 q v) t=look env mem2 t:=by
 obtain ⟨i,e,c,_,h2,_,_,_,rfl⟩:=placeT_eq hp
 unfold setM
 exact h.look_set h2 hn _ _
theorem invK_up {k m:Nat} (h:m=k∨m=invK k) (hm:m=40∨m=41∨m=42):k=40∨k=41∨k=42:=by
 rcases h with e | e
 ·rw [← e];exact hm
 ·by_cases h0:k=40;·exact .inl h0
  by_cases h1:k=41;·exact .inr (.inl h1)
  by_cases h4:k=44;·subst h4;rw [e] at hm;revert hm;decide
  by_cases h5:k=45;·subst h5;rw [e] at hm;revert hm;decide
  by_cases h6:k=46;·subst h6;rw [e] at hm;revert hm;decide
  by_cases h7:k=47;·subst h7;rw [e] at hm;revert hm;decide
  by_cases h8:k=48;·subst h8;rw [e] at hm;revert hm;decide
  by_cases h9:k=49;·subst h9;rw [e] at hm;revert hm;decide
  unfold invK at e
  rw [if_neg h0,if_neg h1,if_neg h4,if_neg h5,if_neg h6,if_neg h7,if_neg h8,if_neg h9] at e
  rw [← e];exact hm
theorem invK_43 {k:Nat} (h:43=k∨43=invK k):k=43:=by
 rcases h with e | e
 ·exact e.symm
 ·by_cases h0:k=40;·subst h0;revert e;decide
  by_cases h1:k=41;·subst h1;revert e;decide
  by_cases h4:k=44;·subst h4;revert e;decide
  by_cases h5:k=45;·subst h5;revert e;decide
  by_cases h6:k=46;·subst h6;revert e;decide
  by_cases h7:k=47;·subst h7;revert e;decide
  by_cases h8:k=48;·subst h8;revert e;decide
  by_cases h9:k=49;·subst h9;revert e;decide
  unfold invK at e
  rw [if_neg h0,if_neg h1,if_neg h4,if_neg h5,if_neg h6,if_neg h7,if_neg h8,if_neg h9] at e
  exact e.symm
theorem invK_sk {k m:Nat} (h:m=k∨m=invK k) (hm:m=44∨m=45):k=44∨k=45:=by
 rcases h with e | e
 ·rw [← e];exact hm
 ·by_cases h0:k=40;·subst h0;rw [e] at hm;revert hm;decide
  by_cases h1:k=41;·subst h1;rw [e] at hm;revert hm;decide
  by_cases h4:k=44;·exact .inl h4
  by_cases h5:k=45;·exact .inr h5
  by_cases h6:k=46;·subst h6;rw [e] at hm;revert hm;decide
  by_cases h7:k=47;·subst h7;rw [e] at hm;revert hm;decide
  by_cases h8:k=48;·subst h8;rw [e] at hm;revert hm;decide
  by_cases h9:k=49;·subst h9;rw [e] at hm;revert hm;decide
  unfold invK at e
  rw [if_neg h0,if_neg h1,if_neg h4,if_neg h5,if_neg h6,if_neg h7,if_neg h8,if_neg h9] at e
  rw [← e];exact hm
section
variable {T:List (Nat × Int)} {env:List Ev} {n:Nd} {σ σ':Mt} {q:Nat × Nat}
theorem keep0 (hE:EOk T env) (hO:BOk (env.map (·.v)) n) (hq:placeT env σ.mem (kid n 0)=some q) (v:Int):placeT env (setM σ.mem q v) (kid n 0)=some q:=
 placeT_keep hq (fun s hs=>(hE.look_setM hq (fun e=>hs (by rw [e];exact hO.p0)) _ _).symm) fun c hc=>setM_lens _ _ _ _ _ hc
theorem rev_up {kind:Nat} (hE:EOk T env) (hM:MOk T σ) (hO:BOk (env.map (·.v)) n) (hq:placeT env σ.mem (kid n 0)=some q) (h1:kind=40∨kind=41∨kind=42) (hk:n.kind=40∨n.kind=41∨n.kind=42) {y:Int} (hy:evT (look env σ.mem) (kid n 1)=some y) :
  MOk T ⟨setM σ.mem q (updR kind (getM σ.mem q) y),σ.inp,σ.out⟩∧basicT env (invK kind) n ⟨setM σ.mem q (updR kind (getM σ.mem q) y),σ.inp,σ.out⟩=some σ:=by
 have hin:=placeT_in hq
 have hgr:=hM.getR hin
 obtain ⟨hb,hr⟩:=upd_back h1 hgr y
 have hik:invK kind=40∨invK kind=41∨invK kind=42:=by
  rcases h1 with e | e | e<;>subst e
  ·exact .inr (.inl rfl)
  ·exact .inl rfl
  ·exact .inr (.inr rfl)
 refine ⟨hM.setM hin hr,?_⟩
 rw [basicT_at (keep0 hE hO hq _),basicP_up _ _ _ _ hik,show evT (look env (setM σ.mem q (updR kind (getM σ.mem q) y))) (kid n 1)=some y from by
  rw [← hy]
  exact evT_congr _ fun s hs=>hE.look_setM hq (fun e=>by rw [e,hO.up hk] at hs;cases hs) _ _]
 show some (Mt.mk _ _ _)=_
 rw [getM_setM hin,hb,setM_setM hin,setM_getM hin]
theorem rev_sw (hE:EOk T env) (hM:MOk T σ) (hO:BOk (env.map (·.v)) n) (hk:n.kind=43) (hq:placeT env σ.mem (kid n 0)=some q) {r:Nat × Nat} (hr:placeT env σ.mem (kid n 1)=some r) :
  MOk T ⟨setM (setM σ.mem q (getM σ.mem r)) r (getM σ.mem q),σ.inp,σ.out⟩∧basicT env 43 n ⟨setM (setM σ.mem q (getM σ.mem r)) r (getM σ.mem q),σ.inp,σ.out⟩=some σ:=by
 have hin:=placeT_in hq
 have hir:=placeT_in hr
 obtain ⟨s1,s2,s3⟩:=hO.sw hk
 refine ⟨(hM.setM hin (hM.getR hir)).setM (hir.setM _) (hM.getR hin),?_⟩
 have lk:∀ s,s≠(kid n 0).name→s≠(kid n 1).name→∀ v u,look env σ.mem s=look env (setM (setM σ.mem q v) r u) s:=fun s h0 h1 v u=>by
  rw [hE.look_setM hr h1,hE.look_setM hq h0]
 have ll:∀ (v u:Int) (j:Nat) (c:List Int),σ.mem[j]?=some c→∃ c',(setM (setM σ.mem q v) r u)[j]?=some c'∧c'.length=c.length:=fun v u j c hc=>by
  obtain ⟨c1,h1,e1⟩:=setM_lens σ.mem q v j c hc
  obtain ⟨c2,h2,e2⟩:=setM_lens _ r u j c1 h1
  exact ⟨c2,h2,by omega⟩
 rw [basicT_at (p:=q) (placeT_keep (mem':=setM (setM σ.mem q (getM σ.mem r)) r (getM σ.mem q)) hq (fun s hs=>lk s (fun e=>hs (by rw [e];exact hO.p0)) (fun e=>hs (by rw [e];exact s1)) _ _) (fun c hc=>ll _ _ _ _ hc)),basicP_43]
 have pk:=placeT_keep (mem':=setM (setM σ.mem q (getM σ.mem r)) r (getM σ.mem q)) hr (fun s hs=>lk s (fun e=>hs (by rw [e];exact s2)) (fun e=>hs (by rw [e];exact s3)) _ _) (fun c hc=>ll _ _ _ _ hc)
 show Option.map (fun q_1=>Mt.mk (setM (setM (setM (setM σ.mem q (getM σ.mem r)) r (getM σ.mem q)) q (getM (setM (setM σ.mem q (getM σ.mem r)) r (getM σ.mem q)) q_1)) q_1 (getM (setM (setM σ.mem q (getM σ.mem r)) r (getM σ.mem q)) q)) σ.inp σ.out) (placeT env (setM (setM σ.mem q (getM σ.mem r)) r (getM σ.mem q)) (kid n 1))=some σ
 rw [pk]
 show some (Mt.mk _ _ _)=_
 by_cases e:r=q
 ·subst e
  rw [setM_setM hin,getM_setM hin,setM_getM hin,setM_getM hin,setM_getM hin]
 ·have g1:getM (setM (setM σ.mem q (getM σ.mem r)) r (getM σ.mem q)) r=getM σ.mem q:=getM_setM (hir.setM _) _
  have g2:getM (setM (setM σ.mem q (getM σ.mem r)) r (getM σ.mem q)) q=getM σ.mem r:=by rw [getM_setM_ne (Ne.symm e),getM_setM hin]
  rw [g1,g2,setM_comm e,setM_setM (hir.setM _),← setM_comm e,setM_setM hin,setM_getM hin,setM_getM hir]
theorem rev_sk_cells (hE:EOk T env) (hO:BOk (env.map (·.v)) n) (hk:n.kind=44∨n.kind=45) (hq:placeT env σ.mem (kid n 0)=some q) {e:Ev} (he:findE env n.name=some e):q.1≠e.c∧e.v.kind=3:=by
 obtain ⟨_,⟨v,hv,h3⟩,u,hu,hu3⟩:=hO.sk hk
 rw [findV_E,he] at hv
 cases hv
 obtain ⟨i,f,c,_,h2,_,_,_,rfl⟩:=placeT_eq hq
 rw [findV_E,h2] at hu
 cases hu
 refine ⟨fun q=>?_,h3⟩
 have a:=hE.kind he
 have b:=hE.kind h2
 rw [show f.c=e.c from q,a] at b
 have:=congrArg Prod.fst (Option.some.inj b)
 exact hu3 (this.symm.trans h3)
theorem keep_sk (hE:EOk T env) (hO:BOk (env.map (·.v)) n) (hk:n.kind=44∨n.kind=45) (hq:placeT env σ.mem (kid n 0)=some q) {e:Ev} (he:findE env n.name=some e) (hne:q.1≠e.c) (d:List Int) (v:Int):placeT env (setM (σ.mem.set e.c d) q v) (kid n 0)=some q:=
 placeT_keep hq (fun s hs=>by rw [hE.look_setM hq (fun e=>hs (by rw [e];exact hO.p0)),hE.look_set he (fun e=>hs (by rw [e];exact (hO.sk hk).1))]) fun c hc=>setM_lens _ _ _ _ _ (by rw [List.getElem?_set_ne (Ne.symm hne)];exact hc)
theorem rev_push (hE:EOk T env) (hM:MOk T σ) (hO:BOk (env.map (·.v)) n) (hk:n.kind=44∨n.kind=45) (hq:placeT env σ.mem (kid n 0)=some q) {e:Ev} (he:findE env n.name=some e) {c:List Int} (hc:σ.mem[e.c]?=some c) (hl:c.length<1000) :
  MOk T ⟨setM (σ.mem.set e.c (c++[getM σ.mem q])) q 0,σ.inp,σ.out⟩∧basicT env 45 n ⟨setM (σ.mem.set e.c (c++[getM σ.mem q])) q 0,σ.inp,σ.out⟩=some σ:=by
 have hin:=placeT_in hq
 obtain ⟨hne,hk3⟩:=rev_sk_cells hE hO hk hq he
 have hlt:=(List.getElem?_eq_some_iff.1 hc).1
 refine ⟨(hM.setC (fun t ht=>?_) (fun x hx=>?_) (by rw [List.length_append];exact hl)).setM (hin.set hne _) (by unfold InR;omega),?_⟩
 ·rw [hE.kind he] at ht
  cases ht
  exact shape3 hk3 (by rw [List.length_append];exact hl)
 ·rcases List.mem_append.1 hx with h | h
  ·exact hM.rg c (List.mem_of_getElem? hc) x h
  ·rw [List.mem_singleton.1 h];exact hM.getR hin
 ·rw [basicT_at (keep_sk hE hO hk hq he hne _ _),basicP_45,he]
  show ((setM (σ.mem.set e.c (c++[getM σ.mem q])) q 0)[e.c]?).bind (fun d=>(d.getLast?).bind fun v=>if getM (setM (σ.mem.set e.c (c++[getM σ.mem q])) q 0) q=0 then some (Mt.mk (setM ((setM (σ.mem.set e.c (c++[getM σ.mem q])) q 0).set e.c d.dropLast) q v) σ.inp σ.out) else none)=some σ
  rw [setM_ne (Ne.symm hne),List.getElem?_set_self hlt]
  show ((c++[getM σ.mem q]).getLast?).bind (fun v=>if getM (setM (σ.mem.set e.c (c++[getM σ.mem q])) q 0) q=0 then some (Mt.mk (setM ((setM (σ.mem.set e.c (c++[getM σ.mem q])) q 0).set e.c (c++[getM σ.mem q]).dropLast) q v) σ.inp σ.out) else none)=some σ
  rw [List.getLast?_concat,List.dropLast_concat]
  show (if getM (setM (σ.mem.set e.c (c++[getM σ.mem q])) q 0) q=0 then some (Mt.mk (setM ((setM (σ.mem.set e.c (c++[getM σ.mem q])) q 0).set e.c c) q (getM σ.mem q)) σ.inp σ.out) else none)=some σ
  rw [if_pos (getM_setM (hin.set hne _) _),setM_set hne,List.set_set,set_same hc,setM_setM hin,setM_getM hin]
theorem rev_pop (hE:EOk T env) (hM:MOk T σ) (hO:BOk (env.map (·.v)) n) (hk:n.kind=44∨n.kind=45) (hq:placeT env σ.mem (kid n 0)=some q) {e:Ev} (he:findE env n.name=some e) {c:List Int} (hc:σ.mem[e.c]?=some c) {v:Int} (hv:c.getLast?=some v) (h0:getM σ.mem q=0) :
  MOk T ⟨setM (σ.mem.set e.c c.dropLast) q v,σ.inp,σ.out⟩∧basicT env 44 n ⟨setM (σ.mem.set e.c c.dropLast) q v,σ.inp,σ.out⟩=some σ:=by
 have hin:=placeT_in hq
 obtain ⟨hne,hk3⟩:=rev_sk_cells hE hO hk hq he
 have hlt:=(List.getElem?_eq_some_iff.1 hc).1
 have hl:=(hM.sh _ _ _ (hE.kind he) hc).2.2 hk3
 have happ:=getLast_app hv
 have hll:c.dropLast.length<1000:=by
  have:c.length=c.dropLast.length+1:=by rw [← happ];simp
  omega
 have hrv:InR v:=hM.rg c (List.mem_of_getElem? hc) v (by rw [← happ];simp)
 refine ⟨(hM.setC (fun t ht=>?_) (fun x hx=>?_) (by omega)).setM (hin.set hne _) hrv,?_⟩
 ·rw [hE.kind he] at ht
  cases ht
  exact shape3 hk3 (by omega)
 ·exact hM.rg c (List.mem_of_getElem? hc) x (List.dropLast_subset _ hx)
 ·rw [basicT_at (keep_sk hE hO hk hq he hne _ _),basicP_44,he]
  show ((setM (σ.mem.set e.c c.dropLast) q v)[e.c]?).bind (fun d=>if d.length<1000 then some (Mt.mk (setM ((setM (σ.mem.set e.c c.dropLast) q v).set e.c (d++[getM (setM (σ.mem.set e.c c.dropLast) q v) q])) q 0) σ.inp σ.out) else none)=some σ
  rw [setM_ne (Ne.symm hne),List.getElem?_set_self hlt]
  show (if c.dropLast.length<1000 then some (Mt.mk (setM ((setM (σ.mem.set e.c c.dropLast) q v).set e.c (c.dropLast++[getM (setM (σ.mem.set e.c c.dropLast) q v) q])) q 0) σ.inp σ.out) else none)=some σ
  rw [if_pos hll,getM_setM (hin.set hne _),happ,setM_set hne,List.set_set,set_same hc,setM_setM hin,← h0,setM_getM hin]
theorem rev_tape (hE:EOk T env) (hM:MOk T σ) (hO:BOk (env.map (·.v)) n) (hq:placeT env σ.mem (kid n 0)=some q) :
  (∀ v r,σ.inp=v::r→getM σ.mem q=0→MOk T ⟨setM σ.mem q v,r,σ.out⟩∧basicT env 47 n ⟨setM σ.mem q v,r,σ.out⟩=some σ)∧
  (σ.inp.length<4096→MOk T ⟨setM σ.mem q 0,getM σ.mem q::σ.inp,σ.out⟩∧basicT env 46 n ⟨setM σ.mem q 0,getM σ.mem q::σ.inp,σ.out⟩=some σ)∧
  (σ.out.length<4096→MOk T ⟨setM σ.mem q 0,σ.inp,σ.out++[getM σ.mem q]⟩∧basicT env 49 n ⟨setM σ.mem q 0,σ.inp,σ.out++[getM σ.mem q]⟩=some σ)∧
  (∀ v,σ.out.getLast?=some v→getM σ.mem q=0→MOk T ⟨setM σ.mem q v,σ.inp,σ.out.dropLast⟩∧basicT env 48 n ⟨setM σ.mem q v,σ.inp,σ.out.dropLast⟩=some σ):=by
 have hin:=placeT_in hq
 have hgr:=hM.getR hin
 have h00:InR 0:=by unfold InR;omega
 refine ⟨fun v r hi h0=>?_,fun hl=>?_,fun hl=>?_,fun v hv h0=>?_⟩
 ·have hv:InR v:=hM.ri v (by rw [hi];simp)
  have hm:=hM.setM hin hv
  have hll:=hM.li
  rw [hi,List.length_cons] at hll
  refine ⟨⟨hm.len,hm.sh,hm.rg,hm.ln,by show r.length≤4096;omega,hm.lo,fun x hx=>hM.ri x (by rw [hi];exact List.mem_cons_of_mem _ hx),hm.ro⟩,?_⟩
  rw [basicT_at (keep0 hE hO hq _),basicP_47]
  show (if r.length<4096 then some (Mt.mk (setM (setM σ.mem q v) q 0) (getM (setM σ.mem q v) q::r) σ.out) else none)=some σ
  rw [if_pos (by omega),getM_setM hin,setM_setM hin,← hi,← h0,setM_getM hin]
 ·have hm:=hM.setM hin h00
  refine ⟨⟨hm.len,hm.sh,hm.rg,hm.ln,by show (_::σ.inp).length≤4096;rw [List.length_cons];omega,hm.lo,fun x hx=>by
   rcases List.mem_cons.1 hx with e | e
   ·rw [e];exact hgr
   ·exact hM.ri x e,hm.ro⟩,?_⟩
  rw [basicT_at (keep0 hE hO hq _),basicP_46]
  show (if getM (setM σ.mem q 0) q=0 then some (Mt.mk (setM (setM σ.mem q 0) q (getM σ.mem q)) σ.inp σ.out) else none)=some σ
  rw [if_pos (getM_setM hin _),setM_setM hin,setM_getM hin]
 ·have hm:=hM.setM hin h00
  refine ⟨⟨hm.len,hm.sh,hm.rg,hm.ln,hm.li,by show (σ.out++[_]).length≤4096;rw [List.length_append];exact hl,hm.ri,fun x hx=>by
   rcases List.mem_append.1 hx with e | e
   ·exact hM.ro x e
   ·rw [List.mem_singleton.1 e];exact hgr⟩,?_⟩
  rw [basicT_at (keep0 hE hO hq _),basicP_49]
  show ((σ.out++[getM σ.mem q]).getLast?).bind (fun v=>if getM (setM σ.mem q 0) q=0 then some (Mt.mk (setM (setM σ.mem q 0) q v) σ.inp (σ.out++[getM σ.mem q]).dropLast) else none)=some σ
  rw [List.getLast?_concat,List.dropLast_concat]
  show (if getM (setM σ.mem q 0) q=0 then some (Mt.mk (setM (setM σ.mem q 0) q (getM σ.mem q)) σ.inp σ.out) else none)=some σ
  rw [if_pos (getM_setM hin _),setM_setM hin,setM_getM hin]
 ·have happ:=getLast_app hv
  have hrv:InR v:=hM.ro v (by rw [← happ];simp)
  have hm:=hM.setM hin hrv
  have hll:σ.out.length=σ.out.dropLast.length+1:=by rw [← happ];simp
  have hlo:=hM.lo
  refine ⟨⟨hm.len,hm.sh,hm.rg,hm.ln,hm.li,by show σ.out.dropLast.length≤4096;omega,hm.ri,fun x hx=>hM.ro x (List.dropLast_subset _ hx)⟩,?_⟩
  rw [basicT_at (keep0 hE hO hq _),basicP_48]
  show (if σ.out.dropLast.length<4096 then some (Mt.mk (setM (setM σ.mem q v) q 0) σ.inp (σ.out.dropLast++[getM (setM σ.mem q v) q])) else none)=some σ
  rw [if_pos (by omega),getM_setM hin,setM_setM hin,happ,← h0,setM_getM hin]
theorem basic_rev {kind:Nat} (hkk:kind=n.kind∨kind=invK n.kind) (hE:EOk T env) (hM:MOk T σ) (hO:BOk (env.map (·.v)) n) (h:basicT env kind n σ=some σ'):MOk T σ'∧basicT env (invK kind) n σ'=some σ:=by
 obtain ⟨q,hq,h⟩:=Option.bind_eq_some_iff.1 (show (placeT env σ.mem (kid n 0)).bind (basicP env kind n σ)=some σ' from h)
 by_cases h1:kind=40∨kind=41∨kind=42
 ·rw [basicP_up _ _ _ _ h1] at h
  obtain ⟨y,hy,rfl⟩:=Option.map_eq_some_iff.1 h
  exact rev_up hE hM hO hq h1 (invK_up hkk h1) hy
 by_cases h2:kind=43
 ·subst h2
  rw [basicP_43] at h
  obtain ⟨r,hr,rfl⟩:=Option.map_eq_some_iff.1 h
  exact rev_sw hE hM hO (invK_43 hkk) hq hr
 by_cases h3:kind=44
 ·subst h3
  rw [basicP_44] at h
  obtain ⟨e,he,h⟩:=Option.bind_eq_some_iff.1 h
  obtain ⟨c,hc,h⟩:=Option.bind_eq_some_iff.1 h
  by_cases hl:c.length<1000
  ·rw [if_pos hl] at h
   cases h
   exact rev_push hE hM hO (invK_sk hkk (.inl rfl)) hq he hc hl
  ·rw [if_neg hl] at h;cases h
 by_cases h4:kind=45
 ·subst h4
  rw [basicP_45] at h
  obtain ⟨e,he,h⟩:=Option.bind_eq_some_iff.1 h
  obtain ⟨c,hc,h⟩:=Option.bind_eq_some_iff.1 h
  obtain ⟨v,hv,h⟩:=Option.bind_eq_some_iff.1 h
  by_cases h0:getM σ.mem q=0
  ·rw [if_pos h0] at h
   cases h
   exact rev_pop hE hM hO (invK_sk hkk (.inr rfl)) hq he hc hv h0
  ·rw [if_neg h0] at h;cases h
 obtain ⟨t1,t2,t3,t4⟩:=rev_tape hE hM hO hq
 by_cases h5:kind=46
 ·subst h5
  rw [basicP_46] at h
  obtain ⟨v,hv,h⟩:=Option.bind_eq_some_iff.1 h
  by_cases h0:getM σ.mem q=0
  ·rw [if_pos h0] at h
   cases h
   cases hi:σ.inp with
   | nil=>rw [hi] at hv;cases hv
   | cons u r=>
     rw [hi] at hv
     cases hv
     exact t1 _ r hi h0
  ·rw [if_neg h0] at h;cases h
 by_cases h6:kind=47
 ·subst h6
  rw [basicP_47] at h
  by_cases hl:σ.inp.length<4096
  ·rw [if_pos hl] at h;cases h;exact t2 hl
  ·rw [if_neg hl] at h;cases h
 by_cases h7:kind=48
 ·subst h7
  rw [basicP_48] at h
  by_cases hl:σ.out.length<4096
  ·rw [if_pos hl] at h;cases h;exact t3 hl
  ·rw [if_neg hl] at h;cases h
 by_cases h8:kind=49
 ·subst h8
  rw [basicP_49] at h
  obtain ⟨v,hv,h⟩:=Option.bind_eq_some_iff.1 h
  by_cases h0:getM σ.mem q=0
  ·rw [if_pos h0] at h;cases h;exact t4 v hv h0
  ·rw [if_neg h0] at h;cases h
 ·unfold basicP at h
  rw [if_neg h1,if_neg h2,if_neg h3,if_neg h4,if_neg h5,if_neg h6,if_neg h7,if_neg h8] at h
  cases h
end
theorem andThen_mono {a b:Rs} {f g:St→Rs} {s:St} (h:a.andThen f=.ok s) (hab:∀ t,a=.ok t→b=.ok t) (hfg:∀ t,f t=.ok s→g t=.ok s):b.andThen g=.ok s:=by
 obtain ⟨t,h1,h2⟩:=Rs.andThen_eq h
 rw [hab t h1]
 exact hfg t h2
theorem stepS_mono {F:Nat} {σ s:St} {f g:St→Rs} (h:stepS F σ f=.ok s) (hfg:∀ t,f t=.ok s→g t=.ok s):stepS F σ g=.ok s:=by
 obtain ⟨h1,h2⟩:=stepS_eq h
 unfold stepS;rw [if_pos h1];exact hfg _ h2
theorem testT_mono {F:Nat} {env:List Ev} {n:Nd} {σ s:St} {f g:Bool→St→Rs} (h:testT F env n σ f=.ok s) (hfg:∀ b t,f b t=.ok s→g b t=.ok s):testT F env n σ g=.ok s:=by
 obtain ⟨v,h1,h2,h3⟩:=testT_eq h
 rw [testT_ok h1 h2];exact hfg _ _ h3
theorem exB_mono {P:List Pc} {F:Nat} {r r':Tk→Nat→List Ev→Bool→St→Rs} (hr:∀ t dep env back σ s,r t dep env back σ=.ok s→r' t dep env back σ=.ok s) (t:Tk) (dep:Nat) (env:List Ev) (back:Bool) (σ s:St) (h:exB P F r t dep env back σ=.ok s):exB P F r' t dep env back σ=.ok s:=by
 match t with
 | .bl []=>exact h
 | .bl (x::l)=>
   exact andThen_mono (f:=fun σ1=>r (.bl l) dep env back σ1) h (fun t=>hr _ _ _ _ _ t) fun t=>hr _ _ _ _ _ s
 | .hd n=>
   exact andThen_mono (f:=fun σ1=>r (.ck n) dep env back σ1) h (fun t=>hr _ _ _ _ _ t) fun t=>hr _ _ _ _ _ s
 | .ck n=>
   simp only [exB] at h ⊢
   refine testT_mono h fun b t hb=>?_
   cases b with
   | true=>exact hb
   | false=>
     refine andThen_mono hb (fun t=>hr _ _ _ _ _ t) fun t ht=>testT_mono ht fun b2 t2 h2=>?_
     cases b2 with
     | true=>exact h2
     | false=>exact hr _ _ _ _ _ _ h2
 | .st n=>
   simp only [exB] at h ⊢
   by_cases h52:n.kind=52
   ·rw [if_pos h52] at h ⊢
    exact testT_mono h fun b t hb=>andThen_mono hb (fun t=>hr _ _ _ _ _ t) fun t ht=>ht
   rw [if_neg h52] at h ⊢
   by_cases h53:n.kind=53
   ·rw [if_pos h53] at h ⊢
    refine testT_mono h fun b t hb=>?_
    cases b with
    | true=>exact hr _ _ _ _ _ _ hb
    | false=>exact hb
   rw [if_neg h53] at h ⊢
   by_cases h54:n.kind=54
   ·rw [if_pos h54] at h ⊢
    exact stepS_mono h fun t ht=>andThen_mono ht (fun _=>id) fun t ht=>andThen_mono ht (fun t=>hr _ _ _ _ _ t) fun t ht=>ht
   rw [if_neg h54] at h ⊢
   by_cases h55:n.kind=55
   ·rw [if_pos h55] at h ⊢
    exact stepS_mono h fun t ht=>andThen_mono ht (fun _=>id) fun t ht=>andThen_mono ht (fun t=>hr _ _ _ _ _ t) fun t ht=>ht
   rw [if_neg h55] at h ⊢
   by_cases h50:n.kind=50∨n.kind=51
   ·rw [if_pos h50] at h ⊢
    refine stepS_mono h fun t ht=>?_
    cases hp:procT P n.name with
    | none=>rw [hp] at ht;exact ht
    | some p=>
      rw [hp] at ht
      simp only at ht ⊢
      cases he:enterT env p.params n.kids with
      | none=>rw [he] at ht;exact ht
      | some env2=>
        rw [he] at ht
        simp only at ht ⊢
        by_cases hd:100≤dep
        ·rw [if_pos hd] at ht ⊢;exact ht
        ·rw [if_neg hd] at ht ⊢
         exact andThen_mono ht (fun t=>hr _ _ _ _ _ t) fun t ht=>ht
   ·rw [if_neg h50] at h ⊢;exact h
theorem ex_up1 {P:List Pc} {F:Nat}:∀ (d:Nat) (t:Tk) (dep:Nat) (env:List Ev) (back:Bool) (σ s:St),ex P F d t dep env back σ=.ok s→ex P F (d+1) t dep env back σ=.ok s:=by
 intro d
 induction d with
 | zero=>intro t dep env back σ s h;cases h
 | succ d ih=>intro t dep env back σ s h;exact exB_mono ih t dep env back σ s h
theorem ex_mono {P:List Pc} {F d d':Nat} (hd:d≤d') {t:Tk} {dep:Nat} {env:List Ev} {back:Bool} {σ s:St} (h:ex P F d t dep env back σ=.ok s):ex P F d' t dep env back σ=.ok s:=by
 obtain ⟨j,rfl⟩:=Nat.exists_eq_add_of_le hd
 clear hd
 induction j with
 | zero=>exact h
 | succ j ih=>exact ex_up1 _ _ _ _ _ _ _ ih
theorem evTL_get (g:ByteArray→Option (List Int)):∀ (l:List Nd) (i:Nat),(evTL g l)[i]?=(l[i]?).map (evT g)
 | [],i=>by simp [evTL]
 | x::r,0=>by simp [evTL]
 | x::r,i+1=>by rw [evTL,List.getElem?_cons_succ,List.getElem?_cons_succ];exact evTL_get g r i
theorem numB_inR (b:Bool):InR (numB b):=by unfold numB InR;split<;>omega
theorem tmod_inR {x:Int} (h:InR x) (y:Int):InR (x.tmod y):=by
 unfold InR at *
 have h1:(x.tmod y).natAbs≤x.natAbs:=by rw [Int.natAbs_tmod];exact Nat.mod_le _ _
 by_cases h0:0≤x
 ·have:=Int.tmod_nonneg y h0
  omega
 ·have h2:=Int.tmod_nonneg y (show 0≤-x by omega)
  rw [Int.neg_tmod] at h2
  omega
theorem apR_inR (k:Nat) {x:Int} (hx:InR x) (y:Int):InR (apR k x y).1:=by
 have h0:InR 0:=by unfold InR;omega
 have hd:∀ op:Int,InR (divR op x y).1:=fun op=>by
  unfold divR
  split
  ·exact h0
  ·split
   ·exact wrap64_inR _
   ·exact tmod_inR hx y
 have hw:∀ n:Int,InR (IntKind.i64.wrap n):=fun n=>by rw [IntKind.wrap_i64];unfold InR;omega
 unfold apR
 by_cases h8:(k:Int)=8;·rw [if_pos h8];exact wrap64_inR _
 rw [if_neg h8]
 by_cases h9:(k:Int)=9;·rw [if_pos h9];exact wrap64_inR _
 rw [if_neg h9]
 by_cases h10:(k:Int)=10;·rw [if_pos h10];exact wrap64_inR _
 rw [if_neg h10]
 by_cases h11:(k:Int)=11;·rw [if_pos h11];exact hd _
 rw [if_neg h11]
 by_cases h12:(k:Int)=12;·rw [if_pos h12];exact hd _
 rw [if_neg h12]
 by_cases h13:(k:Int)=13;·rw [if_pos h13];exact hw _
 rw [if_neg h13]
 by_cases h14:(k:Int)=14;·rw [if_pos h14];exact hw _
 rw [if_neg h14]
 by_cases h15:(k:Int)=15;·rw [if_pos h15];exact hw _
 rw [if_neg h15]
 by_cases h16:(k:Int)=16;·rw [if_pos h16];exact numB_inR _
 rw [if_neg h16]
 by_cases h17:(k:Int)=17;·rw [if_pos h17];exact numB_inR _
 rw [if_neg h17]
 by_cases h18:(k:Int)=18;·rw [if_pos h18];exact numB_inR _
 rw [if_neg h18]
 by_cases h19:(k:Int)=19;·rw [if_pos h19];exact numB_inR _
 rw [if_neg h19]
 by_cases h20:(k:Int)=20;·rw [if_pos h20];exact numB_inR _
 rw [if_neg h20]
 by_cases h21:(k:Int)=21;·rw [if_pos h21];exact numB_inR _
 rw [if_neg h21]
 by_cases h22:(k:Int)=22;·rw [if_pos h22];exact numB_inR _
 rw [if_neg h22]
 by_cases h23:(k:Int)=23;·rw [if_pos h23];exact numB_inR _
 rw [if_neg h23]
 exact h0
theorem evT_inR {g:ByteArray→Option (List Int)} (hg:∀ s c,g s=some c→(∀ x∈c,InR x)∧c.length≤1000):∀ (N:Nat) (x:Nd),SizeOf.sizeOf x≤N→NdFit x→∀ v,evT g x=some v→InR v:=by
 intro N
 induction N with
 | zero=>intro x hx;exfalso;cases x;simp at hx
 | succ N ih=>
   intro x hx hf v hv
   rw [evT_eq] at hv
   have hk:∀ i u,((evTL g x.kids)[i]?).join=some u→InR u:=fun i u hu=>by
    rw [evTL_get] at hu
    cases hy:x.kids[i]? with
    | none=>rw [hy] at hu;cases hu
    | some y=>
      rw [hy] at hu
      exact ih y (by have:=Nd.kid_lt hy;omega) (hf.kid hy) u hu
   unfold valT at hv
   split at hv
   ·cases hv;exact hf.facts.2.1
   split at hv
   ·obtain ⟨c,h1,h2⟩:=Option.bind_eq_some_iff.1 hv
    split at h2
    ·exact (hg _ c h1).1 v (List.mem_of_getElem? h2)
    ·cases h2
   split at hv
   ·obtain ⟨c,h1,h2⟩:=Option.bind_eq_some_iff.1 hv
    obtain ⟨i,h3,h4⟩:=Option.bind_eq_some_iff.1 h2
    unfold elem at h4
    split at h4
    ·exact (hg _ c h1).1 v (List.mem_of_getElem? h4)
    ·cases h4
   split at hv
   ·obtain ⟨c,h1,h2⟩:=Option.bind_eq_some_iff.1 hv
    exact (hg _ c h1).1 v (List.mem_of_getLast? h2)
   split at hv
   ·obtain ⟨c,h1,h2⟩:=Option.map_eq_some_iff.1 hv
    have:=(hg _ c h1).2
    subst h2
    unfold InR;omega
   ·obtain ⟨y,h1,h2⟩:=Option.bind_eq_some_iff.1 hv
    split at h2
    ·unfold unR at h2
     split at h2
     ·cases h2;exact wrap64_inR _
     ·split at h2
      ·cases h2;exact numB_inR _
      ·cases h2
    ·obtain ⟨z,h3,h4⟩:=Option.bind_eq_some_iff.1 h2
     unfold binR at h4
     split at h4
     ·cases h4;exact apR_inR _ (hk 0 y h1) z
     ·cases h4
theorem MOk.look {T:List (Nat × Int)} {σ:Mt} (h:MOk T σ) (env:List Ev):∀ s c,look env σ.mem s=some c→(∀ x∈c,InR x)∧c.length≤1000:=fun s c hc=>by
 unfold Go.Proofs.YtgbomnibedefoaaGreatDoor.look at hc
 obtain ⟨e,_,h2⟩:=Option.bind_eq_some_iff.1 hc
 exact ⟨h.rg c (List.mem_of_getElem? h2),h.ln c (List.mem_of_getElem? h2)⟩
inductive SOk (P:List Pc):List Vd→Nd→Prop
 | bas {vis:List Vd} {n:Nd} (hk:n.kind≠50∧n.kind≠51∧n.kind≠52∧n.kind≠53∧n.kind≠54∧n.kind≠55) (h:BOk vis n):SOk P vis n
 | cal {vis:List Vd} {n:Nd} (hk:n.kind=50∨n.kind=51) (h:(n.kids.map Nd.name).Nodup):SOk P vis n
 | two {vis:List Vd} {n:Nd} (hk:n.kind=52∨n.kind=53) (h1:∀ y∈(kid n 1).kids,SOk P vis y) (h2:∀ y∈(kid n 2).kids,SOk P vis y):SOk P vis n
 | loc {vis:List Vd} {n:Nd} (hk:n.kind=54) (m0:mentT n.name (kid n 0)=false) (m2:mentT n.name (kid n (n.kids.length - 1))=false) (f0:NdFit (kid n 0)) (f2:NdFit (kid n (n.kids.length - 1))) (h:∀ y∈(kid n 1).kids,SOk P (vis++[intV n]) y):SOk P vis n
 | lst {vis:List Vd} {n:Nd} (hk:n.kind=55) (h:∀ y∈(kid n 0).kids,SOk P (vis++[stkV n]) y):SOk P vis n
def POk (P:List Pc):Prop:=∀ p∈P,(p.params.map Vd.name).Nodup∧∀ y∈p.body.kids,SOk P p.params y
def TOk (P:List Pc) (vis:List Vd):Tk→Prop
 | .st n=>SOk P vis n
 | .bl l=>∀ y∈l,SOk P vis y
 | .hd n=>(∀ y∈(kid n 1).kids,SOk P vis y)∧∀ y∈(kid n 2).kids,SOk P vis y
 | .ck n=>(∀ y∈(kid n 1).kids,SOk P vis y)∧∀ y∈(kid n 2).kids,SOk P vis y
def Bk (P:List Pc) (dep:Nat) (env:List Ev) (back:Bool) (t:Tk) (σ τ:Mt) (r:Nat):Prop:=∀ F k,k+r≤F→∃ d,ex P F d t dep env back ⟨k,σ⟩=.ok ⟨k+r,τ⟩
section
variable {P:List Pc} {dep:Nat} {env:List Ev} {back:Bool} {σ τ ρ:Mt} {r r1 r2:Nat}
theorem Bk.nil:Bk P dep env back (.bl []) σ σ 0:=fun _ _ _=>⟨1,rfl⟩
theorem Bk.cons {x:Nd} {l:List Nd} (h1:Bk P dep env back (.st x) σ τ r1) (h2:Bk P dep env back (.bl l) τ ρ r2):Bk P dep env back (.bl (x::l)) σ ρ (r1+r2):=fun F k hk=>by
 obtain ⟨d1,e1⟩:=h1 F k (by omega)
 obtain ⟨d2,e2⟩:=h2 F (k+r1) (by omega)
 refine ⟨max d1 d2+1,?_⟩
 rw [ex_succ]
 show (ex P F (max d1 d2) (.st x) dep env back ⟨k,σ⟩).andThen _=_
 rw [ex_mono (Nat.le_max_left d1 d2) e1,Rs.andThen_ok,ex_mono (Nat.le_max_right d1 d2) e2,Nat.add_assoc]
theorem Bk.uncons {x:Nd} {l:List Nd} {F d:Nat} {s s':St} (h:ex P F d (.bl (x::l)) dep env back s=.ok s'):∃ s1,ex P F (d - 1) (.st x) dep env back s=.ok s1∧ex P F (d - 1) (.bl l) dep env back s1=.ok s':=by
 cases d with
 | zero=>cases h
 | succ d=>exact Rs.andThen_eq h
theorem ex_app {F:Nat}:∀ (l1:List Nd) {l2:List Nd} {d1 d2:Nat} {s t u:St},ex P F d1 (.bl l1) dep env back s=.ok t→ex P F d2 (.bl l2) dep env back t=.ok u→∃ d,ex P F d (.bl (l1++l2)) dep env back s=.ok u
 | [],l2,d1,d2,s,t,u,h1,h2=>by
   cases d1 with
   | zero=>cases h1
   | succ d1=>cases h1;exact ⟨d2,h2⟩
 | x::l1,l2,d1,d2,s,t,u,h1,h2=>by
   obtain ⟨s1,e1,e2⟩:=Bk.uncons h1
   obtain ⟨d,e3⟩:=ex_app l1 e2 h2
   refine ⟨max (d1 - 1) d+1,?_⟩
   rw [List.cons_append,ex_succ]
   show (ex P F (max (d1 - 1) d) (.st x) dep env back s).andThen _=_
   rw [ex_mono (Nat.le_max_left _ _) e1,Rs.andThen_ok,ex_mono (Nat.le_max_right _ _) e3]
theorem Bk.app {l1 l2:List Nd} (h1:Bk P dep env back (.bl l1) σ τ r1) (h2:Bk P dep env back (.bl l2) τ ρ r2):Bk P dep env back (.bl (l1++l2)) σ ρ (r1+r2):=fun F k hk=>by
 obtain ⟨d1,e1⟩:=h1 F k (by omega)
 obtain ⟨d2,e2⟩:=h2 F (k+r1) (by omega)
 rw [Nat.add_assoc] at e2
 exact ex_app l1 e1 e2
theorem Bk.one {x:Nd} (h:Bk P dep env back (.st x) σ τ r):Bk P dep env back (.bl [x]) σ τ r:=h.cons .nil
theorem Bk.hd {n:Nd} (h1:Bk P dep env back (.bl (ordK back (kid n 1).kids)) σ τ r1) (h2:Bk P dep env back (.ck n) τ ρ r2):Bk P dep env back (.hd n) σ ρ (r1+r2):=fun F k hk=>by
 obtain ⟨d1,e1⟩:=h1 F k (by omega)
 obtain ⟨d2,e2⟩:=h2 F (k+r1) (by omega)
 refine ⟨max d1 d2+1,?_⟩
 rw [ex_succ]
 show (ex P F (max d1 d2) (.bl (ordK back (kid n 1).kids)) dep env back ⟨k,σ⟩).andThen _=_
 rw [ex_mono (Nat.le_max_left d1 d2) e1,Rs.andThen_ok,ex_mono (Nat.le_max_right d1 d2) e2,Nat.add_assoc]
theorem Bk.ckT {n:Nd} {v:Int} (hv:evT (Go.Proofs.YtgbomnibedefoaaGreatDoor.look env σ.mem) (lstK n back)=some v) (h0:v≠0):Bk P dep env back (.ck n) σ σ 1:=fun F k hk=>by
 refine ⟨1,?_⟩
 rw [ex_succ]
 simp only [exB]
 rw [testT_ok (v:=v) (show k<F by omega) hv,decide_eq_true h0]
 rfl
theorem Bk.ckF {n:Nd} {v u:Int} (hv:evT (Go.Proofs.YtgbomnibedefoaaGreatDoor.look env σ.mem) (lstK n back)=some v) (h0:v=0) (h1:Bk P dep env back (.bl (ordK back (kid n 2).kids)) σ τ r1) (hu:evT (Go.Proofs.YtgbomnibedefoaaGreatDoor.look env τ.mem) (fstK n back)=some u) (hu0:u=0) (h2:Bk P dep env back (.hd n) τ ρ r2):Bk P dep env back (.ck n) σ ρ (1+r1+1+r2):=fun F k hk=>by
 obtain ⟨d1,e1⟩:=h1 F (k+1) (by omega)
 obtain ⟨d2,e2⟩:=h2 F (k+1+r1+1) (by omega)
 refine ⟨max d1 d2+1,?_⟩
 rw [ex_succ]
 simp only [exB]
 rw [testT_ok (v:=v) (show k<F by omega) hv,decide_eq_false (fun h=>h h0)]
 show (ex P F (max d1 d2) (.bl (ordK back (kid n 2).kids)) dep env back ⟨k+1,σ⟩).andThen _=_
 rw [ex_mono (Nat.le_max_left d1 d2) e1,Rs.andThen_ok,testT_ok (v:=u) (show k+1+r1<F by omega) hu,decide_eq_false (fun h=>h hu0)]
 show ex P F (max d1 d2) (.hd n) dep env back ⟨k+1+r1+1,τ⟩=_
 rw [ex_mono (Nat.le_max_right d1 d2) e2]
 congr 2
 omega
end
end Go.Proofs.YtgbomnibedefoaaGreatDoor
