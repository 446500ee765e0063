import Derived.StillTailTactics
import Derived.Test.YtgbomnibedefoaaGreatDoorQa28
set_option maxRecDepth 100000
set_option maxHeartbeats 8000000
namespace Go.Proofs.YtgbomnibedefoaaGreatDoor
open Go.ChangeShapes Go.WideShapes Go.ChangeAt Go.RowKit Go.Sort
theorem tpS_any {r:Ro} (h:tpS r):anyS r:=by rcases h with h | h | h<;>(rw [h];exact ⟨by simp,by simp⟩)
theorem nine_any {c:Nat} {r:Ro} (h:r=(9,c)):anyS r:=by rw [h];exact ⟨by simp,by simp⟩
theorem tpS_nine {c:Nat}:¬ tpS (9,c):=by rintro (e | e | e)<;>simp at e
theorem StO.tbv {B:Nat} {w:World} {G:Gs} {σ:Mt} (h:StO B w G σ):w.cell? ⟨G.SB,4,none⟩=some (.pointer (some ⟨G.TB,0,none⟩)):=by
 obtain ⟨f0,_,h1,_⟩:=h.sto
 exact h1.cell rfl
theorem StO.slt {B:Nat} {w:World} {G:Gs} {σ:Mt} (h:StO B w G σ):G.SB<w.heap.size:=block_lt_of_cell h.tbv
section
variable {B:Nat} {w:World} {G:Gs} {σ:Mt} {c i g:Nat} {x:Int}
theorem trf_46 (h:StO B w G σ) (hB:B≤w.heap.size) (hp:Plc w G σ c i g x) (hi:σ.inp.length≤4096) :
  Calls Tryz.prog 159 #[.pointer (some ⟨G.SB,0,none⟩),.int .u8 46,.pointer (some ⟨g,i,none⟩)] w (DoP B w G ((σ.inp.head?).bind fun v=>if getM σ.mem (c,i)=0 then some ⟨setM σ.mem (c,i) v,σ.inp.tail,σ.out⟩ else none)):=by
 have y0:=h.tbv
 have hlS:=h.slt
 have HRD:=kp (read_any h (by omega))
 have HH:=kp (And.intro h hp)
 rw [hp.get]
 generalize ho:(σ.inp.head?).bind _=o
 have HO:=kp ho
 clear h hp ho
 go_enter Tryz.func159,Tryz.ntmps159
 go_wp2_with fail
 refine HRD.out.mono ?_
 intro e w1 h1
 rcases h1 with ⟨q1,rfl,hw⟩ | ⟨v,q1,rfl,G1,hs⟩
 ·have HF:=kp (show Fr w w1 (fun k=>anyS (G.R k)) from hw▸Fr.refl _ _)
  have HN:=kp (show o=none from by rw [← HO.out,q1];rfl)
  clear q1 hw
  go_wp2_with fail
  go_ret
  rw [HN.out]
  exact ⟨17,by omega,rfl,HF.out⟩
 ·have hp2:=HH.out.2.step hs tpS_nine rfl
  have y1:=hp2.cell
  have f1:=hp2.free
  have hl1:=hp2.block
  have y0':w1.cell? ⟨G.SB,4,none⟩=some (.pointer (some ⟨G.TB,0,none⟩)):=by rw [← hs.sb,← hs.tb];exact hs.o.tbv
  have hlS1:G.SB<w1.heap.size:=by rw [← hs.sb];exact hs.o.slt
  by_cases hx:x=0
  ·subst hx
   have hHM:=kp (show DoP B w G o (.returned (.int .i64 0)) (w1.setCell ⟨g,i,none⟩ (.int .i64 v)) from by
    rw [← HO.out,q1,Option.bind_some,if_pos rfl]
    exact ⟨rfl,G1,hs.trans (hp2.set hs.o v) (fun _=>tpS_any) (fun _=>nine_any)⟩)
   clear q1 hs hp2
   go_wp2_with fail
   go_ret
   exact hHM.out
  ·have HN:=kp (show o=none from by rw [← HO.out,q1,Option.bind_some,if_neg hx])
   have hx2:(x != 0)=true:=by simpa using hx
   have HUN:=kp (unread_any hs.o (Nat.le_trans hB hs.fr.size) (show σ.inp.tail.length≤5000 by simp;omega) v)
   rw [hs.tb] at HUN
   have HFR:=kp (fun (e:Ending) (w2:World) (hh:UnreadP B w1 G1 { σ with inp:=σ.inp.tail } v e w2)=>show Fr w w2 (fun k=>anyS (G.R k)) from by
    rcases hh with ⟨_,_,rfl⟩ | ⟨_,_,G2,hs2⟩
    ·exact hs.fr.mono fun _ _=>tpS_any
    ·exact (hs.trans hs2 (fun _=>tpS_any) (fun _=>tpS_any)).fr)
   clear q1 hs hp2
   go_wp2_with fail
   refine HUN.out.mono ?_
   intro e w2 h2
   have HZ:=kp (HFR.out e w2 h2)
   obtain ⟨er,rfl⟩:∃ er,e=.returned (.int .i64 er):=by
    rcases h2 with ⟨_,q,_⟩ | ⟨_,q,_⟩
    ·exact ⟨_,q⟩
    ·exact ⟨_,q⟩
   clear h2
   go_wp2_with fail
   go_ret
   rw [HN.out]
   exact ⟨14,by omega,rfl,HZ.out⟩
theorem trf_49 (h:StO B w G σ) (hB:B≤w.heap.size) (hp:Plc w G σ c i g x) (hi:σ.out.length≤4096) :
  Calls Tryz.prog 159 #[.pointer (some ⟨G.SB,0,none⟩),.int .u8 49,.pointer (some ⟨g,i,none⟩)] w (DoP B w G ((σ.out.getLast?).bind fun v=>if getM σ.mem (c,i)=0 then some ⟨setM σ.mem (c,i) v,σ.inp,σ.out.dropLast⟩ else none)):=by
 have y0:=h.tbv
 have hlS:=h.slt
 have HRD:=kp (unwrite_any h (by omega))
 have HH:=kp (And.intro h hp)
 rw [hp.get]
 generalize ho:(σ.out.getLast?).bind _=o
 have HO:=kp ho
 clear h hp ho
 go_enter Tryz.func159,Tryz.ntmps159
 go_wp2_with fail
 refine HRD.out.mono ?_
 intro e w1 h1
 rcases h1 with ⟨q1,rfl,hw⟩ | ⟨v,q1,rfl,G1,hs⟩
 ·have HF:=kp (show Fr w w1 (fun k=>anyS (G.R k)) from hw▸drew_fr w _)
  have HN:=kp (show o=none from by rw [← HO.out,q1];rfl)
  clear q1 hw
  go_wp2_with fail
  go_ret
  rw [HN.out]
  exact ⟨17,by omega,rfl,HF.out⟩
 ·have hp2:=HH.out.2.step hs tpS_nine rfl
  have y1:=hp2.cell
  have f1:=hp2.free
  have hl1:=hp2.block
  have y0':w1.cell? ⟨G.SB,4,none⟩=some (.pointer (some ⟨G.TB,0,none⟩)):=by rw [← hs.sb,← hs.tb];exact hs.o.tbv
  have hlS1:G.SB<w1.heap.size:=by rw [← hs.sb];exact hs.o.slt
  by_cases hx:x=0
  ·subst hx
   have hHM:=kp (show DoP B w G o (.returned (.int .i64 0)) (w1.setCell ⟨g,i,none⟩ (.int .i64 v)) from by
    rw [← HO.out,q1,Option.bind_some,if_pos rfl]
    exact ⟨rfl,G1,hs.trans (hp2.set hs.o v) (fun _=>tpS_any) (fun _=>nine_any)⟩)
   clear q1 hs hp2
   go_wp2_with fail
   go_ret
   exact hHM.out
  ·have HN:=kp (show o=none from by rw [← HO.out,q1,Option.bind_some,if_neg hx])
   have hx2:(x != 0)=true:=by simpa using hx
   have HUN:=kp (write_any hs.o (Nat.le_trans hB hs.fr.size) (show σ.out.dropLast.length≤5000 by simp;omega) v)
   rw [hs.tb] at HUN
   have HFR:=kp (fun (e:Ending) (w2:World) (hh:WriteP B w1 G1 { σ with out:=σ.out.dropLast } v e w2)=>show Fr w w2 (fun k=>anyS (G.R k)) from by
    rcases hh with ⟨_,_,rfl⟩ | ⟨_,_,G2,hs2⟩
    ·exact (hs.fr.mono fun _ _=>tpS_any).trans (drew_fr w1 _) fun _ _ e=>e
    ·exact (hs.trans hs2 (fun _=>tpS_any) (fun _=>tpS_any)).fr)
   clear q1 hs hp2
   go_wp2_with fail
   refine HUN.out.mono ?_
   intro e w2 h2
   have HZ:=kp (HFR.out e w2 h2)
   obtain ⟨er,rfl⟩:∃ er,e=.returned (.int .i64 er):=by
    rcases h2 with ⟨_,q,_⟩ | ⟨_,q,_⟩
    ·exact ⟨_,q⟩
    ·exact ⟨_,q⟩
   clear h2
   go_wp2_with fail
   go_ret
   rw [HN.out]
   exact ⟨14,by omega,rfl,HZ.out⟩
theorem trf_47 (h:StO B w G σ) (hB:B≤w.heap.size) (hp:Plc w G σ c i g x) (hi:σ.inp.length≤4096) :
  Calls Tryz.prog 159 #[.pointer (some ⟨G.SB,0,none⟩),.int .u8 47,.pointer (some ⟨g,i,none⟩)] w (DoP B w G (if σ.inp.length<4096 then some ⟨setM σ.mem (c,i) 0,getM σ.mem (c,i)::σ.inp,σ.out⟩ else none)):=by
 have y0:=h.tbv
 have hlS:=h.slt
 have y1:=hp.cell
 have f1:=hp.free
 have hl1:=hp.block
 have hD:=h.same (bld (Below.refl w.heap.size w)) anyS
 have HRD:=kp (unread_any hD.o (by simpa using hB) (by omega) x)
 have HH:=kp (And.intro hD (hp.step (h.same (bld (Below.refl w.heap.size w)) (fun _=>False)) id rfl))
 rw [hp.get]
 generalize ho:(if σ.inp.length<4096 then _ else none)=o
 have HO:=kp ho
 clear h hp ho hD
 go_enter Tryz.func159,Tryz.ntmps159
 go_upto_region 17 with fail
 go_still_tail 7,(by kernel_rfl)
 change wpList _ _ _ _ _ w.drew
 generalize hd:w.drew=wd at *
 go_wp2_with fail
 refine HRD.out.mono ?_
 intro e w1 h1
 rcases h1 with ⟨q1,rfl,hw⟩ | ⟨q1,rfl,G1,hs⟩
 ·have HF:=kp (show Fr w w1 (fun k=>anyS (G.R k)) from HH.out.1.fr.trans (hw▸Fr.refl _ _) fun _ _ e=>e)
  have HN:=kp (show o=none from by rw [← HO.out,if_neg (by omega)])
  clear q1 hw
  go_wp2_with fail
  go_ret
  rw [HN.out]
  exact ⟨5,by omega,rfl,HF.out⟩
 ·have hp2:=HH.out.2.step hs tpS_nine rfl
  have y1:=hp2.cell
  have f1:=hp2.free
  have hl1:=hp2.block
  have hHM:=kp (show DoP B w G o (.returned (.int .i64 0)) (w1.setCell ⟨g,i,none⟩ (.int .i64 0)) from by
   rw [← HO.out,if_pos q1]
   exact ⟨rfl,G1,HH.out.1.trans (hs.trans (hp2.set hs.o 0) (fun _=>tpS_any) (fun _=>nine_any)) (fun _ e=>e) (fun _ e=>e)⟩)
  clear q1 hs hp2
  go_wp2_with fail
  go_ret
  exact hHM.out
theorem trf_48 (h:StO B w G σ) (hB:B≤w.heap.size) (hp:Plc w G σ c i g x) (hi:σ.out.length≤4096) :
  Calls Tryz.prog 159 #[.pointer (some ⟨G.SB,0,none⟩),.int .u8 48,.pointer (some ⟨g,i,none⟩)] w (DoP B w G (if σ.out.length<4096 then some ⟨setM σ.mem (c,i) 0,σ.inp,σ.out++[getM σ.mem (c,i)]⟩ else none)):=by
 have y0:=h.tbv
 have hlS:=h.slt
 have y1:=hp.cell
 have f1:=hp.free
 have hl1:=hp.block
 have hD:=h.same (bld (Below.refl w.heap.size w)) anyS
 have HRD:=kp (write_any hD.o (by simpa using hB) (by omega) x)
 have HH:=kp (And.intro hD (hp.step (h.same (bld (Below.refl w.heap.size w)) (fun _=>False)) id rfl))
 rw [hp.get]
 generalize ho:(if σ.out.length<4096 then _ else none)=o
 have HO:=kp ho
 clear h hp ho hD
 go_enter Tryz.func159,Tryz.ntmps159
 go_upto_region 19 with fail
 go_still_tail 7,(by kernel_rfl)
 change wpList _ _ _ _ _ w.drew
 generalize hd:w.drew=wd at *
 go_wp2_with fail
 refine HRD.out.mono ?_
 intro e w1 h1
 rcases h1 with ⟨q1,rfl,hw⟩ | ⟨q1,rfl,G1,hs⟩
 ·have HF:=kp (show Fr w w1 (fun k=>anyS (G.R k)) from HH.out.1.fr.trans (hw▸drew_fr wd _) fun _ _ e=>e)
  have HN:=kp (show o=none from by rw [← HO.out,if_neg (by omega)])
  clear q1 hw
  go_wp2_with fail
  go_ret
  rw [HN.out]
  exact ⟨5,by omega,rfl,HF.out⟩
 ·have hp2:=HH.out.2.step hs tpS_nine rfl
  have y1:=hp2.cell
  have f1:=hp2.free
  have hl1:=hp2.block
  have hHM:=kp (show DoP B w G o (.returned (.int .i64 0)) (w1.setCell ⟨g,i,none⟩ (.int .i64 0)) from by
   rw [← HO.out,if_pos q1]
   exact ⟨rfl,G1,HH.out.1.trans (hs.trans (hp2.set hs.o 0) (fun _=>tpS_any) (fun _=>nine_any)) (fun _ e=>e) (fun _ e=>e)⟩)
  clear q1 hs hp2
  go_wp2_with fail
  go_ret
  exact hHM.out
end
theorem findVE (env:List Ev) (s:ByteArray):findV (env.map (·.v)) s=(findE env s).map (·.v):=by
 unfold findV findE
 rw [← List.map_reverse,List.find?_map]
 rfl
structure XpH (B:Nat) (w:World) (G:Gs) (σ:Mt) (f:Fm) (T:List (Nat × Int)) (x:Nd):Prop where
 o:StO B w G σ
 last:G.fs[G.fs.length - 1]?=some f
 ty:EOk T f.env
 mem:MOk T σ
 hB:B≤w.heap.size
 cl:clnT (f.env.map (·.v)) x=true
 st:isStT x=true
 fit:NdFit x
section
variable {B:Nat} {w:World} {G:Gs} {σ:Mt} {f:Fm} {T:List (Nat × Int)} {x:Nd}
theorem XpH.len (h:XpH B w G σ f T x):∀ c∈σ.mem,c.length≤100000:=fun c hc=>by have:=h.mem.ln c hc;omega
theorem XpH.need (h:XpH B w G σ f T x) {y:Nd} (hc:clnT (f.env.map (·.v)) y=true) (hk:needK y.kind≠0):∃ e l b,findE f.env y.name=some e∧σ.mem[e.c]?=some l∧G.cb[e.c]?=some b∧T[e.c]?=some (needK y.kind,e.v.len)∧l.length≤1000:=by
 rw [clnT_eq,Bool.and_eq_true,Bool.or_eq_true,decide_eq_true_eq,findVE] at hc
 rcases hc.1 with h0 | h0
 ·exact absurd h0 hk
 ·cases hE:findE f.env y.name with
  | none=>rw [hE] at h0;cases h0
  | some e=>
    rw [hE] at h0
    have hkk:e.v.kind=needK y.kind:=by simpa using h0
    have hm:=findE_mem2 hE
    have hlt:=h.o.env _ _ e h.last hm
    have hl:=List.getElem?_eq_getElem hlt
    obtain ⟨b,v,hb,_⟩:=h.o.slot hl
    exact ⟨e,_,b,rfl,hl,hb,by rw [h.ty.ty e hm,hkk],h.mem.ln _ (List.mem_of_getElem? hl)⟩
theorem XpH.kidc (h:XpH B w G σ f T x) {i:Nat} {p:Nd} (hp:x.kids[i]?=some p):clnT (f.env.map (·.v)) p=true:=by
 have h1:=h.cl
 rw [clnT_eq,Bool.and_eq_true] at h1
 exact clnTL_mem h1.2 p (List.mem_of_getElem? hp)
theorem XpH.plc (h:XpH B w G σ f T x) {i:Nat} {p:Nd} (hp:x.kids[i]?=some p) (hP:plcB p=true):∃ e l b t,findE f.env p.name=some e∧σ.mem[e.c]?=some l∧G.cb[e.c]?=some b∧T[e.c]?=some (t,e.v.len)∧t≠3∧l.length≤1000:=by
 unfold plcB at hP
 simp only [Bool.and_eq_true,Bool.or_eq_true,decide_eq_true_eq] at hP
 have hk:needK p.kind≠0∧needK p.kind≠3:=by rcases hP.1 with e | e<;>rw [e]<;>exact ⟨by decide,by decide⟩
 obtain ⟨e,l,b,h1,h2,h3,h4,h5⟩:=h.need (h.kidc hp) hk.1
 exact ⟨e,l,b,_,h1,h2,h3,h4,hk.2,h5⟩
theorem placeT_at {env:List Ev} {mem:List (List Int)} {p:Nd} {e:Ev} {l:List Int} (hE:findE env p.name=some e) (hl:mem[e.c]?=some l):placeT env mem p=(indexT (look env mem) p).bind fun i=>if 0≤i∧i<l.length then some (e.c,i.toNat) else none:=by
 unfold placeT
 cases indexT (look env mem) p with
 | none=>rfl
 | some i=>rw [Option.bind_some,Option.bind_some,hE,Option.bind_some,hl,Option.bind_some]
theorem basic_kids {x:Nd} (h:isStT x=true) (hk:40≤x.kind∧x.kind≤49):∃ p,x.kids[0]?=some p∧plcB p=true∧(x.kind=40∨x.kind=41∨x.kind=42→∃ y,x.kids[1]?=some y∧isExT y=true)∧(x.kind=43→∃ y,x.kids[1]?=some y∧plcB y=true):=by
 rw [isStT_eq] at h
 unfold isStK at h
 have two:∀ {a b:Bool},(decide (x.kids.length=2)&&[a,b].all id)=true→(∃ p q,x.kids=[p,q])∧a=true∧b=true:=fun {a b} hh=>by
  simp only [Bool.and_eq_true,decide_eq_true_eq,List.all_cons,List.all_nil,id,and_true] at hh
  exact ⟨ltwo hh.1,hh.2.1,hh.2.2⟩
 have one:∀ {a:Bool},(decide (x.kids.length=1)&&[a].all id)=true→(∃ p,x.kids=[p])∧a=true:=fun {a} hh=>by
  simp only [Bool.and_eq_true,decide_eq_true_eq,List.all_cons,List.all_nil,id,and_true] at hh
  exact ⟨lone hh.1,hh.2⟩
 have g0:∀ {p:Nd},x.kids[0]?=some p→kid x 0=p:=fun e=>kid_eq e
 have g1:∀ {p:Nd},x.kids[1]?=some p→kid x 1=p:=fun e=>kid_eq e
 by_cases h1:x.kind=40∨x.kind=41∨x.kind=42∨x.kind=56
 ·rw [if_pos h1,Bool.and_eq_true] at h
  obtain ⟨⟨p,q,e⟩,ha,hb⟩:=two h.2
  have e0:x.kids[0]?=some p:=by rw [e];rfl
  have e1:x.kids[1]?=some q:=by rw [e];rfl
  rw [g0 e0] at ha
  rw [g1 e1] at hb
  exact ⟨p,e0,ha,fun _=>⟨q,e1,hb⟩,fun h=>by omega⟩
 rw [if_neg h1] at h
 by_cases h2:x.kind=43
 ·rw [if_pos h2,Bool.and_eq_true] at h
  obtain ⟨⟨p,q,e⟩,ha,hb⟩:=two h.2
  have e0:x.kids[0]?=some p:=by rw [e];rfl
  have e1:x.kids[1]?=some q:=by rw [e];rfl
  rw [g0 e0] at ha
  rw [g1 e1] at hb
  exact ⟨p,e0,ha,fun h=>by omega,fun _=>⟨q,e1,hb⟩⟩
 rw [if_neg h2] at h
 by_cases h3:x.kind=44∨x.kind=45
 ·rw [if_pos h3,Bool.and_eq_true] at h
  obtain ⟨⟨p,e⟩,ha⟩:=one h.2
  have e0:x.kids[0]?=some p:=by rw [e];rfl
  rw [g0 e0] at ha
  exact ⟨p,e0,ha,fun h=>by omega,fun h=>by omega⟩
 rw [if_neg h3,if_pos (by omega),Bool.and_eq_true] at h
 obtain ⟨⟨p,e⟩,ha⟩:=one h.2
 have e0:x.kids[0]?=some p:=by rw [e];rfl
 rw [g0 e0] at ha
 exact ⟨p,e0,ha,fun h=>by omega,fun h=>by omega⟩
end
section
variable {B:Nat} {w:World} {G:Gs} {σ:Mt} {f:Fm} {T:List (Nat × Int)} {x:Nd}
theorem up_bind {env:List Ev} {x p y:Nd} {σ:Mt} {e:Ev} {l:List Int} (hk:x.kind=40∨x.kind=41∨x.kind=42) (hp:x.kids[0]?=some p) (hy:x.kids[1]?=some y) (hE:findE env p.name=some e) (hl:σ.mem[e.c]?=some l) :
  basicT env x.kind x σ=(indexT (look env σ.mem) p).bind fun i=>(evT (look env σ.mem) y).bind fun r=>if 0≤i∧i<l.length then some ⟨setM σ.mem (e.c,i.toNat) (updR x.kind (getM σ.mem (e.c,i.toNat)) r),σ.inp,σ.out⟩ else none:=by
 unfold basicT
 rw [kid_eq hp,placeT_at hE hl]
 cases indexT (look env σ.mem) p with
 | none=>rfl
 | some i=>
   rw [Option.bind_some,Option.bind_some]
   by_cases hi:0≤i∧i<l.length
   ·rw [if_pos hi,Option.bind_some,basicP_up _ _ _ _ hk,kid_eq hy]
    cases evT (look env σ.mem) y with
    | none=>rfl
    | some r=>rw [Option.bind_some,if_pos hi];rfl
   ·rw [if_neg hi,Option.bind_none]
    cases evT (look env σ.mem) y with
    | none=>rfl
    | some r=>rw [Option.bind_some,if_neg hi]
theorem dop_none {B:Nat} {w w1 w2:World} {G:Gs} {er:Int} (h:Below w.heap.size w w1) (h2:Below w1.heap.size w1 w2) (he:er≠0):DoP B w G none (.returned (.int .i64 er)) w2:=⟨er,he,rfl,Fr.of_below (bl2 h h2) _⟩
theorem StO.boxv {B:Nat} {w:World} {G:Gs} {σ:Mt} (h:StO B w G σ) {c b:Nat} {l:List Int} (hl:σ.mem[c]?=some l) (hb:G.cb[c]?=some b):∃ A cap,w.cell? ⟨b,0,none⟩=some (.slice A l.length cap):=by
 obtain ⟨b',v,hb',hv,hbx,hrw⟩:=h.slot hl
 obtain rfl:b'=b:=Option.some.inj (hb'.symm.trans hb)
 obtain ⟨A,cap,e,_⟩:=ofb hrw.1
 exact ⟨A,cap,by rw [← e];exact hbx.1.cell rfl⟩
theorem exu_fin {B:Nat} {w W w3:World} {G:Gs} {σ:Mt} {c n g q:Nat} {u:Int} (hb:Below w.heap.size w W) (hb3:Below W.heap.size W w3) (h:StO B w3 G σ) (hP:Plc w3 G σ c n g u) (v:Int):DoP B w G (some ⟨setM σ.mem (c,n) v,σ.inp,σ.out⟩) (.returned (.int .i64 0)) ((w3.drewN q).setCell ⟨g,n,none⟩ (.int .i64 v)):=
 DoP.step (bl2 (bl2 hb hb3) (bdn (Below.refl _ _) q)) ⟨rfl,G,((hP.step (h.same (bdn (Below.refl _ _) q) (fun _=>False)) id rfl).set (h.below (bdn (Below.refl _ _) q)) v).mono fun _=>nine_any⟩
theorem exe_up (h:XpH B w G σ f T x) (hk:x.kind=40∨x.kind=41∨x.kind=42) (A:Option Addr) (cap:Nat) (hK:NdsAt w A x.kids) :
  Calls Tryz.prog 141 #[.pointer (some ⟨G.SB,0,none⟩),.agg (ndC x A cap)] w (DoP B w G (basicT f.env x.kind x σ)):=by
 obtain ⟨p,hp,hpP,hu,_⟩:=basic_kids h.st (by omega)
 obtain ⟨y,hy,hyE⟩:=hu hk
 obtain ⟨e,l,b,t,hE,hl,hb,_,_,hll⟩:=h.plc hp hpP
 have hpF:=h.fit.kid hp
 have hyF:=h.fit.kid hy
 have hL:=lk_of (B:=B) h.last h.len
 have hln1:1<x.kids.length:=(List.getElem?_eq_some_iff.1 hy).1
 obtain ⟨bk,ok,A0,c0,hA,hbk,k0,k1,k2,k3,hKK⟩:=hK.kid (k:=0) (by omega)
 rw [(List.getElem?_eq_some_iff.1 hp).2] at k0 k1 k2 k3 hKK
 rw [Nat.zero_mul,Nat.add_zero] at k0 k1 k2 k3
 obtain ⟨bk',ok',A1,c1,hA',_,m0,m1,m2,m3,hKK1⟩:=hK.kid hln1
 rw [(List.getElem?_eq_some_iff.1 hy).2] at m0 m1 m2 m3 hKK1
 obtain ⟨rfl,rfl⟩:bk'=bk∧ok'=ok:=by rw [hA] at hA';cases hA';exact ⟨rfl,rfl⟩
 rw [Nat.one_mul] at m0 m1 m2 m3
 subst hA
 have HB:=kp (blb w (Obj.cells (ndC x (some ⟨bk',ok',none⟩) cap) 26))
 have HRX:=kp (bxn w (ndC x (some ⟨bk',ok',none⟩) cap) 26)
 have HST:=kp (fun (Y:World) (hY:Below w.heap.size w Y)=>h.o.below hY)
 have HIX:=kp (fun (Y:World) (hY:Below w.heap.size w Y)=>evIndex_any hL hpP hpF A0 c0 Y (h.o.below hY) (hKK.mono hY))
 have HEX:=kp (fun (Y:World) (hY:Below w.heap.size w Y)=>evExpr_any hL hyE hyF A1 c1 Y (h.o.below hY) (hKK1.mono hY))
 have HCE:=kp (fun (Y:World) (hY:Below w.heap.size w Y)=>cell_any (h.o.below hY) h.last hE hb)
 have HJ:=kp (fun (Y:World) (hY:Below w.heap.size w Y)=>And.intro (blc hY k0) (And.intro (blc hY k1) (And.intro (blc hY k2) (blc hY k3))))
 have HJ1:=kp (fun (Y:World) (hY:Below w.heap.size w Y)=>And.intro (blc hY m0) (And.intro (blc hY m1) (And.intro (blc hY m2) (blc hY m3))))
 have HE:=kp (And.intro hl hb)
 have hbd:=up_bind hk hp hy hE hl
 generalize indexT (look f.env σ.mem) p=ov at *
 generalize evT (look f.env σ.mem) y=rv at *
 have HUP:=kp (fun (u v:Int) (Y:World)=>update_any x.kind hk u v Y)
 generalize basicT f.env x.kind x σ=o at *
 have HO:=kp hbd
 have q43:((x.kind:Int) == 43)=false:=beqF (b:=43) (by omega)
 obtain ⟨b40,q40⟩:∃ b,((x.kind:Int) == 40)=b:=⟨_,rfl⟩
 obtain ⟨b41,q41⟩:∃ b,((x.kind:Int) == 41)=b:=⟨_,rfl⟩
 obtain ⟨b42,q42⟩:∃ b,((x.kind:Int) == 42)=b:=⟨_,rfl⟩
 have hor:b40=true∨(b40=false∧b41=true)∨(b40=false∧b41=false∧b42=true):=by
  rcases hk with e | e | e<;>rw [e] at q40 q41 q42<;>subst q40 q41 q42<;>simp
 have HX:=kp h.hB
 have r0:(0:Int)<x.kids.length:=by omega
 have r1:(1:Int)<x.kids.length:=by omega
 clear h hu hE hl hb hpF hpP hL hK k0 k1 k2 k3 hKK hp m0 m1 m2 m3 hKK1 hyF hyE hy hbd hA' hk
 rcases hor with rfl | ⟨rfl,rfl⟩ | ⟨rfl,rfl,rfl⟩
 all_goals
  go_enter Tryz.func141,Tryz.ntmps141
  go_upto_region 1 with fail
  generalize w.alloc _=W at HB HRX ⊢
  have HS:=kp (fun (Y:World) (hY:Below W.heap.size W Y)=>And.intro (HRX.out.below hY).four (And.intro (HJ.out Y (bl2 HB.out hY)) (And.intro (HJ1.out Y (bl2 HB.out hY)) (HRX.out.below hY).lt)))
  obtain ⟨⟨a0,a1,a2,a3,_⟩,⟨k0,k1,k2,k3⟩,⟨m0,m1,m2,m3⟩,hla⟩:=HS.out W (Below.refl _ _)
  have hlk:=block_lt_of_cell k0
  go_wp2_with fail
  refine (HIX.out W HB.out).mono ?_
  rintro e1 w1 h1
  have HZ:=kp h1
  clear h1
  cases ov with
  | none=>
    obtain ⟨a,er,her,rfl⟩:=HZ.out.1
    have HN:=kp (show o=none from HO.out)
    have HF:=kp HZ.out.2
    have her2:(er != 0)=true:=by simpa using her
    clear HZ
    go_wp2_with fail
    go_ret
    rw [HN.out]
    exact dop_none HB.out HF.out her
  | some iv=>
    obtain rfl:=HZ.out.1
    have HB1:=kp HZ.out.2
    clear HZ a0 a1 a2 a3 k0 k1 k2 k3 m0 m1 m2 m3 hla hlk
    obtain ⟨⟨a0,a1,a2,a3,_⟩,⟨k0,k1,k2,k3⟩,⟨m0,m1,m2,m3⟩,hla⟩:=HS.out w1 HB1.out
    have hlk:=block_lt_of_cell k0
    have HO1:=kp (show o=rv.bind fun r=>if 0≤iv∧iv<l.length then some ⟨setM σ.mem (e.c,iv.toNat) (updR x.kind (getM σ.mem (e.c,iv.toNat)) r),σ.inp,σ.out⟩ else none from HO.out)
    go_wp2_with fail
    refine (HEX.out w1 (bl2 HB.out HB1.out)).mono ?_
    rintro e2 w2 h2
    have HZ:=kp h2
    clear h2
    cases rv with
    | none=>
      obtain ⟨a,er,her,rfl⟩:=HZ.out.1
      have HN:=kp (show o=none from HO1.out)
      have HF:=kp (bl2 HB1.out HZ.out.2)
      have her2:(er != 0)=true:=by simpa using her
      clear HZ
      go_wp2_with fail
      go_ret
      rw [HN.out]
      exact dop_none HB.out HF.out her
    | some r=>
      obtain rfl:=HZ.out.1
      have HB2:=kp (bl2 HB1.out HZ.out.2)
      clear HZ a0 a1 a2 a3 k0 k1 k2 k3 m0 m1 m2 m3 hla hlk
      obtain ⟨⟨a0,a1,a2,a3,_⟩,⟨k0,k1,k2,k3⟩,⟨m0,m1,m2,m3⟩,hla⟩:=HS.out w2 HB2.out
      have hlk:=block_lt_of_cell k0
      have HO2:=kp (show o=if 0≤iv∧iv<l.length then some ⟨setM σ.mem (e.c,iv.toNat) (updR x.kind (getM σ.mem (e.c,iv.toNat)) r),σ.inp,σ.out⟩ else none from HO1.out)
      go_wp2_with fail
      refine (HCE.out w2 (bl2 HB.out HB2.out)).mono ?_
      rintro e3 w3 ⟨rfl,hb3⟩
      have HB3:=kp (bl2 HB2.out hb3)
      clear hb3 a0 a1 a2 a3 k0 k1 k2 k3 m0 m1 m2 m3 hla hlk
      obtain ⟨⟨a0,a1,a2,a3,_⟩,⟨k0,k1,k2,k3⟩,⟨m0,m1,m2,m3⟩,hla⟩:=HS.out w3 HB3.out
      have hlk:=block_lt_of_cell k0
      by_cases hin:0≤iv∧iv<l.length
      ·rw [if_pos hin] at HO2
       obtain ⟨n,rfl⟩:∃ n:Nat,iv=(n:Int):=⟨iv.toNat,by omega⟩
       have hn:n<l.length:=by omega
       obtain ⟨b',g,cp,hb',hbox,hP⟩:=(HST.out w3 (bl2 HB.out HB3.out)).plc HE.out.1 (List.getElem?_eq_getElem hn)
       obtain rfl:b'=b:=Option.some.inj (hb'.symm.trans HE.out.2)
       have hlb:=block_lt_of_cell hbox
       have y1:=hP.cell
       have f1:=hP.free
       have hlg:=hP.block
       have HP:=kp hP
       generalize l[n]=u at *
       have r2:(0:Int)≤n:=by omega
       have r3:(n:Int)<l.length:=by omega
       have d1:decide ((n:Int)<0)=false:=decide_eq_false (by omega)
       have d2:decide ((l.length:Int)≤n)=false:=decide_eq_false (by omega)
       clear hP hb' hin
       go_upto_region 22 with fail
       go_quiet ((go_at_call 157;exact Calls.quiet_of_same ((HUP.out u r _).mono fun _ _ h=>⟨h.1,h.2.symm⟩)))
       have HM:=kp (exu_fin HB.out HB3.out (n:=n) (q:=nq) (HST.out w3 (bl2 HB.out HB3.out)) HP.out (updR x.kind u r))
       rw [Int.toNat_natCast,HP.out.get] at HO2
       have HO3:=kp HO2
       clear HO2
       go_wp2_with fail
       go_ret
       rw [HO3.out]
       exact HM.out
      ·rw [if_neg hin] at HO2
       obtain ⟨A9,c9,hbox⟩:=(HST.out w3 (bl2 HB.out HB3.out)).boxv HE.out.1 HE.out.2
       have hlb:=block_lt_of_cell hbox
       have HN:=kp HO2
       clear HO2
       by_cases hneg:iv<0
       ·clear hin
        have d1:decide (iv<0)=true:=decide_eq_true hneg
        go_wp2_with fail
        go_ret
        rw [HN.out]
        exact dop_none HB.out HB3.out (by omega)
       ·have d1:decide (iv<0)=false:=decide_eq_false hneg
        have hge:(l.length:Int)≤iv:=by omega
        have d2:decide ((l.length:Int)≤iv)=true:=decide_eq_true hge
        clear hin
        go_wp2_with fail
        go_ret
        rw [HN.out]
        exact dop_none HB.out HB3.out (by omega)
end
section
variable {B:Nat} {w:World} {G:Gs} {σ:Mt} {f:Fm} {T:List (Nat × Int)} {x:Nd}
theorem mv_bind {env:List Ev} {x p:Nd} {σ:Mt} {e:Ev} {l:List Int} (hp:x.kids[0]?=some p) (hE:findE env p.name=some e) (hl:σ.mem[e.c]?=some l) :
  basicT env x.kind x σ=(indexT (look env σ.mem) p).bind fun i=>if 0≤i∧i<l.length then basicP env x.kind x σ (e.c,i.toNat) else none:=by
 unfold basicT
 rw [kid_eq hp,placeT_at hE hl]
 cases indexT (look env σ.mem) p with
 | none=>rfl
 | some i=>
   rw [Option.bind_some,Option.bind_some]
   by_cases hi:0≤i∧i<l.length
   ·rw [if_pos hi,if_pos hi,Option.bind_some]
   ·rw [if_neg hi,if_neg hi,Option.bind_none]
theorem mov_any {env:List Ev} {c i g:Nat} {u:Int} {e2:Ev} {l2:List Int} {b2:Nat} (hk:x.kind=44∨x.kind=45) (h:StO B w G σ) (hB:B≤w.heap.size) (hp:Plc w G σ c i g u) (hE:findE env x.name=some e2) (hl:σ.mem[e2.c]?=some l2) (hcb:G.cb[e2.c]?=some b2) (hne:c≠e2.c) (hln:l2.length≤1000) :
  Calls Tryz.prog 158 #[.int .u8 x.kind,.pointer (some ⟨g,i,none⟩),.pointer (some ⟨b2,0,none⟩)] w (DoP B w G (basicP env x.kind x σ (c,i))):=by
 rcases hk with hk | hk
 ·rw [hk,basicP_44,hE,Option.bind_some]
  exact push_any h hB hp hl hcb hne hln
 ·rw [hk,basicP_45,hE,Option.bind_some]
  exact pop_any h hp hl hcb hne hln
theorem trf_any {env:List Ev} {c i g:Nat} {u:Int} (hk:x.kind=46∨x.kind=47∨x.kind=48∨x.kind=49) (h:StO B w G σ) (hB:B≤w.heap.size) (hp:Plc w G σ c i g u) (hi:σ.inp.length≤4096) (ho:σ.out.length≤4096) :
  Calls Tryz.prog 159 #[.pointer (some ⟨G.SB,0,none⟩),.int .u8 x.kind,.pointer (some ⟨g,i,none⟩)] w (DoP B w G (basicP env x.kind x σ (c,i))):=by
 rcases hk with hk | hk | hk | hk
 ·rw [hk,basicP_46];exact trf_46 h hB hp hi
 ·rw [hk,basicP_47];exact trf_47 h hB hp hi
 ·rw [hk,basicP_48];exact trf_48 h hB hp ho
 ·rw [hk,basicP_49];exact trf_49 h hB hp ho
theorem DoP.er {B:Nat} {w w':World} {G:Gs} {o:Option Mt} {e:Ending} (h:DoP B w G o e w'):∃ er:Int,e=.returned (.int .i64 er):=by
 cases o with
 | none=>obtain ⟨er,_,q,_⟩:=h;exact ⟨er,q⟩
 | some m=>exact ⟨0,h.1⟩
theorem exe_tr (h:XpH B w G σ f T x) (hk:x.kind=46∨x.kind=47∨x.kind=48∨x.kind=49) (A:Option Addr) (cap:Nat) (hK:NdsAt w A x.kids) :
  Calls Tryz.prog 141 #[.pointer (some ⟨G.SB,0,none⟩),.agg (ndC x A cap)] w (DoP B w G (basicT f.env x.kind x σ)):=by
 obtain ⟨p,hp,hpP,_,_⟩:=basic_kids h.st (by omega)
 obtain ⟨e,l,b,t,hE,hl,hb,hT,ht3,hll⟩:=h.plc hp hpP
 have HK:=kp hk
 have HI:=kp (And.intro h.mem.li h.mem.lo)
 have hpF:=h.fit.kid hp
 have hL:=lk_of (B:=B) h.last h.len
 have hln0:0<x.kids.length:=(List.getElem?_eq_some_iff.1 hp).1
 obtain ⟨bk,ok,A0,c0,hA,hbk,k0,k1,k2,k3,hKK⟩:=hK.kid hln0
 rw [(List.getElem?_eq_some_iff.1 hp).2] at k0 k1 k2 k3 hKK
 rw [Nat.zero_mul,Nat.add_zero] at k0 k1 k2 k3
 subst hA
 have HB:=kp (blb w (Obj.cells (ndC x (some ⟨bk,ok,none⟩) cap) 26))
 have HRX:=kp (bxn w (ndC x (some ⟨bk,ok,none⟩) cap) 26)
 have HST:=kp (fun (Y:World) (hY:Below w.heap.size w Y)=>h.o.below hY)
 have HIX:=kp (fun (Y:World) (hY:Below w.heap.size w Y)=>evIndex_any hL hpP hpF A0 c0 Y (h.o.below hY) (hKK.mono hY))
 have HCE:=kp (fun (Y:World) (hY:Below w.heap.size w Y)=>cell_any (h.o.below hY) h.last hE hb)
 have HJ:=kp (fun (Y:World) (hY:Below w.heap.size w Y)=>And.intro (blc hY k0) (And.intro (blc hY k1) (And.intro (blc hY k2) (blc hY k3))))
 have HE:=kp (And.intro hl hb)
 have hbd:=mv_bind hp hE hl
 generalize indexT (look f.env σ.mem) p=ov at *
 generalize basicT f.env x.kind x σ=o at *
 have HO:=kp hbd
 have q43:((x.kind:Int) == 43)=false:=beqF (b:=43) (by omega)
 have q40:((x.kind:Int) == 40)=false:=beqF (b:=40) (by omega)
 have q41:((x.kind:Int) == 41)=false:=beqF (b:=41) (by omega)
 have q42:((x.kind:Int) == 42)=false:=beqF (b:=42) (by omega)
 have q44:((x.kind:Int) == 44)=false:=beqF (b:=44) (by omega)
 have q45:((x.kind:Int) == 45)=false:=beqF (b:=45) (by omega)
 have HX:=kp h.hB
 have r0:(0:Int)<x.kids.length:=by omega
 clear h hE hl hb hpF hpP hL hK k0 k1 k2 k3 hKK hp hbd hT ht3 hk
 go_enter Tryz.func141,Tryz.ntmps141
 go_upto_region 1 with fail
 generalize w.alloc _=W at HB HRX ⊢
 have HS:=kp (fun (Y:World) (hY:Below W.heap.size W Y)=>And.intro (HRX.out.below hY).four (And.intro (HJ.out Y (bl2 HB.out hY)) (HRX.out.below hY).lt))
 obtain ⟨⟨a0,a1,a2,a3,_⟩,⟨k0,k1,k2,k3⟩,hla⟩:=HS.out W (Below.refl _ _)
 have hlk:=block_lt_of_cell k0
 go_wp2_with fail
 refine (HIX.out W HB.out).mono ?_
 rintro e1 w1 h1
 have HZ:=kp h1
 clear h1
 cases ov with
 | none=>
   obtain ⟨a,er,her,rfl⟩:=HZ.out.1
   have HN:=kp (show o=none from HO.out)
   have HF:=kp HZ.out.2
   have her2:(er != 0)=true:=by simpa using her
   clear HZ
   go_wp2_with fail
   go_ret
   rw [HN.out]
   exact dop_none HB.out HF.out her
 | some iv=>
   obtain rfl:=HZ.out.1
   have HB1:=kp HZ.out.2
   clear HZ a0 a1 a2 a3 k0 k1 k2 k3 hla hlk
   obtain ⟨⟨a0,a1,a2,a3,_⟩,⟨k0,k1,k2,k3⟩,hla⟩:=HS.out w1 HB1.out
   have hlk:=block_lt_of_cell k0
   have HO2:=kp (show o=if 0≤iv∧iv<l.length then basicP f.env x.kind x σ (e.c,iv.toNat) else none from HO.out)
   go_wp2_with fail
   refine (HCE.out w1 (bl2 HB.out HB1.out)).mono ?_
   rintro e3 w3 ⟨rfl,hb3⟩
   have HB3:=kp (bl2 HB1.out hb3)
   clear hb3 a0 a1 a2 a3 k0 k1 k2 k3 hla hlk
   obtain ⟨⟨a0,a1,a2,a3,_⟩,⟨k0,k1,k2,k3⟩,hla⟩:=HS.out w3 HB3.out
   have hlk:=block_lt_of_cell k0
   by_cases hin:0≤iv∧iv<l.length
   ·rw [if_pos hin] at HO2
    obtain ⟨n,rfl⟩:∃ n:Nat,iv=(n:Int):=⟨iv.toNat,by omega⟩
    have hn:n<l.length:=by omega
    obtain ⟨b',g,cp,hb',hbox,hP⟩:=(HST.out w3 (bl2 HB.out HB3.out)).plc HE.out.1 (List.getElem?_eq_getElem hn)
    obtain rfl:b'=b:=Option.some.inj (hb'.symm.trans HE.out.2)
    have hlb:=block_lt_of_cell hbox
    have y1:=hP.cell
    have f1:=hP.free
    have hlg:=hP.block
    have HP:=kp hP
    generalize l[n]=u at *
    have r2:(0:Int)≤n:=by omega
    have r3:(n:Int)<l.length:=by omega
    have d1:decide ((n:Int)<0)=false:=decide_eq_false (by omega)
    have d2:decide ((l.length:Int)≤n)=false:=decide_eq_false (by omega)
    have HO3:=kp (show o=basicP f.env x.kind x σ (e.c,n) from by rw [HO2.out,Int.toNat_natCast])
    clear hP hb' hin HO2
    have HMV:=kp (fun (Y:World) (hY:Below w3.heap.size w3 Y)=>trf_any (env:=f.env) HK.out ((HST.out w3 (bl2 HB.out HB3.out)).below hY) (Nat.le_trans HX.out (bl2 (bl2 HB.out HB3.out) hY).size) (HP.out.step ((HST.out w3 (bl2 HB.out HB3.out)).same hY (fun _=>False)) id rfl) HI.out.1 HI.out.2)
    rw [← HO3.out] at HMV
    go_wp2_with fail
    refine (HMV.out w3 (Below.refl _ _)).mono ?_
    intro e5 w5 h5
    have HM:=kp (DoP.step (bl2 HB.out HB3.out) h5)
    obtain ⟨er,rfl⟩:=h5.er
    clear h5
    go_wp2_with fail
    go_ret
    exact HM.out
   ·rw [if_neg hin] at HO2
    obtain ⟨A9,c9,hbox⟩:=(HST.out w3 (bl2 HB.out HB3.out)).boxv HE.out.1 HE.out.2
    have hlb:=block_lt_of_cell hbox
    have HN:=kp HO2.out
    clear HO2
    by_cases hneg:iv<0
    ·clear hin
     have d1:decide (iv<0)=true:=decide_eq_true hneg
     go_wp2_with fail
     go_ret
     rw [HN.out]
     exact dop_none HB.out HB3.out (by omega)
    ·have d1:decide (iv<0)=false:=decide_eq_false hneg
     have hge:(l.length:Int)≤iv:=by omega
     have d2:decide ((l.length:Int)≤iv)=true:=decide_eq_true hge
     clear hin
     go_wp2_with fail
     go_ret
     rw [HN.out]
     exact dop_none HB.out HB3.out (by omega)
theorem exe_mv (h:XpH B w G σ f T x) (hk:x.kind=44∨x.kind=45) (A:Option Addr) (cap:Nat) (hK:NdsAt w A x.kids) :
  Calls Tryz.prog 141 #[.pointer (some ⟨G.SB,0,none⟩),.agg (ndC x A cap)] w (DoP B w G (basicT f.env x.kind x σ)):=by
 obtain ⟨p,hp,hpP,_,_⟩:=basic_kids h.st (by omega)
 obtain ⟨e,l,b,t,hE,hl,hb,hT,ht3,hll⟩:=h.plc hp hpP
 have HK:=kp hk
 obtain ⟨e2,l2,b2,hE2,hl2,hb2,hT2,hll2⟩:=h.need h.cl (by rcases hk with e | e<;>rw [e]<;>decide)
 have hne:e.c≠e2.c:=fun q=>by
  rw [q,hT2] at hT
  have:needK x.kind=3:=by rcases hk with e | e<;>rw [e]<;>rfl
  rw [this] at hT
  exact ht3 (Prod.mk.inj (Option.some.inj hT)).1.symm
 have HE2:=kp (And.intro hE2 (And.intro hl2 (And.intro hb2 (And.intro hne hll2))))
 have hpF:=h.fit.kid hp
 have hL:=lk_of (B:=B) h.last h.len
 have hln0:0<x.kids.length:=(List.getElem?_eq_some_iff.1 hp).1
 obtain ⟨bk,ok,A0,c0,hA,hbk,k0,k1,k2,k3,hKK⟩:=hK.kid hln0
 rw [(List.getElem?_eq_some_iff.1 hp).2] at k0 k1 k2 k3 hKK
 rw [Nat.zero_mul,Nat.add_zero] at k0 k1 k2 k3
 subst hA
 have HB:=kp (blb w (Obj.cells (ndC x (some ⟨bk,ok,none⟩) cap) 26))
 have HRX:=kp (bxn w (ndC x (some ⟨bk,ok,none⟩) cap) 26)
 have HST:=kp (fun (Y:World) (hY:Below w.heap.size w Y)=>h.o.below hY)
 have HIX:=kp (fun (Y:World) (hY:Below w.heap.size w Y)=>evIndex_any hL hpP hpF A0 c0 Y (h.o.below hY) (hKK.mono hY))
 have HCE:=kp (fun (Y:World) (hY:Below w.heap.size w Y)=>cell_any (h.o.below hY) h.last hE hb)
 have HC2:=kp (fun (Y:World) (hY:Below w.heap.size w Y)=>cell_any (h.o.below hY) h.last hE2 hb2)
 have HJ:=kp (fun (Y:World) (hY:Below w.heap.size w Y)=>And.intro (blc hY k0) (And.intro (blc hY k1) (And.intro (blc hY k2) (blc hY k3))))
 have HE:=kp (And.intro hl hb)
 have hbd:=mv_bind hp hE hl
 generalize indexT (look f.env σ.mem) p=ov at *
 generalize basicT f.env x.kind x σ=o at *
 have HO:=kp hbd
 have q43:((x.kind:Int) == 43)=false:=beqF (b:=43) (by omega)
 have q40:((x.kind:Int) == 40)=false:=beqF (b:=40) (by omega)
 have q41:((x.kind:Int) == 41)=false:=beqF (b:=41) (by omega)
 have q42:((x.kind:Int) == 42)=false:=beqF (b:=42) (by omega)
 obtain ⟨b44,q44⟩:∃ b,((x.kind:Int) == 44)=b:=⟨_,rfl⟩
 obtain ⟨b45,q45⟩:∃ b,((x.kind:Int) == 45)=b:=⟨_,rfl⟩
 have hor:b44=true∨(b44=false∧b45=true):=by
  rcases hk with e | e<;>rw [e] at q44 q45<;>subst q44 q45<;>simp
 have HX:=kp h.hB
 have r0:(0:Int)<x.kids.length:=by omega
 clear h hE hl hb hpF hpP hL hK k0 k1 k2 k3 hKK hp hbd hT ht3 hk hE2 hl2 hb2 hT2 hne
 rcases hor with rfl | ⟨rfl,rfl⟩
 all_goals
  go_enter Tryz.func141,Tryz.ntmps141
  go_upto_region 1 with fail
  generalize w.alloc _=W at HB HRX ⊢
  have HS:=kp (fun (Y:World) (hY:Below W.heap.size W Y)=>And.intro (HRX.out.below hY).four (And.intro (HJ.out Y (bl2 HB.out hY)) (HRX.out.below hY).lt))
  obtain ⟨⟨a0,a1,a2,a3,_⟩,⟨k0,k1,k2,k3⟩,hla⟩:=HS.out W (Below.refl _ _)
  have hlk:=block_lt_of_cell k0
  go_wp2_with fail
  refine (HIX.out W HB.out).mono ?_
  rintro e1 w1 h1
  have HZ:=kp h1
  clear h1
  cases ov with
  | none=>
    obtain ⟨a,er,her,rfl⟩:=HZ.out.1
    have HN:=kp (show o=none from HO.out)
    have HF:=kp HZ.out.2
    have her2:(er != 0)=true:=by simpa using her
    clear HZ
    go_wp2_with fail
    go_ret
    rw [HN.out]
    exact dop_none HB.out HF.out her
  | some iv=>
    obtain rfl:=HZ.out.1
    have HB1:=kp HZ.out.2
    clear HZ a0 a1 a2 a3 k0 k1 k2 k3 hla hlk
    obtain ⟨⟨a0,a1,a2,a3,_⟩,⟨k0,k1,k2,k3⟩,hla⟩:=HS.out w1 HB1.out
    have hlk:=block_lt_of_cell k0
    have HO2:=kp (show o=if 0≤iv∧iv<l.length then basicP f.env x.kind x σ (e.c,iv.toNat) else none from HO.out)
    go_wp2_with fail
    refine (HCE.out w1 (bl2 HB.out HB1.out)).mono ?_
    rintro e3 w3 ⟨rfl,hb3⟩
    have HB3:=kp (bl2 HB1.out hb3)
    clear hb3 a0 a1 a2 a3 k0 k1 k2 k3 hla hlk
    obtain ⟨⟨a0,a1,a2,a3,_⟩,⟨k0,k1,k2,k3⟩,hla⟩:=HS.out w3 HB3.out
    have hlk:=block_lt_of_cell k0
    by_cases hin:0≤iv∧iv<l.length
    ·rw [if_pos hin] at HO2
     obtain ⟨n,rfl⟩:∃ n:Nat,iv=(n:Int):=⟨iv.toNat,by omega⟩
     have hn:n<l.length:=by omega
     obtain ⟨b',g,cp,hb',hbox,hP⟩:=(HST.out w3 (bl2 HB.out HB3.out)).plc HE.out.1 (List.getElem?_eq_getElem hn)
     obtain rfl:b'=b:=Option.some.inj (hb'.symm.trans HE.out.2)
     have hlb:=block_lt_of_cell hbox
     have y1:=hP.cell
     have f1:=hP.free
     have hlg:=hP.block
     have HP:=kp hP
     generalize l[n]=u at *
     have r2:(0:Int)≤n:=by omega
     have r3:(n:Int)<l.length:=by omega
     have d1:decide ((n:Int)<0)=false:=decide_eq_false (by omega)
     have d2:decide ((l.length:Int)≤n)=false:=decide_eq_false (by omega)
     have HO3:=kp (show o=basicP f.env x.kind x σ (e.c,n) from by rw [HO2.out,Int.toNat_natCast])
     clear hP hb' hin HO2
     have HMV:=kp (fun (Y:World) (hY:Below w3.heap.size w3 Y)=>mov_any (env:=f.env) HK.out ((HST.out w3 (bl2 HB.out HB3.out)).below hY) (Nat.le_trans HX.out (bl2 (bl2 HB.out HB3.out) hY).size) (HP.out.step ((HST.out w3 (bl2 HB.out HB3.out)).same hY (fun _=>False)) id rfl) HE2.out.1 HE2.out.2.1 HE2.out.2.2.1 HE2.out.2.2.2.1 HE2.out.2.2.2.2)
     rw [← HO3.out] at HMV
     go_upto_region 34 with fail
     have hbP:=Below.refl w3.heap.size w3
     go_region_law (first
      | (go_simp;go_at_call 156;(with_reducible refine Calls.mono (HC2.out w3.drew (bl2 (bl2 HB.out HB3.out) (bld hbP))) ?_);rintro e5 w5 ⟨rfl,hb5⟩;have HB5:=kp (bl2 (W:=w3) (bld hbP) hb5);obtain ⟨⟨z0,z1,z2,z3,_⟩,_,zl⟩:=HS.out w5 (bl2 HB3.out HB5.out);clear hb5;dsimp only)
      | (go_simp;go_at_call 158;(with_reducible refine Calls.mono (HMV.out w5 HB5.out) ?_);intro e6 w6 h6;have HM:=kp (DoP.step (bl2 (bl2 HB.out HB3.out) HB5.out) h6);obtain ⟨er,he⟩:=h6.er;subst he;clear h6;dsimp only)
      | fail)
     all_goals
      go_wp2_with fail
      go_ret
      exact HM.out
    ·rw [if_neg hin] at HO2
     obtain ⟨A9,c9,hbox⟩:=(HST.out w3 (bl2 HB.out HB3.out)).boxv HE.out.1 HE.out.2
     have hlb:=block_lt_of_cell hbox
     have HN:=kp HO2.out
     clear HO2
     by_cases hneg:iv<0
     ·clear hin
      have d1:decide (iv<0)=true:=decide_eq_true hneg
      go_wp2_with fail
      go_ret
      rw [HN.out]
      exact dop_none HB.out HB3.out (by omega)
     ·have d1:decide (iv<0)=false:=decide_eq_false hneg
      have hge:(l.length:Int)≤iv:=by omega
      have d2:decide ((l.length:Int)≤iv)=true:=decide_eq_true hge
      clear hin
      go_wp2_with fail
      go_ret
      rw [HN.out]
      exact dop_none HB.out HB3.out (by omega)
end
end Go.Proofs.YtgbomnibedefoaaGreatDoor
