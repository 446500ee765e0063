import Derived.Test.YtgbomnibedefoaaGreatDoorQa14
set_option maxRecDepth 100000
set_option maxHeartbeats 8000000
namespace Go.Proofs.YtgbomnibedefoaaGreatDoor
open Go.ChangeShapes Go.WideShapes Go.ChangeAt Go.RowKit Go.Sort
theorem vis_kids (P:Pg) (hl:P.procs.length≤9223372036854775807) {W0:World} {FB BT f:Nat} {C:World→Value→Prop} {caps:Array Value} (hR:RepV f caps FB BT C) {n:Nd} (hkl:n.kids.length≤1000000) (hk:¬ (n.kind=50∨n.kind=51)) (ih:∀ x∈n.kids,VisC P W0 FB BT C f caps x):VisC P W0 FB BT C f caps n:=fun l vis Av Ap Am Ak Al Ae cv cp cm ck cl ce w u k hV hI hD hl1 hl2 hl3=>by
 have HT:=kp (tw2 w (pgC P Av Ap Am cv cp cm) (ndC n Ak ck) 28 26)
 have HF:=kp (fault_any P n hl vis (by omega))
 have HA:=kp (And.intro hV (And.intro hI (And.intro hD (And.intro hl1 (And.intro hl2 hl3)))))
 have HRV:=kp hR
 have hk50:((n.kind:Int) == 50)=decide (n.kind=50):=beqD n.kind 50
 have hk51:((n.kind:Int) == 51)=decide (n.kind=51):=beqD n.kind 51
 have HK:=kp hk
 clear hV hI hD hl1 hl2 hl3 hR hk
 have hen:=HRV.out.ent
 unfold EntF at hen
 go_enter Tryz.func55,Tryz.ntmps55
 go_upto_region 1 with fail
 generalize (w.alloc _).alloc _=W at HT ⊢
 obtain ⟨⟨a0,a1,a2,a3,a4,a5⟩,_⟩:=HT.out.2.1.six
 obtain ⟨b0,b1,b2,b3,_⟩:=HT.out.2.2.four
 have hla:=HT.out.2.1.lt
 have hlb:=HT.out.2.2.lt
 have hbP:=Below.refl W.heap.size W
 have hcl:=fun (V:World) (h1:PcsAt V Ap P.procs) (h2:VdsAt V Ae vis)=>HF.out Av Ap Am Ak Ae cv cp cm ck ce V h1 h2
 have HV:=kp (fun (V:World) (hb:Below W.heap.size W V)=>hcl V ((HA.out.1.p.mono HA.out.1.bw).mono (bls HT.out.1 HT.out.1.size hb)) ((HA.out.2.2.1.v.mono HT.out.1).mono hb))
 clear hcl
 have KS:=kp (fun (Y:World) (hY:Below W.heap.size W Y)=>show Y.cell? ⟨w.heap.size,0,none⟩=some (.slice Av P.vars.length cv)∧Y.cell? ⟨w.heap.size,1,none⟩=some (.slice Ap P.procs.length cp)∧Y.cell? ⟨w.heap.size,2,none⟩=some (.int .u8 P.main.kind)∧Y.cell? ⟨w.heap.size,3,none⟩=some (.int .i64 P.main.num)∧Y.cell? ⟨w.heap.size,4,none⟩=some (.string P.main.name)∧Y.cell? ⟨w.heap.size,5,none⟩=some (.slice Am P.main.kids.length cm)∧Y.cell? ⟨w.heap.size+1,0,none⟩=some (.int .u8 n.kind)∧Y.cell? ⟨w.heap.size+1,1,none⟩=some (.int .i64 n.num)∧Y.cell? ⟨w.heap.size+1,2,none⟩=some (.string n.name)∧Y.cell? ⟨w.heap.size+1,3,none⟩=some (.slice Ak n.kids.length ck) from ⟨blc hY a0,blc hY a1,blc hY a2,blc hY a3,blc hY a4,blc hY a5,blc hY b0,blc hY b1,blc hY b2,blc hY b3⟩)
 have HRX:=kp (fun (V:World) (hb:Below W.heap.size W V)=>
  have hbw:=bls HT.out.1 HT.out.1.size hb
  have hfr:Fr w V (HsF FB u):=Fr.of_below hbw _
  show Calls Tryz.prog f (#[.slice Al l.length cl,.string n.name,.int .i64 (fltR P n vis)]++caps) V (RepP FB BT u (k+er1 (fltR P n vis)) V) from HRV.out.call (fltR P n vis) l n.name Al cl V u k (by have:=HA.out.2.2.2.1;omega) (HRV.out.keep w V u u HA.out.1.c hfr (NwF.refl _ _)) (HA.out.1.ft.below hbw) (by have:=HA.out.2.2.2.2.2;omega) (HA.out.2.1.v.mono hbw))
 have HNS:Hid (VsNow FB BT W u k W u):=kp ⟨HA.out.1.ft.below HT.out.1,Fr.refl _ _,NwF.refl _ _⟩
 have KB:=kp (fun (k':Nat) (Y:World) (u':Value) (h:VsNow FB BT W u k' Y u')=>
  have h1:=(h.box HA.out.1.ft HT.out.2.1 (by omega)).six
  have h2:=(h.box HA.out.1.ft HT.out.2.2 (by omega)).four
  show Y.cell? ⟨w.heap.size,0,none⟩=some (.slice Av P.vars.length cv)∧Y.cell? ⟨w.heap.size,1,none⟩=some (.slice Ap P.procs.length cp)∧Y.cell? ⟨w.heap.size,2,none⟩=some (.int .u8 P.main.kind)∧Y.cell? ⟨w.heap.size,3,none⟩=some (.int .i64 P.main.num)∧Y.cell? ⟨w.heap.size,4,none⟩=some (.string P.main.name)∧Y.cell? ⟨w.heap.size,5,none⟩=some (.slice Am P.main.kids.length cm)∧Y.cell? ⟨w.heap.size+1,0,none⟩=some (.int .u8 n.kind)∧Y.cell? ⟨w.heap.size+1,1,none⟩=some (.int .i64 n.num)∧Y.cell? ⟨w.heap.size+1,2,none⟩=some (.string n.name)∧Y.cell? ⟨w.heap.size+1,3,none⟩=some (.slice Ak n.kids.length ck) from ⟨h1.1.1,h1.1.2.1,h1.1.2.2.1,h1.1.2.2.2.1,h1.1.2.2.2.2.1,h1.1.2.2.2.2.2,h2.1,h2.2.1,h2.2.2.1,h2.2.2.2.1⟩)
 have hWD:W.heap.size≤W.drew.heap.size:=(bld hbP).size
 have S9:=kp (show W.drew.cell? ⟨w.heap.size,0,none⟩=some (.slice Av P.vars.length cv)∧W.drew.cell? ⟨w.heap.size,1,none⟩=some (.slice Ap P.procs.length cp)∧W.drew.cell? ⟨w.heap.size,2,none⟩=some (.int .u8 P.main.kind)∧W.drew.cell? ⟨w.heap.size,3,none⟩=some (.int .i64 P.main.num)∧W.drew.cell? ⟨w.heap.size,4,none⟩=some (.string P.main.name)∧W.drew.cell? ⟨w.heap.size,5,none⟩=some (.slice Am P.main.kids.length cm)∧W.drew.cell? ⟨w.heap.size+1,0,none⟩=some (.int .u8 n.kind)∧W.drew.cell? ⟨w.heap.size+1,1,none⟩=some (.int .i64 n.num)∧W.drew.cell? ⟨w.heap.size+1,2,none⟩=some (.string n.name)∧W.drew.cell? ⟨w.heap.size+1,3,none⟩=some (.slice Ak n.kids.length ck) from ⟨a0,a1,a2,a3,a4,a5,b0,b1,b2,b3⟩)
 go_region_held3 (fun w'=>w'.cell? ⟨w.heap.size,0,none⟩=some (.slice Av P.vars.length cv)∧w'.cell? ⟨w.heap.size,1,none⟩=some (.slice Ap P.procs.length cp)∧w'.cell? ⟨w.heap.size,2,none⟩=some (.int .u8 P.main.kind)∧w'.cell? ⟨w.heap.size,3,none⟩=some (.int .i64 P.main.num)∧w'.cell? ⟨w.heap.size,4,none⟩=some (.string P.main.name)∧w'.cell? ⟨w.heap.size,5,none⟩=some (.slice Am P.main.kids.length cm)∧w'.cell? ⟨w.heap.size+1,0,none⟩=some (.int .u8 n.kind)∧w'.cell? ⟨w.heap.size+1,1,none⟩=some (.int .i64 n.num)∧w'.cell? ⟨w.heap.size+1,2,none⟩=some (.string n.name)∧w'.cell? ⟨w.heap.size+1,3,none⟩=some (.slice Ak n.kids.length ck))
  (first | exact S9.out | exact S8.out | trivial)
  (first
  | (go_simp;go_at_call 86;(with_reducible refine Calls.mono (HV.out W.drew (bld hbP)) ?_);rintro e w8 ⟨rfl,hb8⟩;have H8:=kp (bls (bld hbP) hWD hb8);have S8:=kp (KS.out w8 H8.out);clear hb8;dsimp only)
  | (go_simp;(with_reducible refine Calls.mono (HRX.out w8 H8.out) ?_);rintro e w9 h9;obtain ⟨rfl,u9,h9⟩:=HNS.out.step H8.out h9;have HZ9:=kp h9;have S9:=kp (KB.out _ _ _ h9);clear h9;dsimp only)
  | fail)
 have hbb:decide (n.kind=50)=false∧decide (n.kind=51)=false:=⟨decide_eq_false fun e=>HK.out (.inl e),decide_eq_false fun e=>HK.out (.inr e)⟩
 have HIH:=kp ih
 clear ih
 have HX:=kp (fun (k':Nat) (Y:World) (u':Value) (h:VsNow FB BT W u k' Y u')=>
  have hf:Fr w Y (HsF FB u):=(Fr.of_below HT.out.1 _).trans h.2.1 fun _ _ e=>e
  have hn:NwF w u u':=fun g hg=>(h.2.2 g hg).imp id fun q=>Nat.le_trans HT.out.1.size q
  show Below W0.heap.size W0 Y∧PcsAt Y Ap P.procs∧C Y u'∧IntO Y FB u' Al l cl∧VdsO Y FB u' Ae vis ce from
   have hb:=hf.below HA.out.1.bw (HsF.ge HA.out.1.ft HA.out.1.fb)
   ⟨hb,HA.out.1.p.mono hb,HRV.out.keep w Y u u' HA.out.1.c hf hn,HA.out.2.1.keep hf hn,HA.out.2.2.1.keep hf hn⟩)
 have HVC:=kp (show vcT P n vis=er1 (fltR P n vis)+vcTL P n.kind n.name n.kids 0 vis by rw [vcT_eq,if_neg HK.out])
 clear a0 a1 a2 a3 a4 a5 b0 b1 b2 b3 hla hlb hbP
 obtain ⟨a0,a1,a2,a3,a4,a5,b0,b1,b2,b3⟩:=S9.out
 have hlb:=block_lt_of_cell b0
 generalize decide (n.kind=50)=q5 at *
 generalize decide (n.kind=51)=q6 at *
 obtain ⟨rfl,rfl⟩:=hbb
 all_goals
  go_wp2_with fail
  go_loopw [55] (fun i wr=>∃ (j kj:Nat) (uj:Value),j≤n.kids.length∧i=.int .i64 j∧Hid (VsNow FB BT W u kj wr uj∧kj+vcTL P n.kind n.name (n.kids.drop j) j vis=k+vcT P n vis)) (fun i _=>n.kids.length - (intOf i).toNat)
  case atStart=>exact ⟨0,k+er1 (fltR P n vis),u9,by omega,rfl,kp ⟨HZ9.out,by rw [HVC.out];simp;omega⟩⟩
  case round=>
   obtain ⟨j,kj,uj,hj,rfl,HR⟩:=hrel
   clear a0 a1 a2 a3 a4 a5 b0 b1 b2 b3 hlb S9 HZ9
   have SW:=kp (KB.out _ _ _ HR.out.1)
   obtain ⟨a0,a1,a2,a3,a4,a5,b0,b1,b2,b3⟩:=SW.out
   have hlb:=block_lt_of_cell b0
   have HXW:=kp (HX.out _ _ _ HR.out.1)
   by_cases hin:j<n.kids.length
   ·have hla:=block_lt_of_cell a0
    obtain ⟨bk,ok,A',cap',rfl,hbk,k0,k1,k2,k3,hKK⟩:=HA.out.1.n.kid hin
    have k0:=blc HXW.out.1 k0
    have k1:=blc HXW.out.1 k1
    have k2:=blc HXW.out.1 k2
    have k3:=blc HXW.out.1 k3
    have hbk:=block_lt_of_cell k0
    have HKK:=kp hKK
    clear hKK
    have HNW:=kp (blb wr (Obj.cells #[.int .u8 n.kids[j].kind,.int .i64 n.kids[j].num,.string n.kids[j].name,.slice A' n.kids[j].kids.length cap'] 26))
    have HRX:=kp (bxn wr #[.int .u8 n.kids[j].kind,.int .i64 n.kids[j].num,.string n.kids[j].name,.slice A' n.kids[j].kids.length cap'] 26)
    have r0:(0:Int)≤j:=by omega
    have r1:(j:Int)<n.kids.length:=by omega
    go_wp2_with fail
    generalize wr.alloc _=V at HNW HRX ⊢
    have hbP:=Below.refl V.heap.size V
    have hVD:V.heap.size≤V.drew.heap.size:=(bld hbP).size
    obtain ⟨v0,v1,v2,v3,_⟩:=HRX.out.four
    have hlv:=HRX.out.lt
    have KS2:=kp (fun (Y:World) (hY:Below V.heap.size V Y)=>have hq:=bls HNW.out HNW.out.size hY;show Y.cell? ⟨w.heap.size,0,none⟩=some (.slice Av P.vars.length cv)∧Y.cell? ⟨w.heap.size,1,none⟩=some (.slice Ap P.procs.length cp)∧Y.cell? ⟨w.heap.size,2,none⟩=some (.int .u8 P.main.kind)∧Y.cell? ⟨w.heap.size,3,none⟩=some (.int .i64 P.main.num)∧Y.cell? ⟨w.heap.size,4,none⟩=some (.string P.main.name)∧Y.cell? ⟨w.heap.size,5,none⟩=some (.slice Am P.main.kids.length cm)∧Y.cell? ⟨w.heap.size+1,0,none⟩=some (.int .u8 n.kind)∧Y.cell? ⟨w.heap.size+1,1,none⟩=some (.int .i64 n.num)∧Y.cell? ⟨w.heap.size+1,2,none⟩=some (.string n.name)∧Y.cell? ⟨w.heap.size+1,3,none⟩=some (.slice (some ⟨bk,ok,none⟩) n.kids.length ck)∧Y.cell? ⟨wr.heap.size,0,none⟩=some (.int .u8 n.kids[j].kind)∧Y.cell? ⟨wr.heap.size,1,none⟩=some (.int .i64 n.kids[j].num)∧Y.cell? ⟨wr.heap.size,2,none⟩=some (.string n.kids[j].name)∧Y.cell? ⟨wr.heap.size,3,none⟩=some (.slice A' n.kids[j].kids.length cap') from ⟨blc hq a0,blc hq a1,blc hq a2,blc hq a3,blc hq a4,blc hq a5,blc hq b0,blc hq b1,blc hq b2,blc hq b3,blc hY v0,blc hY v1,blc hY v2,blc hY v3⟩)
    have S9:=kp (KS2.out V.drew (bld hbP))
    have HCH:=kp (fun (Y:World) (hY:Below V.heap.size V Y)=>have hq:=bls HNW.out HNW.out.size hY;child_any l j (by have:=HA.out.2.2.2.1;omega) Al cl Y (HXW.out.2.2.2.1.v.mono hq) HXW.out.2.2.2.1.s)
    have HFZ:=kp (show FB<wr.heap.size from by have h1:=HR.out.1.1.lt;have h2:=HR.out.1.1.b;omega)
    have HIN:=kp (fun (Y:World) (hY:Below V.heap.size V Y)=>have hq:=bls HNW.out HNW.out.size hY;inner_any n j vis (by have:=HA.out.2.2.2.2.1;omega) Ae ce (some ⟨bk,ok,none⟩) ck Y (HXW.out.2.2.2.2.v.mono hq) HXW.out.2.2.2.2.s)
    have HEQ:=kp (vcTL_drop P n hin vis)
    have hdk:dpT n.kids[j]<dpT n:=dpT_kid (List.getElem_mem hin)
    have hin1:(innerT n j vis).length≤vis.length+1:=by unfold innerT;split<;>(try split)<;>simp
    have HI8:=kp (fun (Y:World) (hY:Below V.heap.size V Y) (A8:Option Addr) (c8:Nat) (h1:IntsAt Y A8 (l++[(j:Int)])) (h2:SlOk A8 (l++[(j:Int)]).length c8) (h3:∀ b o,A8=some ⟨b,o,none⟩→V.heap.size≤b)=>show IntO Y FB uj A8 (l++[(j:Int)]) c8 from ⟨h1,h2,fun b o e hl=>by
     have hz:=HNW.out.size
     have hg:=h3 b o e
     have hb:=HFZ.out
     obtain ⟨b',o',e',hc⟩:=h1.at_ (k:=0) hl
     rw [e] at e'
     cases e'
     exact ⟨block_lt_of_cell hc,by omega,fun q=>by have:=(HR.out.1.1.ge b q).2;omega⟩⟩)
    have HI7:=kp (fun (Y:World) (hY:Below V.heap.size V Y) (A7:Option Addr) (c7:Nat) (h1:VdsAt Y A7 (innerT n j vis)) (h2:SlOk A7 (innerT n j vis).length c7) (h3:(∀ b o,A7=some ⟨b,o,none⟩→V.heap.size≤b)∨(A7=Ae∧innerT n j vis=vis))=>show VdsO Y FB uj A7 (innerT n j vis) c7 from ⟨h1,h2,fun b o e hl=>by
     rcases h3 with h3 | ⟨h3,h4⟩
     ·have hz:=HNW.out.size
      have hg:=h3 b o e
      have hb:=HFZ.out
      obtain ⟨b',o',e',_,hc,_⟩:=h1.at_ (k:=0) hl
      rw [e] at e'
      cases e'
      exact ⟨block_lt_of_cell hc,by omega,fun q=>by have:=(HR.out.1.1.ge b q).2;omega⟩
     ·rw [h4] at hl
      obtain ⟨q1,q2,q3⟩:=HXW.out.2.2.2.2.o b o (h3▸e) hl
      exact ⟨Nat.lt_of_lt_of_le q1 (Nat.le_trans HNW.out.size hY.size),q2,q3⟩⟩)
    have HRP:=kp (fun (Y:World) (hY:Below V.heap.size V Y) (A8 A7:Option Addr) (c8 c7:Nat) (hI8:IntO Y FB uj A8 (l++[(j:Int)]) c8) (hI7:VdsO Y FB uj A7 (innerT n j vis) c7)=>
     have hq:=bls HNW.out HNW.out.size hY
     show Calls Tryz.prog 55 #[.agg (pgC P Av Ap Am cv cp cm),.agg #[.int .u8 n.kids[j].kind,.int .i64 n.kids[j].num,.string n.kids[j].name,.slice A' n.kids[j].kids.length cap'],.slice A8 (l.length+1) c8,.slice A7 (innerT n j vis).length c7,.func (.func f) #[] caps] Y (RepP FB BT uj (kj+vcT P n.kids[j] (innerT n j vis)) Y) from by
      have h:=HIH.out n.kids[j] (List.getElem_mem hin) (l++[(j:Int)]) (innerT n j vis) Av Ap Am A' A8 A7 cv cp cm cap' c8 c7 Y uj kj ⟨bls HXW.out.1 HXW.out.1.size hq,HA.out.1.fb,HR.out.1.1.below hq,HRV.out.keep wr Y uj uj HXW.out.2.2.1 (Fr.of_below hq _) (NwF.refl _ _),HA.out.1.p,HKK.out⟩ hI8 hI7 (by have:=HA.out.2.2.2.1;simp;omega) (by have:=HA.out.2.2.2.2.1;omega) (by have:=HA.out.2.2.2.2.2;have h:=HR.out.2;rw [HEQ.out] at h;omega)
      rw [List.length_append,List.length_singleton] at h
      exact h)
    have KB2:=kp (fun (Y Z:World) (e:Ending) (hY:Below V.heap.size V Y) (k9:Nat) (h9:RepP FB BT uj k9 Y e Z)=>
     have hq:=bls HNW.out HNW.out.size hY
     have hs:=HR.out.1.step hq h9
     show e=.returned (.tuple #[])∧∃ u2,VsNow FB BT W u k9 Z u2∧Z.cell? ⟨w.heap.size,0,none⟩=some (.slice Av P.vars.length cv)∧Z.cell? ⟨w.heap.size,1,none⟩=some (.slice Ap P.procs.length cp)∧Z.cell? ⟨w.heap.size,2,none⟩=some (.int .u8 P.main.kind)∧Z.cell? ⟨w.heap.size,3,none⟩=some (.int .i64 P.main.num)∧Z.cell? ⟨w.heap.size,4,none⟩=some (.string P.main.name)∧Z.cell? ⟨w.heap.size,5,none⟩=some (.slice Am P.main.kids.length cm)∧Z.cell? ⟨w.heap.size+1,0,none⟩=some (.int .u8 n.kind)∧Z.cell? ⟨w.heap.size+1,1,none⟩=some (.int .i64 n.num)∧Z.cell? ⟨w.heap.size+1,2,none⟩=some (.string n.name)∧Z.cell? ⟨w.heap.size+1,3,none⟩=some (.slice (some ⟨bk,ok,none⟩) n.kids.length ck)∧Z.cell? ⟨wr.heap.size,0,none⟩=some (.int .u8 n.kids[j].kind)∧Z.cell? ⟨wr.heap.size,1,none⟩=some (.int .i64 n.kids[j].num)∧Z.cell? ⟨wr.heap.size,2,none⟩=some (.string n.kids[j].name)∧Z.cell? ⟨wr.heap.size,3,none⟩=some (.slice A' n.kids[j].kids.length cap') from by
      obtain ⟨e1,u2,h2⟩:=hs
      obtain ⟨_,u',_,fr,_⟩:=h9
      obtain ⟨c0,c1,c2,c3,c4,c5,c6,c7,c8,c9⟩:=KB.out _ _ _ h2
      have hno:¬ HsF FB uj wr.heap.size:=fun e=>by
       rcases e with e | e
       ·have h1:=HR.out.1.1.lt;have h2:=HR.out.1.1.b;omega
       ·have h1:=(HR.out.1.1.ge _ e.symm).2;omega
      exact ⟨e1,u2,h2,c0,c1,c2,c3,c4,c5,c6,c7,c8,c9,fr.cell (blc hY v0) hno,fr.cell (blc hY v1) hno,fr.cell (blc hY v2) hno,fr.cell (blc hY v3) hno⟩)
    go_region_held3 (fun w'=>w'.cell? ⟨w.heap.size,0,none⟩=some (.slice Av P.vars.length cv)∧w'.cell? ⟨w.heap.size,1,none⟩=some (.slice Ap P.procs.length cp)∧w'.cell? ⟨w.heap.size,2,none⟩=some (.int .u8 P.main.kind)∧w'.cell? ⟨w.heap.size,3,none⟩=some (.int .i64 P.main.num)∧w'.cell? ⟨w.heap.size,4,none⟩=some (.string P.main.name)∧w'.cell? ⟨w.heap.size,5,none⟩=some (.slice Am P.main.kids.length cm)∧w'.cell? ⟨w.heap.size+1,0,none⟩=some (.int .u8 n.kind)∧w'.cell? ⟨w.heap.size+1,1,none⟩=some (.int .i64 n.num)∧w'.cell? ⟨w.heap.size+1,2,none⟩=some (.string n.name)∧w'.cell? ⟨w.heap.size+1,3,none⟩=some (.slice (some ⟨bk,ok,none⟩) n.kids.length ck)∧w'.cell? ⟨wr.heap.size,0,none⟩=some (.int .u8 n.kids[j].kind)∧w'.cell? ⟨wr.heap.size,1,none⟩=some (.int .i64 n.kids[j].num)∧w'.cell? ⟨wr.heap.size,2,none⟩=some (.string n.kids[j].name)∧w'.cell? ⟨wr.heap.size,3,none⟩=some (.slice A' n.kids[j].kids.length cap'))
     (first | exact S9.out | exact S8.out | exact S7.out | exact S6.out | trivial)
     (first
     | (go_simp;go_at_call 87;(with_reducible refine Calls.mono (HCH.out V.drew (bld hbP)) ?_);rintro e w8 ⟨A8,c8,rfl,hi8,hs8,hb8,hg8⟩;have H8:=kp (bls (bld hbP) hVD hb8);have HI8B:=kp (HI8.out w8 H8.out A8 c8 hi8 hs8 fun b o e=>hg8 b o e);have S8:=kp (KS2.out w8 H8.out);clear hb8 hi8 hs8;dsimp only)
     | (go_simp;go_at_call 89;(with_reducible refine Calls.mono (HIN.out w8 H8.out) ?_);rintro e w7 ⟨A7,c7,rfl,hi7,hs7,hb7,hg7⟩;have H7:=kp (bls H8.out H8.out.size hb7);have HI7B:=kp (HI7.out w7 H7.out A7 c7 hi7 hs7 (hg7.imp (fun h b o e=>Nat.le_trans H8.out.size (h b o e)) id));have HI8C:=kp (HI8.out w7 H7.out A8 c8 (HI8B.out.v.mono hb7) HI8B.out.s hg8);have S7:=kp (KS2.out w7 H7.out);clear hi7 hs7 hb7 hg7;dsimp only)
     | (go_simp;(with_reducible refine Calls.mono (HRP.out w7 H7.out A8 A7 c8 c7 HI8C.out HI7B.out) ?_);rintro e w6 h6;obtain ⟨rfl,u6,h6⟩:=KB2.out _ _ _ H7.out _ h6;have HZ6:=kp h6.1;have S6:=kp h6.2;clear h6;dsimp only)
     | fail)
    all_goals
     go_wp2_with fail
     exact ⟨⟨j+1,kj+vcT P n.kids[j] (innerT n j vis),u6,by omega,rfl,kp ⟨HZ6.out,by have h:=HR.out.2;rw [HEQ.out] at h;omega⟩⟩,by simp [intOf];omega⟩
   ·have HE:=kp (show RepP FB BT u (k+vcT P n vis) w (.returned (.tuple #[])) wr by
     have h:=HR.out.2
     rw [List.drop_of_length_le (by omega),vcTL,Nat.add_zero] at h
     have h1:=HR.out.1
     rw [h] at h1
     exact ⟨rfl,uj,h1.1,(Fr.of_below HT.out.1 _).trans h1.2.1 fun _ _ e=>e,fun g hg=>(h1.2.2 g hg).imp id fun q=>Nat.le_trans HT.out.1.size q⟩)
    have r1:¬ (j:Int)<n.kids.length:=by omega
    go_wp2_with fail
    go_end0
    exact HE.out
mutual
def szT:Nd→Nat
 | .mk _ _ _ kids=>szL kids+1
def szL:List Nd→Nat
 | []=>0
 | x::r=>szT x+szL r
end
theorem szT_eq (x:Nd):szT x=szL x.kids+1:=by cases x;rw [szT];rfl
theorem dpT_eq (x:Nd):dpT x=dpL x.kids+1:=by cases x;rw [dpT];rfl
theorem szT_pos (x:Nd):1≤szT x:=by rw [szT_eq];omega
theorem szL_mem {x:Nd}:∀ {l:List Nd},x∈l→szT x≤szL l
 | [],h=>by cases h
 | y::r,h=>by
   rw [szL]
   rcases List.mem_cons.1 h with rfl | h
   ·omega
   ·have:=szL_mem h;omega
theorem szL_len:∀ l:List Nd,l.length≤szL l
 | []=>Nat.le_refl _
 | x::r=>by rw [szL,List.length_cons];have:=szT_pos x;have:=szL_len r;omega
theorem szT_kid {n x:Nd} (h:x∈n.kids):szT x<szT n:=by rw [szT_eq n];have:=szL_mem h;omega
mutual
theorem limT_sz:∀ (x:Nd) (d m:Nat),(limT x d m).1=true→szT x+(limT x d m).2≤m∧dpT x≤d
 | .mk k nu nm kids,d,m,h=>by
   rw [limT] at h ⊢
   by_cases h0:d=0∨m=0
   ·rw [if_pos h0] at h;cases h
   ·rw [if_neg h0] at h ⊢
    obtain ⟨h1,h2⟩:=limTL_sz kids (d - 1) (m - 1) h
    rw [szT,dpT]
    omega
theorem limTL_sz:∀ (l:List Nd) (d m:Nat),(limTL l d m).1=true→szL l+(limTL l d m).2≤m∧dpL l≤d
 | [],d,m,_=>by rw [limTL,szL,dpL];exact ⟨by show 0+m≤m;omega,Nat.zero_le _⟩
 | x::r,d,m,h=>by
   rw [limTL] at h ⊢
   by_cases hx:(limT x d m).1=true
   ·rw [if_pos hx] at h ⊢
    obtain ⟨h1,h2⟩:=limT_sz x d m hx
    obtain ⟨h3,h4⟩:=limTL_sz r d _ h
    rw [szL,dpL]
    omega
   ·rw [if_neg hx] at h;cases h
end
theorem er1_le (e:Int):er1 e≤1:=by unfold er1;split<;>omega
theorem argsN_le (P:Pg) (n:Nd) (vis:List Vd):∀ (m i:Nat),argsN P n vis i m≤m
 | 0,_=>Nat.le_refl _
 | m+1,i=>by rw [argsN];have:=er1_le (argR P n i vis);have:=argsN_le P n vis m (i+1);omega
mutual
theorem vcT_le (P:Pg):∀ (x:Nd) (vis:List Vd),vcT P x vis≤szT x
 | .mk k nu nm kids,vis=>by
   rw [vcT,szT]
   have h1:=er1_le (fltR P (.mk k nu nm kids) vis)
   by_cases hk:k=50∨k=51
   ·rw [if_pos hk]
    have:=argsN_le P (.mk k nu nm kids) vis kids.length 0
    have:=szL_len kids
    omega
   ·rw [if_neg hk]
    have:=vcTL_le P k nm kids 0 vis
    omega
theorem vcTL_le (P:Pg) (k:Nat) (nm:ByteArray):∀ (l:List Nd) (i:Nat) (vis:List Vd),vcTL P k nm l i vis≤szL l
 | [],_,_=>by rw [vcTL];exact Nat.zero_le _
 | x::r,i,vis=>by
   rw [vcTL,szL]
   have:=vcT_le P x (innerT (.mk k 0 nm []) i vis)
   have:=vcTL_le P k nm r (i+1) vis
   omega
end
def declN (l:List Vd):Nat→Nat
 | 0=>0
 | k+1=>declN l k+match l[k]? with | some v=>er1 (freshR (l.take k) v.name) | none=>0
theorem declN_le (l:List Vd):∀ k,declN l k≤k
 | 0=>Nat.le_refl _
 | k+1=>by
   rw [declN]
   have:=declN_le l k
   split
   ·rename_i v _
    have:=er1_le (freshR (l.take k) v.name)
    omega
   ·omega
theorem declN_at (l:List Vd) {k:Nat} (h:k<l.length):declN l (k+1)=declN l k+er1 (freshR (l.take k) l[k].name):=by
 rw [declN,List.getElem?_eq_getElem h]
def pcN (P:Pg) (k:Nat) (p:Pc):Nat:=(if pidx p.name P.procs 0<(k:Int) then 1 else 0)+declN p.params p.params.length+vcT P p.body p.params
def procN (P:Pg):Nat→Nat
 | 0=>0
 | k+1=>procN P k+match P.procs[k]? with | some p=>pcN P k p | none=>0
theorem procN_at (P:Pg) {k:Nat} (h:k<P.procs.length):procN P (k+1)=procN P k+pcN P k P.procs[k]:=by
 rw [procN,List.getElem?_eq_getElem h]
def chkN (P:Pg):Nat:=declN P.vars P.vars.length+procN P P.procs.length+vcT P P.main P.vars
structure BodyBnd (x:Nd):Prop where
 s:szT x≤2000
 d:dpT x≤80
 b:isBlT x=true
theorem body_bnd {x:Nd} (h:bodyB x=true):BodyBnd x:=by
 unfold bodyB at h
 rw [Bool.and_eq_true] at h
 obtain ⟨h1,h2⟩:=limT_sz x 80 2000 h.1
 exact ⟨by omega,h2,h.2⟩
structure ValBnd (P:Pg):Prop where
 lv:P.vars.length≤32
 lp:P.procs.length≤64
 v:P.vars.all vdB=true
 p:∀ q∈P.procs,lnmB q.name=true∧q.params.length≤8∧q.params.all vdB=true∧BodyBnd q.body
 m:BodyBnd P.main
theorem val_bnd {P:Pg} (h:validB P=true):ValBnd P:=by
 unfold validB at h
 simp only [Bool.and_eq_true,decide_eq_true_eq] at h
 obtain ⟨⟨⟨⟨h1,h2⟩,h3⟩,h4⟩,h5⟩:=h
 refine ⟨h1,h2,h3,fun q hq=>?_,body_bnd h5⟩
 have:=List.all_eq_true.1 h4 q hq
 unfold pcB at this
 simp only [Bool.and_eq_true,decide_eq_true_eq] at this
 obtain ⟨⟨⟨g1,g2⟩,g3⟩,g4⟩:=this
 exact ⟨g1,g2,g3,body_bnd g4⟩
theorem pcN_le {P:Pg} (h:ValBnd P) {k:Nat} (hk:k<P.procs.length):pcN P k P.procs[k]≤2009:=by
 obtain ⟨_,h2,_,h4⟩:=h.p _ (List.getElem_mem hk)
 unfold pcN
 have:=declN_le P.procs[k].params P.procs[k].params.length
 have:=vcT_le P P.procs[k].body P.procs[k].params
 have:=h4.s
 split<;>omega
theorem procN_le {P:Pg} (h:ValBnd P):∀ k,k≤P.procs.length→procN P k≤k*2009
 | 0,_=>Nat.le_refl _
 | k+1,hk=>by
   rw [procN_at P hk]
   have:=procN_le h k (by omega)
   have:=pcN_le h (k:=k) hk
   omega
theorem chkN_le {P:Pg} (h:ValBnd P):chkN P≤200000:=by
 unfold chkN
 have h1:=declN_le P.vars P.vars.length
 have h2:=procN_le h P.procs.length (Nat.le_refl _)
 have h3:=vcT_le P P.main P.vars
 have h4:=h.m.s
 have h5:=h.lv
 have h6:=h.lp
 have:P.procs.length*2009≤64*2009:=Nat.mul_le_mul_right _ h6
 omega
end Go.Proofs.YtgbomnibedefoaaGreatDoor
