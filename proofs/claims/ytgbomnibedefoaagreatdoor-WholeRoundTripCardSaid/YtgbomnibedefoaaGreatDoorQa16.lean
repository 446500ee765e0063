import Derived.Laws.EntriesVeiled
import Derived.Test.YtgbomnibedefoaaGreatDoorQa15
set_option maxRecDepth 100000
set_option maxHeartbeats 8000000
namespace Go.Proofs.YtgbomnibedefoaaGreatDoor
open Go.ChangeShapes Go.WideShapes Go.ChangeAt Go.RowKit Go.Sort
theorem vis_all (P:Pg) (hl:P.procs.length≤9223372036854775807) {W0:World} {FB BT f:Nat} {C:World→Value→Prop} {caps:Array Value} (hR:RepV f caps FB BT C):∀ (N:Nat) (n:Nd),szT n≤N→N≤100000→VisC P W0 FB BT C f caps n:=by
 intro N
 induction N with
 | zero=>intro n hn;have:=szT_pos n;omega
 | succ N ih=>
   intro n hn hN
   have hk:n.kids.length≤1000000:=by have:=szL_len n.kids;have:=szT_eq n;omega
   by_cases h:n.kind=50∨n.kind=51
   ·exact vis_call P hl hR hk h
   ·exact vis_kids P hl hR hk h fun x hx=>ih x (by have:=szT_kid hx;omega) (by omega)
def nilF:Value:=.slice none 0 0
structure VsB (FB BT:Nat) (W:World) (k:Nat) (wr:World) (u:Value) (L:List (Nat × Array Value)):Prop where
 now:VsNow FB BT W nilF k wr u
 bx:∀ p∈L,Bx wr p.1 p.2∧Out FB wr u p.1
theorem VsB.step {FB BT k0 k':Nat} {W wr wm w':World} {u:Value} {L:List (Nat × Array Value)} {e:Ending} (h:VsB FB BT W k0 wr u L) (hb:Below wr.heap.size wr wm) (h2:RepP FB BT u k' wm e w'):e=.returned (.tuple #[])∧∃ u2,VsB FB BT W k' w' u2 L:=by
 obtain ⟨e1,u2,a,b,c⟩:=h2
 subst e1
 have hs:=h.now.2.1.size
 have hs2:=hb.size
 have hq:Fr wr w' (HsF FB u):=(Fr.of_below hb _).trans b fun j _ e=>e
 have hc:NwF wr u u2:=fun g hg=>(c g hg).imp id fun q=>by omega
 refine ⟨rfl,u2,⟨a,?_,h.now.2.2.trans hc hs⟩,fun p hp=>?_⟩
 ·refine h.now.2.1.trans hq fun j hj e=>?_
  rcases e with e | e
  ·exact .inl e
  ·rcases h.now.2.2 j e.symm with q | q
   ·exact .inr q.symm
   ·omega
 ·obtain ⟨h1,h3⟩:=h.bx p hp
  exact ⟨h1.fr hq h3.not,h3.keep hq hc⟩
theorem VsB.below {FB BT k:Nat} {W wr wm:World} {u:Value} {L:List (Nat × Array Value)} (h:VsB FB BT W k wr u L) (hb:Below wr.heap.size wr wm):VsB FB BT W k wm u L:=
 ⟨⟨h.now.1.below hb,h.now.2.1.trans (Fr.of_below hb _) fun _ _ e=>e,h.now.2.2⟩,fun p hp=>⟨(h.bx p hp).1.below hb,(h.bx p hp).2.keep (Fr.of_below hb _) (NwF.refl _ _)⟩⟩
theorem VsB.alloc {FB BT k:Nat} {W wr:World} {u:Value} {L:List (Nat × Array Value)} (h:VsB FB BT W k wr u L) (cs:Array Value) (T:TypeId):VsB FB BT W k (wr.alloc (Obj.cells cs T)) u ((wr.heap.size,cs)::L):=by
 have hb:=blb wr (Obj.cells cs T)
 refine ⟨(h.below hb).now,fun p hp=>?_⟩
 rcases List.mem_cons.1 hp with rfl | hp
 ·refine ⟨bxn _ _ _,by simp,fun e=>?_,fun e=>?_⟩
  ·have h1:wr.heap.size=FB:=e
   have:=h.now.1.lt;have:=h.now.1.b;omega
  ·have:=(h.now.1.ge _ e).2;simp at this
 ·exact (h.below hb).bx p hp
theorem VsB.get {FB BT k:Nat} {W wr:World} {u:Value} {L:List (Nat × Array Value)} (h:VsB FB BT W k wr u L) {b:Nat} {cs:Array Value} (hm:(b,cs)∈L):Bx wr b cs:=(h.bx (b,cs) hm).1
theorem VsB.out {FB BT k:Nat} {W wr:World} {u:Value} {L:List (Nat × Array Value)} (h:VsB FB BT W k wr u L) {b:Nat} {cs:Array Value} (hm:(b,cs)∈L):Out FB wr u b:=(h.bx (b,cs) hm).2
theorem VsB.drop {FB BT k:Nat} {W wr:World} {u:Value} {L L':List (Nat × Array Value)} (h:VsB FB BT W k wr u L) (hs:∀ p∈L',p∈L):VsB FB BT W k wr u L':=⟨h.now,fun p hp=>h.bx p (hs p hp)⟩
theorem VsB.w0 {FB BT k:Nat} {W0 W wr:World} {u:Value} {L:List (Nat × Array Value)} (h:VsB FB BT W k wr u L) (hb:Below W0.heap.size W0 W) (hF:W0.heap.size≤FB):Below W0.heap.size W0 wr:=h.now.2.1.toBelow hb hb.size fun j e=>by
 rcases e with e | e
 ·omega
 ·cases e
theorem VdsAt.take {w:World} {A:Option Addr} {l:List Vd} (h:VdsAt w A l) (k:Nat):VdsAt w A (l.take k):=fun j x hx=>by
 rw [List.getElem?_take] at hx
 split at hx
 ·exact h j x hx
 ·cases hx
theorem ints_nil (w:World):IntsAt w none []:=fun k x h=>by simp at h
theorem ints_oneN {w:World} {b:Nat} {i:Int} (h:w.cell? ⟨b,0,none⟩=some (.int .i64 i)):IntsAt w (some ⟨b,0,none⟩) [i]:=fun k x hk=>by
 cases k with
 | zero=>cases hk;exact ⟨b,0,rfl,h⟩
 | succ k=>cases hk
abbrev qC (q:Pc) (Aq Ak:Option Addr) (cq ck:Nat):Array Value:=#[.string q.name,.slice Aq q.params.length cq,.int .u8 q.body.kind,.int .i64 q.body.num,.string q.body.name,.slice Ak q.body.kids.length ck]
abbrev rbC (FB:Nat):Array Value:=#[.func (.func 51) #[] #[.pointer (some ⟨FB,0,none⟩)]]
def ChkP (k:Nat) (w:World) (e:Ending) (w':World):Prop:=∃ A c,e=.returned (.slice A k c)∧Below w.heap.size w w'
theorem scheck_any (P:Pg) (hf:PgFit P) (Av Ap Am:Option Addr) (cv cp cm:Nat) (w:World) (hK:PgAt w Av Ap Am P) (hS:SlOk Av P.vars.length cv) :
  Calls Tryz.prog 24 #[.agg (pgC P Av Ap Am cv cp cm)] w (ChkP (if validB P then chkN P else 0) w):=by
 have HB:=kp (blb w (Obj.cells (pgC P Av Ap Am cv cp cm) 28))
 have HRX:=kp (bxn w (pgC P Av Ap Am cv cp cm) 28)
 have HK:=kp (hK.mono HB.out)
 have HF:=kp hf
 have HS:=kp hS
 clear hK hf hS
 have HV:=kp (fun (V:World) (h:PgAt V Av Ap Am P)=>valid_any P HF.out Av Ap Am cv cp cm V h)
 by_cases hv:validB P=true
 rotate_left
 ·rw [if_neg hv]
  have hv':validB P=false:=by simpa using hv
  clear hv
  go_enter Tryz.func24,Tryz.ntmps24
  go_upto_region 1 with fail
  generalize w.alloc _=W at HB HRX HK ⊢
  obtain ⟨a0,a1,a2,a3,a4,a5⟩:=HRX.out.six1
  have hla:=HRX.out.lt
  have HC:=kp (HV.out W HK.out)
  go_wp2_with fail
  refine HC.out.mono ?_
  rintro e w1 ⟨rfl,hb⟩
  rw [hv']
  have HN:=kp (show ChkP 0 w (.returned (.slice none 0 0)) w1 from ⟨none,0,rfl,bls HB.out HB.out.size hb⟩)
  clear hb
  go_wp2_with fail
  go_ret
  exact HN.out
 ·rw [if_pos hv]
  have HX:=kp (val_bnd hv)
  have hlv:=HX.out.lv
  have hlpp:=HX.out.lp
  have hmf:∀ (fn:Fn) (first cap:Array Value) (w:World),(Instr.makeFunc fn first cap).run Tryz.prog w=.ok (.func fn first cap) w:=fun _ _ _ _=>rfl
  go_enter Tryz.func24,Tryz.ntmps24
  go_upto_region 1 with fail
  generalize w.alloc _=W at HB HRX HK ⊢
  obtain ⟨a0,a1,a2,a3,a4,a5⟩:=HRX.out.six1
  have hla:=HRX.out.lt
  have HC:=kp (HV.out W HK.out)
  go_wp2_with fail
  refine HC.out.mono ?_
  rintro e w1 ⟨rfl,hb⟩
  rw [hv]
  have HB1:=kp (bls HB.out HB.out.size hb)
  have HR1:=kp (HRX.out.below hb)
  have HK1:=kp (HK.out.mono hb)
  have hlt1:w.heap.size<w1.heap.size:=HR1.out.lt
  clear hb a0 a1 a2 a3 a4 a5 hla
  have HT:=kp (tw2 w1 #[.slice none 0 0] #[.func (.func 51) #[] #[.pointer (some ⟨w1.heap.size,0,none⟩)]] 56 96)
  have hsz:((w1.alloc (Obj.cells #[.slice none 0 0] 56)).alloc (Obj.cells #[.func (.func 51) #[] #[.pointer (some ⟨w1.heap.size,0,none⟩)]] 96)).heap.size=w1.heap.size+2:=by simp
  go_upto_region 5 with fail
  generalize (w1.alloc _).alloc _=W at HT hsz ⊢
  have HL0:=kp (show VsB w1.heap.size (w1.heap.size+2) W 0 W nilF [(w.heap.size,pgC P Av Ap Am cv cp cm),(w1.heap.size+1,rbC w1.heap.size)] from
   ⟨⟨⟨HT.out.2.1,⟨[],⟨by show 0*4=_;rfl,.inl ⟨rfl,rfl⟩⟩⟩,by omega,by omega⟩,Fr.refl _ _,NwF.refl _ _⟩,fun p hp=>by
     simp only [List.mem_cons,List.not_mem_nil,or_false] at hp
     rcases hp with rfl | rfl
     ·exact ⟨HR1.out.below HT.out.1,by show w.heap.size<_;omega,by show w.heap.size≠_;omega,fun e=>by cases e⟩
     ·exact ⟨HT.out.2.2,by show w1.heap.size+1<_;omega,by show w1.heap.size+1≠_;omega,fun e=>by cases e⟩⟩)
  have HW1:=kp (fun (k:Nat) (Y:World) (u:Value) (L:List (Nat × Array Value)) (h:VsB w1.heap.size (w1.heap.size+2) W k Y u L)=>show Below w1.heap.size w1 Y from h.w0 HT.out.1 (Nat.le_refl _))
  have HPB:=kp (HL0.out.get (b:=w.heap.size) (cs:=pgC P Av Ap Am cv cp cm) (by simp))
  obtain ⟨a0,a1,a2,a3,a4,a5⟩:=HPB.out.six1
  have hla:=HPB.out.lt
  go_wp2_with fail
  generalize hFB:w1.heap.size=FB at *
  have HBW:=kp (fun (k:Nat) (Y:World) (u:Value) (L:List (Nat × Array Value)) (h:VsB FB (FB+2) W k Y u L)=>show Below w1.heap.size w1 Y from hFB▸HW1.out k Y u L h)
  go_loopw [18] (fun i wr=>∃ (j kj:Nat) (uj:Value),j≤P.vars.length∧i=.int .i64 j∧Hid (VsB FB (FB+2) W kj wr uj [(w.heap.size,pgC P Av Ap Am cv cp cm),(FB+1,rbC FB)]∧kj=declN P.vars j)) (fun i _=>P.vars.length - (intOf i).toNat)
  case atStart=>exact ⟨0,0,nilF,by omega,rfl,kp ⟨HL0.out,rfl⟩⟩
  case round=>
   obtain ⟨j,kj,uj,hj,rfl,HR⟩:=hrel
   clear a0 a1 a2 a3 a4 a5 hla
   have HPB:=kp (HR.out.1.get (b:=w.heap.size) (cs:=pgC P Av Ap Am cv cp cm) (by simp))
   obtain ⟨a0,a1,a2,a3,a4,a5⟩:=HPB.out.six1
   have hla:=HPB.out.lt
   by_cases hin:j<P.vars.length
   ·have HKR:=kp (HK1.out.mono (HBW.out _ _ _ _ HR.out.1))
    obtain ⟨bk,ok,rfl,hbk,k0,k1,k2⟩:=HKR.out.v.at_ hin
    have r0:(0:Int)≤j:=by omega
    have r1:(j:Int)<P.vars.length:=by omega
    have HLN:=kp (HR.out.1.alloc #[.string P.vars[j].name,.int .u8 P.vars[j].kind,.int .i64 P.vars[j].len] 62)
    have hsW:(wr.alloc (Obj.cells #[.string P.vars[j].name,.int .u8 P.vars[j].kind,.int .i64 P.vars[j].len] 62)).heap.size=wr.heap.size+1:=by simp
    go_upto_region 8 with fail
    generalize wr.alloc _=V at HLN hsW ⊢
    have hbP:=Below.refl V.heap.size V
    have hVD:V.heap.size≤V.drew.heap.size:=(bld hbP).size
    have HKV:=kp (HK1.out.mono (HBW.out _ _ _ _ HLN.out))
    have hcp:=HS.out.1
    have r2:(j:Int)≤P.vars.length:=by omega
    have r3:(j:Int)≤cv:=by omega
    have KQ:=kp (fun (k:Nat) (Y:World) (u:Value) (h:VsB FB (FB+2) W k Y u [(wr.heap.size,#[.string P.vars[j].name,.int .u8 P.vars[j].kind,.int .i64 P.vars[j].len]),(w.heap.size,pgC P (some ⟨bk,ok,none⟩) Ap Am cv cp cm),(FB+1,rbC FB)])=>show Y.cell? ⟨w.heap.size,0,none⟩=some (.slice (some ⟨bk,ok,none⟩) P.vars.length cv)∧Y.cell? ⟨FB+1,0,none⟩=some (.func (.func 51) #[] #[.pointer (some ⟨FB,0,none⟩)])∧Y.cell? ⟨wr.heap.size,0,none⟩=some (.string P.vars[j].name) from
     ⟨(h.get (b:=w.heap.size) (cs:=pgC P _ Ap Am cv cp cm) (by simp)).cell rfl,(h.get (b:=FB+1) (cs:=rbC FB) (by simp)).cell rfl,(h.get (b:=wr.heap.size) (cs:=#[.string P.vars[j].name,.int .u8 P.vars[j].kind,.int .i64 P.vars[j].len]) (by simp)).cell rfl⟩)
    have KS:=kp (fun (Y:World) (hY:Below V.heap.size V Y)=>KQ.out _ Y _ (HLN.out.below hY))
    have S9:=kp (KS.out V.drew (bld hbP))
    have htl:(P.vars.take j).length=j:=by rw [List.length_take];omega
    have HFR:=kp (fun (Y:World) (hY:Below V.heap.size V Y)=>show Calls Tryz.prog 53 #[.slice (some ⟨bk,ok,none⟩) j cv,.string P.vars[j].name] Y fun e w'=>e=.returned (.int .i64 (freshR (P.vars.take j) P.vars[j].name))∧Below Y.heap.size Y w' from by
     have h:=fresh_any (P.vars.take j) (by rw [htl];have:=HX.out.lv;omega) P.vars[j].name (some ⟨bk,ok,none⟩) cv Y ((HKV.out.v.mono hY).take j)
     rw [htl] at h
     exact h)
    have HRP:=kp (fun (Y:World) (hY:Below V.heap.size V Y) (A8:Option Addr) (c8:Nat) (h:IntsAt Y A8 [(j:Int)])=>show Calls Tryz.prog 51 #[.int .i64 (-1),.slice A8 1 c8,.string P.vars[j].name,.int .i64 (freshR (P.vars.take j) P.vars[j].name),.pointer (some ⟨FB,0,none⟩)] Y (RepP FB (FB+2) uj (declN P.vars (j+1)) Y) from by
     have h1:=report_any (-1) (freshR (P.vars.take j) P.vars[j].name) [(j:Int)] P.vars[j].name (by simp) (HLN.out.below hY).now.1 (by have:=declN_le P.vars j;have:=HX.out.lv;have:=HR.out.2;omega) A8 c8 h
     rw [declN_at P.vars hin,← HR.out.2]
     exact h1)
    have KB2:=kp (fun (Y Z:World) (e:Ending) (hY:Below V.heap.size V Y) (h9:RepP FB (FB+2) uj (declN P.vars (j+1)) Y e Z)=>(HLN.out.step hY h9))
    have hbA:Below V.heap.size V (V.alloc (Obj.cells #[.int .i64 (j:Int)] 3)).drew:=bld (blb V _)
    have HIA:=kp (show (V.alloc (Obj.cells #[.int .i64 (j:Int)] 3)).drew.cell? ⟨wr.heap.size+1,0,none⟩=some (.int .i64 (j:Int)) from by rw [← hsW];exact (bxn V #[.int .i64 (j:Int)] 3).cell rfl)
    have S7:=kp (KS.out _ hbA)
    go_region_held3 (fun w'=>w'.cell? ⟨w.heap.size,0,none⟩=some (.slice (some ⟨bk,ok,none⟩) P.vars.length cv)∧w'.cell? ⟨FB+1,0,none⟩=some (.func (.func 51) #[] #[.pointer (some ⟨FB,0,none⟩)])∧w'.cell? ⟨wr.heap.size,0,none⟩=some (.string P.vars[j].name))
     (first | exact S9.out | exact S8.out | exact S7.out | exact S6.out | exact S5.out | (refine KS.out _ ?_;(repeat first | exact hbP | exact H8.out | exact H5.out | refine bld ?_ | refine Below.alloc ?_ (by first | exact Nat.le_refl _ | exact hbP.size | exact H8.out.size | exact H5.out.size | simp) _);done) | trivial)
     (first
     | (go_simp;go_at_call 53;(with_reducible refine Calls.mono (HFR.out _ hbA) ?_);rintro e w8 ⟨rfl,hb8⟩;have H8:=kp (bls hbA hbA.size hb8);have HI8:=kp ((ints_oneN HIA.out).mono hb8);have S8:=kp (KS.out w8 H8.out);clear hb8;dsimp only)
     | (go_simp;go_at_call 53;(with_reducible refine Calls.mono (HFR.out V.drew (bld hbP)) ?_);rintro e w5 ⟨rfl,hb5⟩;have H5:=kp (bls (bld hbP) hVD hb5);have S5:=kp (KS.out w5 H5.out);clear hb5;dsimp only)
     | (go_simp;(with_reducible refine Calls.mono (HRP.out w8 H8.out _ _ HI8.out) ?_);rintro e w6 h6;obtain ⟨rfl,u6,h6⟩:=KB2.out _ _ _ H8.out h6;have HZ6:=kp h6;have S6:=kp (KQ.out _ _ _ h6);clear h6;dsimp only)
     | (go_simp;(with_reducible refine Calls.mono (HRP.out (w5.alloc _) (H5.out.alloc H5.out.size _) _ _ (ints_oneN ((bxn w5 #[.int .i64 (j:Int)] 3).cell rfl))) ?_);rintro e w6 h6;obtain ⟨rfl,u6,h6⟩:=KB2.out _ _ _ (H5.out.alloc H5.out.size _) h6;have HZ6:=kp h6;have S6:=kp (KQ.out _ _ _ h6);clear h6;dsimp only)
     | fail)
    all_goals
     go_wp2_with fail
     exact ⟨⟨j+1,_,u6,by omega,rfl,kp ⟨HZ6.out.drop (by simp),rfl⟩⟩,by simp [intOf];omega⟩
   ·obtain rfl:j=P.vars.length:=by omega
    have HR:=kp (show VsB FB (FB+2) W (declN P.vars P.vars.length) wr uj [(w.heap.size,pgC P Av Ap Am cv cp cm),(FB+1,rbC FB)] from HR.out.2▸HR.out.1)
    obtain ⟨wo,rfl⟩:∃ y,y=wr:=⟨_,rfl⟩
    go_wp2_with fail
    go_loopw [40] (fun i wr=>∃ (j kj:Nat) (uj:Value),j≤P.procs.length∧i=.int .i64 j∧Hid (VsB FB (FB+2) W kj wr uj [(w.heap.size,pgC P Av Ap Am cv cp cm),(FB+1,rbC FB)]∧kj=declN P.vars P.vars.length+procN P j)) (fun i _=>P.procs.length - (intOf i).toNat)
    case atStart=>exact ⟨0,_,uj,by omega,rfl,kp ⟨HR.out,rfl⟩⟩
    case round=>
     obtain ⟨j,kj,uj,hj,rfl,HR⟩:=hrel
     clear a0 a1 a2 a3 a4 a5 hla
     have HPB:=kp (HR.out.1.get (b:=w.heap.size) (cs:=pgC P Av Ap Am cv cp cm) (by simp))
     obtain ⟨a0,a1,a2,a3,a4,a5⟩:=HPB.out.six1
     have hla:=HPB.out.lt
     by_cases hin:j<P.procs.length
     ·have HKR:=kp (HK1.out.mono (HBW.out _ _ _ _ HR.out.1))
      have hbw:=HBW.out _ _ _ _ HR.out.1
      obtain ⟨bk,ok,Aq,cq,Ak,ck,rfl,hbk,k0,k1,k2,k3,k4,k5,hvq,hnk⟩:=HK1.out.p.at_ hin
      have HSQ:=kp (HK1.out.p.ok hin rfl k1)
      have k0:=blc hbw k0
      have k1:=blc hbw k1
      have k2:=blc hbw k2
      have k3:=blc hbw k3
      have k4:=blc hbw k4
      have k5:=blc hbw k5
      have hbk:=block_lt_of_cell k0
      have HVQ:=kp (And.intro hvq hnk)
      clear hbw hvq hnk
      have r0:(0:Int)≤j:=by omega
      have r1:(j:Int)<P.procs.length:=by omega
      have HQ0:=kp (HX.out.p _ (List.getElem_mem hin))
      generalize hq:P.procs[j]=q at *
      obtain ⟨wo,rfl⟩:∃ y,y=wr:=⟨_,rfl⟩
      have HLN:=kp (show VsB FB (FB+2) W kj ((wo.alloc (Obj.cells #[.int .i64 (j:Int)] 3)).alloc (Obj.cells (qC q Aq Ak cq ck) 91)) uj [(wo.heap.size+1,qC q Aq Ak cq ck),(wo.heap.size,#[.int .i64 (j:Int)]),(w.heap.size,pgC P Av (some ⟨bk,ok,none⟩) Am cv cp cm),(FB+1,rbC FB)] from by
       have h:=(HR.out.1.alloc #[.int .i64 (j:Int)] 3).alloc (qC q Aq Ak cq ck) 91
       rw [World.size_alloc] at h
       exact h)
      have HKJ:=kp HR.out.2
      have hsW:((wo.alloc (Obj.cells #[.int .i64 (j:Int)] 3)).alloc (Obj.cells (qC q Aq Ak cq ck) 91)).heap.size=wo.heap.size+2:=by simp
      go_upto_region 13 with fail
      generalize (wo.alloc _).alloc _=V at HLN hsW ⊢
      have hbP:=Below.refl V.heap.size V
      have hVD:V.heap.size≤V.drew.heap.size:=(bld hbP).size
      have HKV:=kp (fun (k:Nat) (Y:World) (u:Value) (L:List (Nat × Array Value)) (h:VsB FB (FB+2) W k Y u L)=>HK1.out.mono (HBW.out _ _ _ _ h))
      have KQ:=kp (fun (k:Nat) (Y:World) (u:Value) (h:VsB FB (FB+2) W k Y u [(wo.heap.size+1,qC q Aq Ak cq ck),(wo.heap.size,#[.int .i64 (j:Int)]),(w.heap.size,pgC P Av (some ⟨bk,ok,none⟩) Am cv cp cm),(FB+1,rbC FB)])=>show Y.cell? ⟨w.heap.size,0,none⟩=some (.slice Av P.vars.length cv)∧Y.cell? ⟨w.heap.size,1,none⟩=some (.slice (some ⟨bk,ok,none⟩) P.procs.length cp)∧Y.cell? ⟨w.heap.size,2,none⟩=some (.int .u8 P.main.kind)∧Y.cell? ⟨w.heap.size,3,none⟩=some (.int .i64 P.main.num)∧Y.cell? ⟨w.heap.size,4,none⟩=some (.string P.main.name)∧Y.cell? ⟨w.heap.size,5,none⟩=some (.slice Am P.main.kids.length cm)∧Y.cell? ⟨FB+1,0,none⟩=some (.func (.func 51) #[] #[.pointer (some ⟨FB,0,none⟩)])∧Y.cell? ⟨wo.heap.size,0,none⟩=some (.int .i64 (j:Int))∧Y.cell? ⟨wo.heap.size+1,0,none⟩=some (.string q.name)∧Y.cell? ⟨wo.heap.size+1,1,none⟩=some (.slice Aq q.params.length cq)∧Y.cell? ⟨wo.heap.size+1,2,none⟩=some (.int .u8 q.body.kind)∧Y.cell? ⟨wo.heap.size+1,3,none⟩=some (.int .i64 q.body.num)∧Y.cell? ⟨wo.heap.size+1,4,none⟩=some (.string q.body.name)∧Y.cell? ⟨wo.heap.size+1,5,none⟩=some (.slice Ak q.body.kids.length ck) from by
       have hp:=h.get (b:=w.heap.size) (cs:=pgC P Av (some ⟨bk,ok,none⟩) Am cv cp cm) (by simp)
       have hq:=h.get (b:=wo.heap.size+1) (cs:=qC q Aq Ak cq ck) (by simp)
       have hr:=h.get (b:=FB+1) (cs:=rbC FB) (by simp)
       have hi:=h.get (b:=wo.heap.size) (cs:=#[.int .i64 (j:Int)]) (by simp)
       exact ⟨hp.cell rfl,hp.cell rfl,hp.cell rfl,hp.cell rfl,hp.cell rfl,hp.cell rfl,hr.cell rfl,hi.cell rfl,hq.cell rfl,hq.cell rfl,hq.cell rfl,hq.cell rfl,hq.cell rfl,hq.cell rfl⟩)
      have KS:=kp (fun (Y:World) (hY:Below V.heap.size V Y)=>KQ.out _ Y _ (HLN.out.below hY))
      have S9:=kp (KS.out V.drew (bld hbP))
      have HPC:=kp (fun (Y:World) (hY:Below V.heap.size V Y)=>sproc_any P HF.out.lp q.name Av (some ⟨bk,ok,none⟩) Am cv cp cm Y ((HKV.out _ _ _ _ HLN.out).p.mono hY))
      have HPN:=kp (show procN P (j+1)=procN P j+((if pidx q.name P.procs 0<(j:Int) then 1 else 0)+declN q.params q.params.length+vcT P q.body q.params) from by rw [procN_at P hin,hq];rfl)
      have HPL:=kp (show procN P j≤j*2009 from procN_le HX.out j (by omega))
      have HDL:=kp (declN_le P.vars P.vars.length)
      clear a0 a1 a2 a3 a4 a5 hla k0 k1 k2 k3 k4 k5 hbk
      generalize hpx:pidx q.name P.procs 0=px at HPC HPN
      by_cases hx:px<(j:Int)
      all_goals
       go_region_held3 (fun w'=>w'.cell? ⟨w.heap.size,0,none⟩=some (.slice Av P.vars.length cv)∧w'.cell? ⟨w.heap.size,1,none⟩=some (.slice (some ⟨bk,ok,none⟩) P.procs.length cp)∧w'.cell? ⟨w.heap.size,2,none⟩=some (.int .u8 P.main.kind)∧w'.cell? ⟨w.heap.size,3,none⟩=some (.int .i64 P.main.num)∧w'.cell? ⟨w.heap.size,4,none⟩=some (.string P.main.name)∧w'.cell? ⟨w.heap.size,5,none⟩=some (.slice Am P.main.kids.length cm)∧w'.cell? ⟨FB+1,0,none⟩=some (.func (.func 51) #[] #[.pointer (some ⟨FB,0,none⟩)])∧w'.cell? ⟨wo.heap.size,0,none⟩=some (.int .i64 (j:Int))∧w'.cell? ⟨wo.heap.size+1,0,none⟩=some (.string q.name)∧w'.cell? ⟨wo.heap.size+1,1,none⟩=some (.slice Aq q.params.length cq)∧w'.cell? ⟨wo.heap.size+1,2,none⟩=some (.int .u8 q.body.kind)∧w'.cell? ⟨wo.heap.size+1,3,none⟩=some (.int .i64 q.body.num)∧w'.cell? ⟨wo.heap.size+1,4,none⟩=some (.string q.body.name)∧w'.cell? ⟨wo.heap.size+1,5,none⟩=some (.slice Ak q.body.kids.length ck))
        (first | exact S9.out | exact S8.out | trivial)
        (first
        | (go_simp;go_at_call 54;(with_reducible refine Calls.mono (HPC.out V.drew (bld hbP)) ?_);rintro e w8 ⟨rfl,hb8⟩;have H8:=kp (bls (bld hbP) hVD hb8);have S8:=kp (KS.out w8 H8.out);clear hb8;dsimp only)
        | fail)
       obtain ⟨a0,a1,a2,a3,a4,a5,f0,i0,b0,b1,b2,b3,b4,b5⟩:=S8.out
       have hla:=block_lt_of_cell a0
       have hlb:=block_lt_of_cell b0
       have hli:=block_lt_of_cell i0
       have hlr:=block_lt_of_cell f0
       have HZ8:=kp (HLN.out.below H8.out)
       first
       | (have hx':px<(j:Int):=hx
          have HRP:=kp (show Calls Tryz.prog 51 #[.int .i64 (j:Int),.slice none 0 0,.string q.name,.int .i64 22,.pointer (some ⟨FB,0,none⟩)] w8 (RepP FB (FB+2) uj (kj+1) w8) from report_any (j:Int) 22 [] q.name (by simp) HZ8.out.now.1 (by have:=HKJ.out;have:=HPL.out;have:=HDL.out;omega) none 0 (ints_nil w8))
          go_wp2_with fail
          refine HRP.out.mono ?_
          rintro e w6 h6
          obtain ⟨rfl,u6,h6⟩:=HZ8.out.step (Below.refl _ _) h6
          have HZ6:=kp (show VsB FB (FB+2) W (kj+if px<(j:Int) then 1 else 0) w6 u6 [(wo.heap.size+1,qC q Aq Ak cq ck),(wo.heap.size,#[.int .i64 (j:Int)]),(w.heap.size,pgC P Av (some ⟨bk,ok,none⟩) Am cv cp cm),(FB+1,rbC FB)] from by rw [if_pos hx];exact h6)
          clear h6 hx'
          clear a0 a1 a2 a3 a4 a5 f0 i0 b0 b1 b2 b3 b4 b5 hla hlb hli hlr S8 S9)
       | (obtain ⟨w6,rfl⟩:∃ y,y=w8:=⟨_,rfl⟩
          obtain ⟨u6,rfl⟩:∃ y,y=uj:=⟨_,rfl⟩
          have HZ6:=kp (show VsB FB (FB+2) W (kj+if px<(j:Int) then 1 else 0) w6 u6 [(wo.heap.size+1,qC q Aq Ak cq ck),(wo.heap.size,#[.int .i64 (j:Int)]),(w.heap.size,pgC P Av (some ⟨bk,ok,none⟩) Am cv cp cm),(FB+1,rbC FB)] from by rw [if_neg hx];exact HZ8.out)
          clear a0 a1 a2 a3 a4 a5 f0 i0 b0 b1 b2 b3 b4 b5 hla hlb hli hlr S8 S9)
       | fail
       obtain ⟨a0,a1,a2,a3,a4,a5,f0,i0,b0,b1,b2,b3,b4,b5⟩:=KQ.out _ _ _ HZ6.out
       have hla:=block_lt_of_cell a0
       have hlb:=block_lt_of_cell b0
       have hlq:=HQ0.out.2.1
       go_wp2_with fail
       go_loopw [59] (fun i wr=>∃ (m km:Nat) (um:Value),m≤q.params.length∧i=.int .i64 m∧Hid (VsB FB (FB+2) W km wr um [(wo.heap.size+1,qC q Aq Ak cq ck),(wo.heap.size,#[.int .i64 (j:Int)]),(w.heap.size,pgC P Av (some ⟨bk,ok,none⟩) Am cv cp cm),(FB+1,rbC FB)]∧km=(kj+if px<(j:Int) then 1 else 0)+declN q.params m)) (fun i _=>q.params.length - (intOf i).toNat)
       case atStart=>exact ⟨0,_,u6,by omega,rfl,kp ⟨HZ6.out,rfl⟩⟩
       case round=>
        obtain ⟨m,km,um,hm,rfl,HM⟩:=hrel
        clear a0 a1 a2 a3 a4 a5 f0 i0 b0 b1 b2 b3 b4 b5 hla hlb
        obtain ⟨a0,a1,a2,a3,a4,a5,f0,i0,b0,b1,b2,b3,b4,b5⟩:=KQ.out _ _ _ HM.out.1
        have hla:=block_lt_of_cell a0
        have hlb:=block_lt_of_cell b0
        have hli:=block_lt_of_cell i0
        have hlr:=block_lt_of_cell f0
        have HKM:=kp (HKV.out _ _ _ _ HM.out.1)
        have HDM:=kp (declN_le q.params m)
        by_cases him:m<q.params.length
        ·have HPV:=kp (HVQ.out.1.mono (HBW.out _ _ _ _ HM.out.1))
         obtain ⟨b7,o7,rfl,hb7,v0,v1,v2⟩:=HPV.out.at_ him
         have m0:(0:Int)≤m:=by omega
         have m1:(m:Int)<q.params.length:=by omega
         have m2:(m:Int)≤q.params.length:=by omega
         have m3:(m:Int)≤cq:=by have:=HSQ.out.1;omega
         have HLM:=kp (HM.out.1.alloc #[.string q.params[m].name,.int .u8 q.params[m].kind,.int .i64 q.params[m].len] 62)
         have hsM:(wr.alloc (Obj.cells #[.string q.params[m].name,.int .u8 q.params[m].kind,.int .i64 q.params[m].len] 62)).heap.size=wr.heap.size+1:=by simp
         go_upto_region 18 with fail
         generalize wr.alloc _=X at HLM hsM ⊢
         have hbX:=Below.refl X.heap.size X
         have hXD:X.heap.size≤X.drew.heap.size:=(bld hbX).size
         have KQM:=kp (fun (k:Nat) (Y:World) (u:Value) (h:VsB FB (FB+2) W k Y u ((wr.heap.size,#[.string q.params[m].name,.int .u8 q.params[m].kind,.int .i64 q.params[m].len])::[(wo.heap.size+1,qC q (some ⟨b7,o7,none⟩) Ak cq ck),(wo.heap.size,#[.int .i64 (j:Int)]),(w.heap.size,pgC P Av (some ⟨bk,ok,none⟩) Am cv cp cm),(FB+1,rbC FB)]))=>show Y.cell? ⟨FB+1,0,none⟩=some (.func (.func 51) #[] #[.pointer (some ⟨FB,0,none⟩)])∧Y.cell? ⟨wo.heap.size,0,none⟩=some (.int .i64 (j:Int))∧Y.cell? ⟨wo.heap.size+1,1,none⟩=some (.slice (some ⟨b7,o7,none⟩) q.params.length cq)∧Y.cell? ⟨wr.heap.size,0,none⟩=some (.string q.params[m].name) from by
          have hq:=h.get (b:=wo.heap.size+1) (cs:=qC q (some ⟨b7,o7,none⟩) Ak cq ck) (by simp)
          have hr:=h.get (b:=FB+1) (cs:=rbC FB) (by simp)
          have hi:=h.get (b:=wo.heap.size) (cs:=#[.int .i64 (j:Int)]) (by simp)
          have hv:=h.get (b:=wr.heap.size) (cs:=#[.string q.params[m].name,.int .u8 q.params[m].kind,.int .i64 q.params[m].len]) (by simp)
          exact ⟨hr.cell rfl,hi.cell rfl,hq.cell rfl,hv.cell rfl⟩)
         have KSM:=kp (fun (Y:World) (hY:Below X.heap.size X Y)=>KQM.out _ Y _ (HLM.out.below hY))
         have S9:=kp (KSM.out X.drew (bld hbX))
         have htl:(q.params.take m).length=m:=by rw [List.length_take];omega
         have HFR:=kp (fun (Y:World) (hY:Below X.heap.size X Y)=>show Calls Tryz.prog 53 #[.slice (some ⟨b7,o7,none⟩) m cq,.string q.params[m].name] Y fun e w'=>e=.returned (.int .i64 (freshR (q.params.take m) q.params[m].name))∧Below Y.heap.size Y w' from by
          have h:=fresh_any (q.params.take m) (by rw [htl];omega) q.params[m].name (some ⟨b7,o7,none⟩) cq Y ((HVQ.out.1.mono (HBW.out _ _ _ _ (HLM.out.below hY))).take m)
          rw [htl] at h
          exact h)
         have HRP:=kp (fun (Y:World) (hY:Below X.heap.size X Y)=>show Calls Tryz.prog 51 #[.int .i64 (j:Int),.slice none 0 0,.string q.params[m].name,.int .i64 (freshR (q.params.take m) q.params[m].name),.pointer (some ⟨FB,0,none⟩)] Y (RepP FB (FB+2) um ((kj+if px<(j:Int) then 1 else 0)+declN q.params (m+1)) Y) from by
          have h1:=report_any (j:Int) (freshR (q.params.take m) q.params[m].name) [] q.params[m].name (by simp) (HLM.out.below hY).now.1 (by have:=HM.out.2;have:=HKJ.out;have:=HPL.out;have:=HDL.out;have:=HDM.out;have hif:(if px<(j:Int) then 1 else 0:Nat)≤1:=(by split<;>omega);omega) none 0 (ints_nil Y)
          have e:(kj+if px<(j:Int) then 1 else 0)+declN q.params (m+1)=km+er1 (freshR (q.params.take m) q.params[m].name):=by rw [declN_at q.params him,HM.out.2];omega
          rw [e]
          exact h1)
         go_region_held3 (fun w'=>w'.cell? ⟨FB+1,0,none⟩=some (.func (.func 51) #[] #[.pointer (some ⟨FB,0,none⟩)])∧w'.cell? ⟨wo.heap.size,0,none⟩=some (.int .i64 (j:Int))∧w'.cell? ⟨wo.heap.size+1,1,none⟩=some (.slice (some ⟨b7,o7,none⟩) q.params.length cq)∧w'.cell? ⟨wr.heap.size,0,none⟩=some (.string q.params[m].name))
          (first | exact S9.out | exact S8.out | exact S6.out | trivial)
          (first
          | (go_simp;go_at_call 53;(with_reducible refine Calls.mono (HFR.out X.drew (bld hbX)) ?_);rintro e w8 ⟨rfl,hb8⟩;have H8:=kp (bls (bld hbX) hXD hb8);have S8:=kp (KSM.out w8 H8.out);clear hb8;dsimp only)
          | (go_simp;(with_reducible refine Calls.mono (HRP.out w8 H8.out) ?_);rintro e w5 h5;obtain ⟨rfl,u5,h5⟩:=HLM.out.step H8.out h5;have HZ5:=kp h5;have S6:=kp (KQM.out _ _ _ h5);clear h5;dsimp only)
          | fail)
         all_goals
          go_wp2_with fail
          exact ⟨⟨m+1,_,u5,by omega,rfl,kp ⟨HZ5.out.drop (by simp),rfl⟩⟩,by simp [intOf];omega⟩
        ·obtain rfl:m=q.params.length:=by omega
         have HRB:=kp (HM.out.1.out (b:=FB+1) (cs:=rbC FB) (by simp))
         have HIB:=kp (HM.out.1.out (b:=wo.heap.size) (cs:=#[.int .i64 (j:Int)]) (by simp))
         have HVS:=kp (show Calls Tryz.prog 55 #[.agg #[.slice Av P.vars.length cv,.slice (some ⟨bk,ok,none⟩) P.procs.length cp,.int .u8 P.main.kind,.int .i64 P.main.num,.string P.main.name,.slice Am P.main.kids.length cm],.agg #[.int .u8 q.body.kind,.int .i64 q.body.num,.string q.body.name,.slice Ak q.body.kids.length ck],.slice none 0 0,.slice Aq q.params.length cq,.func (.func 56) #[] #[.pointer (some ⟨FB+1,0,none⟩),.pointer (some ⟨wo.heap.size,0,none⟩)]] wr (RepP FB (FB+2) um (km+vcT P q.body q.params) wr) from by
          have hb:=HQ0.out.2.2.2
          refine vis_all P HF.out.lp (rep2_any FB (FB+2) (FB+1) wo.heap.size (j:Int)) 2000 q.body hb.s (by omega) [] q.params Av (some ⟨bk,ok,none⟩) Am Ak none Aq cv cp cm ck 0 cq wr um km ⟨HBW.out _ _ _ _ HM.out.1,by omega,HM.out.1.now.1,⟨HRB.out,HIB.out,f0,i0⟩,HK1.out.p,HVQ.out.2⟩ ⟨ints_nil _,⟨Nat.le_refl _,fun _=>rfl⟩,fun b o e=>by cases e⟩ ⟨HVQ.out.1.mono (HBW.out _ _ _ _ HM.out.1),HSQ.out,fun b o e hl=>?_⟩ ?_ ?_ ?_
          ·obtain ⟨b9,o9,e9,h9,_⟩:=HVQ.out.1.at_ hl
           rw [e] at e9
           cases e9
           have hz:=(HBW.out _ _ _ _ HM.out.1).size
           exact ⟨by omega,by omega,fun g=>by have:=(HM.out.1.now.1.ge _ g).1;omega⟩
          ·have:=hb.d;simp;omega
          ·have:=hb.d;omega
          ·have h1:=vcT_le P q.body q.params
           have h2:=hb.s
           have:=HM.out.2;have:=HKJ.out;have:=HPL.out;have:=HDL.out;have:=HDM.out;have hif:(if px<(j:Int) then 1 else 0:Nat)≤1:=(by split<;>omega)
           omega)
         go_wp2_with fail
         refine HVS.out.mono ?_
         rintro e w5 h5
         obtain ⟨rfl,u5,h5⟩:=HM.out.1.step (Below.refl _ _) h5
         have HZ5:=kp h5
         clear h5
         go_wp2_with fail
         exact ⟨⟨j+1,_,u5,by omega,rfl,kp ⟨HZ5.out.drop (by simp),by have:=HM.out.2;have:=HKJ.out;have:=HPN.out;omega⟩⟩,by simp [intOf];omega⟩
     ·obtain rfl:j=P.procs.length:=by omega
      have HRB:=kp (HR.out.1.out (b:=FB+1) (cs:=rbC FB) (by simp))
      have HRC:=kp ((HR.out.1.get (b:=FB+1) (cs:=rbC FB) (by simp)).cell (j:=0) rfl)
      have HPO:=kp (HR.out.1.out (b:=w.heap.size) (cs:=pgC P Av Ap Am cv cp cm) (by simp))
      have f0:=HRC.out
      have HVS:=kp (show Calls Tryz.prog 55 #[.agg (pgC P Av Ap Am cv cp cm),.agg #[.int .u8 P.main.kind,.int .i64 P.main.num,.string P.main.name,.slice Am P.main.kids.length cm],.slice none 0 0,.slice Av P.vars.length cv,.func (.func 57) #[] #[.pointer (some ⟨FB+1,0,none⟩),.pointer (some ⟨w.heap.size,0,none⟩)]] wr (RepP FB (FB+2) uj (chkN P) wr) from by
       have hb:=HX.out.m
       have e:chkN P=kj+vcT P P.main P.vars:=by rw [HR.out.2];rfl
       rw [e]
       refine vis_all P HF.out.lp (rep3_any FB (FB+2) (FB+1) w.heap.size Ap P.procs.length cp) 2000 P.main hb.s (by omega) [] P.vars Av Ap Am Am none Av cv cp cm cm 0 cv wr uj kj ⟨HBW.out _ _ _ _ HR.out.1,by omega,HR.out.1.now.1,⟨HRB.out,HPO.out,f0,a1⟩,HK1.out.p,HK1.out.m⟩ ⟨ints_nil _,⟨Nat.le_refl _,fun _=>rfl⟩,fun b o e=>by cases e⟩ ⟨HK1.out.v.mono (HBW.out _ _ _ _ HR.out.1),HS.out,fun b o e hl=>?_⟩ ?_ ?_ ?_
       ·obtain ⟨b9,o9,e9,h9,_⟩:=HK1.out.v.at_ hl
        rw [e] at e9
        cases e9
        have hz:=(HBW.out _ _ _ _ HR.out.1).size
        exact ⟨by omega,by omega,fun g=>by have:=(HR.out.1.now.1.ge _ g).1;omega⟩
       ·have:=hb.d;simp;omega
       ·have:=hb.d;omega
       ·rw [← e];have:=chkN_le HX.out;omega)
      go_wp2_with fail
      refine HVS.out.mono ?_
      rintro e w5 h5
      obtain ⟨rfl,u5,h5⟩:=HR.out.1.step (Below.refl _ _) h5
      obtain ⟨cs,ho⟩:=h5.now.1.own
      obtain ⟨A5,c5,rfl,_,_⟩:=ofb ho
      have g0:=h5.now.1.g.cell (j:=0) rfl
      have hlg:=h5.now.1.g.lt
      have HZ5:=kp (show ChkP (chkN P) w (.returned (.slice A5 (chkN P) c5)) w5 from ⟨A5,c5,rfl,bls HB1.out HB1.out.size (HBW.out _ _ _ _ h5)⟩)
      clear h5 ho
      generalize chkN P=cN at *
      go_wp2_with fail
      go_ret
      exact HZ5.out
end Go.Proofs.YtgbomnibedefoaaGreatDoor
