import Derived.BigRegion
import Derived.Test.YtgbomnibedefoaaGreatDoorQa13
set_option maxRecDepth 100000
set_option maxHeartbeats 8000000
namespace Go.Proofs.YtgbomnibedefoaaGreatDoor
open Go.ChangeShapes Go.WideShapes Go.ChangeAt Go.RowKit Go.Sort
structure FtAt (w:World) (FB BT:Nat) (u:Value) (k:Nat):Prop where
 g:Bx w FB #[u]
 own:∃ cs,w.ownsRow BT 95 4 u k cs
 lt:FB<BT
 b:BT≤w.heap.size
def HsF (FB:Nat) (u:Value):Nat→Prop:=fun k=>k=FB∨some k=u.ownBlock
def NwF (w:World) (u u':Value):Prop:=∀ g,u'.ownBlock=some g→u.ownBlock=some g∨w.heap.size≤g
theorem NwF.refl (w:World) (u:Value):NwF w u u:=fun _ h=>.inl h
theorem NwF.trans {w w1:World} {u u1 u2:Value} (h:NwF w u u1) (h2:NwF w1 u1 u2) (hs:w.heap.size≤w1.heap.size):NwF w u u2:=fun g hg=>by
 rcases h2 g hg with e | e
 ·exact h g e
 ·exact .inr (by omega)
theorem FtAt.fr {w w':World} {FB BT k:Nat} {u:Value} (h:FtAt w FB BT u k) {m:Nat→Prop} (hf:Fr w w' m) (hG:¬ m FB) (hu:∀ g,u.ownBlock=some g→¬ m g):FtAt w' FB BT u k:=by
 obtain ⟨cs,ho⟩:=h.own
 exact ⟨h.g.fr hf hG,⟨cs,hf.own ho hu⟩,h.lt,Nat.le_trans h.b hf.size⟩
theorem FtAt.below {w w':World} {FB BT k:Nat} {u:Value} (h:FtAt w FB BT u k) (hb:Below w.heap.size w w'):FtAt w' FB BT u k:=h.fr (Fr.of_below hb fun _=>False) id fun _ _=>id
theorem FtAt.ge {w:World} {FB BT k:Nat} {u:Value} (h:FtAt w FB BT u k):∀ g,u.ownBlock=some g→BT≤g∧g<w.heap.size:=fun g hg=>by
 obtain ⟨cs,ho⟩:=h.own
 exact ⟨obg ho g hg,(ho.lt g hg).2⟩
theorem FtAt.ne {w:World} {FB BT k:Nat} {u:Value} (h:FtAt w FB BT u k):u.ownBlock≠some FB:=fun e=>by have:=(h.ge FB e).1;have:=h.lt;omega
def RepP (FB BT:Nat) (u:Value) (k:Nat) (w:World) (e:Ending) (w':World):Prop:=e=.returned (.tuple #[])∧∃ u',FtAt w' FB BT u' k∧Fr w w' (HsF FB u)∧NwF w u u'
theorem rep_made {w wm w9:World} {FB BT k:Nat} {u v':Value} {cs:List Value} (h:FtAt w FB BT u k) (hm:Below w.heap.size w wm) (hown':w9.ownsRow BT 95 4 v' (k+1) cs) (hg:wm.grownBy w9 u.ownBlock) (hat:v'.ownBlock=u.ownBlock∨v'.ownBlock=some wm.heap.size):∃ u',FtAt (w9.setCell ⟨FB,0,none⟩ v') FB BT u' (k+1)∧Fr w (w9.setCell ⟨FB,0,none⟩ v') (HsF FB u)∧NwF w u u':=by
 have hlG:=h.g.lt
 have hz:=hm.size
 have f9:Fr w w9 (fun k=>some k=u.ownBlock):=(Fr.of_below hm _).trans (Fr.of_grown hg) fun _ _ e=>e
 have hnv:∀ g,v'.ownBlock=some g→¬ g=FB:=fun g hg e=>by
  subst e
  rcases hat with q | q
  ·exact h.ne (q▸hg)
  ·rw [q] at hg;cases hg;omega
 refine ⟨v',⟨(h.g.fr f9 fun e=>h.ne e.symm).set 0 v',⟨cs,?_⟩,h.lt,Nat.le_trans h.b (Nat.le_trans f9.size (by simp))⟩,(f9.mono fun _ _ e=>.inr e).trans (Fr.of_set w9 ⟨FB,0,none⟩ v') fun k _ e=>.inl e,fun g hg=>?_⟩
 ·exact (Fr.of_set w9 ⟨FB,0,none⟩ v').own hown' fun g hg e=>hnv g hg e
 ·rcases hat with q | q
  ·exact .inl (q▸hg)
  ·rw [q] at hg;cases hg;exact .inr (by omega)
theorem info_flt:(Tryz.prog.info? 95).map (fun i=>(i.zero,i.size,i.bytes))=some (some (.agg #[.int .i64 0,.slice none 0 0,.int .i64 0,.string ⟨#[]⟩]),4,56):=by kernel_rfl
theorem report_any (pr err:Int) (l:List Int) (nm:ByteArray) (hl:l.length≤1000000) {w:World} {FB BT k:Nat} {u:Value} (h:FtAt w FB BT u k) (hk:k≤1000000) (A:Option Addr) (cap:Nat) (hA:IntsAt w A l) :
  Calls Tryz.prog 51 #[.int .i64 pr,.slice A l.length cap,.string nm,.int .i64 err,.pointer (some ⟨FB,0,none⟩)] w (RepP FB BT u (k+if err=0 then 0 else 1) w):=by
 have hne:=bne_int err 0
 by_cases he:err=0
 ·rw [if_pos he,Nat.add_zero]
  rw [decide_eq_true he] at hne
  have HZ:=kp (show RepP FB BT u k w (.returned (.tuple #[])) w from ⟨rfl,u,h,Fr.refl _ _,NwF.refl _ _⟩)
  clear h he hA
  go_enter Tryz.func51,Tryz.ntmps51
  go_wp2_with fail
  go_end0
  exact HZ.out
 ·rw [if_neg he]
  rw [decide_eq_false he] at hne
  obtain ⟨cs,ho⟩:=h.own
  obtain ⟨Af,cf,rfl,hcf,hqq⟩:=ofb ho
  clear hqq he
  obtain ⟨i0,hi0,hz0,hz1,hz2⟩:=info_parts info_flt
  have HI:=kp (And.intro hi0 (And.intro hz0 (And.intro hz1 hz2)))
  have HG:=kp h
  have HO:=kp ho
  have HCL:=kp (fun (V:World) (hV:Below w.heap.size w V)=>cla l hl A cap V (hA.mono hV))
  have y0:=h.g.cell (j:=0) rfl
  have f0:=h.g.free 0
  have hlt:=h.g.lt
  clear h ho hi0 hz0 hz1 hz2 hA
  go_enter Tryz.func51,Tryz.ntmps51
  go_upto_region 1 with fail
  have hbP:=Below.refl w.heap.size w
  have HWD:=kp (show w.heap.size≤w.drew.heap.size from (bld hbP).size)
  have HC1:=kp (HCL.out w.drew (bld hbP))
  go_region_law (first
   | (refine step_app _ (by rfl) (.tmp 11) (.tmp 18) 56 (by rfl) BT 95 i0 (.agg #[.int .i64 0,.slice none 0 0,.int .i64 0,.string ⟨#[]⟩]) 4 56 Tryz.underlying56 HI.out.1 HI.out.2.1 HI.out.2.2.1 HI.out.2.2.2 rfl (by decide) (.slice Af k cf) k cs (by first | (simp [Act.eval];done) | (simp [Act.eval,Act.put];done)) (HO8.out.alloc _) (some ⟨w8.heap.size,0,none⟩) 1 1 [.int .i64 pr,.slice A8 l.length c8,.int .i64 err,.string nm] (by first | (simp [Act.eval];done) | (simp [Act.eval,Act.put];done)) rfl (cnu w8 rfl [.int .i64 pr,.slice A8 l.length c8,.int .i64 err,.string nm] _) (fun u hu=>by simp at hu;rcases hu with rfl | rfl | rfl | rfl<;>rfl) (by unfold maxLen;omega) (by omega) (by have:=HG8.out.b;simp;omega) ?_;intro v' w9 hown' hgrow hat;have HM:=kp (rep_made HG.out (bls HB8.out HB8.out.size (blb w8 _)) hown' hgrow hat);have z0:=(((HG8.out.g.below (blb _ _)).fr (Fr.of_grown hgrow) (fun e=>HG8.out.ne e.symm)).cell (j:=0) rfl);have z1:=(((HG8.out.g.below (blb _ _)).fr (Fr.of_grown hgrow) (fun e=>HG8.out.ne e.symm)).free 0);have hlt9:=block_lt_of_cell z0;obtain ⟨A9,c9,rfl,hc9,hqq⟩:=ofb hown';clear hqq hown' hgrow hat)
   | (go_simp;go_at_call 52;(with_reducible refine Calls.mono HC1.out ?_);rintro e w8 ⟨v8,rfl,hv8,hb8⟩;obtain ⟨A8,c8,rfl,_,_⟩:=ofb hv8;have HB8:=kp (bls (bld hbP) HWD.out hb8);have HO8:=kp (obl HO.out HB8.out);have HG8:=kp (HG.out.below HB8.out);clear hv8 hb8;have y8:=HG8.out.g.cell (j:=0) rfl;have f8:=HG8.out.g.free 0;have hlt8:=HG8.out.g.lt;dsimp only)
   | fail)
  all_goals
   go_end0
   exact ⟨rfl,HM.out⟩
structure RepV (f:Nat) (caps:Array Value) (FB BT:Nat) (C:World→Value→Prop):Prop where
 ent:EntF f
 keep:∀ (w w':World) (u u':Value),C w u→Fr w w' (HsF FB u)→NwF w u u'→C w' u'
 call:∀ (err:Int) (l:List Int) (nm:ByteArray) (A:Option Addr) (cap:Nat) (w:World) (u:Value) (k:Nat),l.length≤1000000→C w u→FtAt w FB BT u k→k≤1000000→IntsAt w A l→
  Calls Tryz.prog f (#[.slice A l.length cap,.string nm,.int .i64 err]++caps) w (RepP FB BT u (k+if err=0 then 0 else 1) w)
def Out (FB:Nat) (w:World) (u:Value) (b:Nat):Prop:=b<w.heap.size∧b≠FB∧u.ownBlock≠some b
theorem Out.keep {FB:Nat} {w w':World} {u u':Value} {b:Nat} (h:Out FB w u b) (hf:Fr w w' (HsF FB u)) (hn:NwF w u u'):Out FB w' u' b:=
 ⟨Nat.lt_of_lt_of_le h.1 hf.size,h.2.1,fun e=>by
  rcases hn b e with q | q
  ·exact h.2.2 q
  ·have:=h.1;omega⟩
theorem Out.not {FB:Nat} {w:World} {u:Value} {b:Nat} (h:Out FB w u b):¬ HsF FB u b:=fun e=>e.elim h.2.1 fun q=>h.2.2 q.symm
theorem Out.cell {FB:Nat} {w w':World} {u:Value} {b j:Nat} {v:Value} (h:Out FB w u b) (hf:Fr w w' (HsF FB u)) (hc:w.cell? ⟨b,j,none⟩=some v):w'.cell? ⟨b,j,none⟩=some v:=hf.cell hc h.not
def C2 (FB RB IB:Nat) (pr:Int) (w:World) (u:Value):Prop:=Out FB w u RB∧Out FB w u IB∧w.cell? ⟨RB,0,none⟩=some (.func (.func 51) #[] #[.pointer (some ⟨FB,0,none⟩)])∧w.cell? ⟨IB,0,none⟩=some (.int .i64 pr)
theorem ent_rep2:EntF 56:=fun _ _=>by kernel_rfl
theorem rep2_any (FB BT RB IB:Nat) (pr:Int):RepV 56 #[.pointer (some ⟨RB,0,none⟩),.pointer (some ⟨IB,0,none⟩)] FB BT (C2 FB RB IB pr) where
 ent:=ent_rep2
 keep:=fun w w' u u' h hf hn=>⟨h.1.keep hf hn,h.2.1.keep hf hn,h.1.cell hf h.2.2.1,h.2.1.cell hf h.2.2.2⟩
 call:=fun err l nm A cap w u k hl hC hF hk hA=>by
  have HR:=kp (report_any pr err l nm hl hF hk A cap hA)
  obtain ⟨⟨h1,_,_⟩,⟨h2,_,_⟩,c1,c2⟩:=hC
  generalize (k+if err=0 then 0 else 1)=m at HR ⊢
  clear hF hA
  show Calls Tryz.prog 56 #[.slice A l.length cap,.string nm,.int .i64 err,.pointer (some ⟨RB,0,none⟩),.pointer (some ⟨IB,0,none⟩)] w _
  go_enter Tryz.func56,Tryz.ntmps56
  go_wp2_with fail
  refine HR.out.mono ?_
  rintro e w1 ⟨rfl,h⟩
  have HZ:=kp h
  clear h
  go_wp2_with fail
  go_end0
  exact ⟨rfl,HZ.out⟩
def C3 (FB RB PB:Nat) (Ap:Option Addr) (n cp:Nat) (w:World) (u:Value):Prop:=Out FB w u RB∧Out FB w u PB∧w.cell? ⟨RB,0,none⟩=some (.func (.func 51) #[] #[.pointer (some ⟨FB,0,none⟩)])∧w.cell? ⟨PB,1,none⟩=some (.slice Ap n cp)
theorem ent_rep3:EntF 57:=fun _ _=>by kernel_rfl
theorem rep3_any (FB BT RB PB:Nat) (Ap:Option Addr) (n cp:Nat):RepV 57 #[.pointer (some ⟨RB,0,none⟩),.pointer (some ⟨PB,0,none⟩)] FB BT (C3 FB RB PB Ap n cp) where
 ent:=ent_rep3
 keep:=fun w w' u u' h hf hn=>⟨h.1.keep hf hn,h.2.1.keep hf hn,h.1.cell hf h.2.2.1,h.2.1.cell hf h.2.2.2⟩
 call:=fun err l nm A cap w u k hl hC hF hk hA=>by
  have HR:=kp (report_any (n:Int) err l nm hl hF hk A cap hA)
  obtain ⟨⟨h1,_,_⟩,⟨h2,_,_⟩,c1,c2⟩:=hC
  generalize (k+if err=0 then 0 else 1)=m at HR ⊢
  clear hF hA
  show Calls Tryz.prog 57 #[.slice A l.length cap,.string nm,.int .i64 err,.pointer (some ⟨RB,0,none⟩),.pointer (some ⟨PB,0,none⟩)] w _
  go_enter Tryz.func57,Tryz.ntmps57
  go_wp2_with fail
  refine HR.out.mono ?_
  rintro e w1 ⟨rfl,h⟩
  have HZ:=kp h
  clear h
  go_wp2_with fail
  go_end0
  exact ⟨rfl,HZ.out⟩
def er1 (e:Int):Nat:=if e=0 then 0 else 1
def argsN (P:Pg) (n:Nd) (vis:List Vd):Nat→Nat→Nat
 | _,0=>0
 | i,m+1=>er1 (argR P n i vis)+argsN P n vis (i+1) m
mutual
def vcT (P:Pg):Nd→List Vd→Nat
 | .mk k nu nm kids,vis=>er1 (fltR P (.mk k nu nm kids) vis)+if k=50∨k=51 then argsN P (.mk k nu nm kids) vis 0 kids.length else vcTL P k nm kids 0 vis
def vcTL (P:Pg) (k:Nat) (nm:ByteArray):List Nd→Nat→List Vd→Nat
 | [],_,_=>0
 | x::r,i,vis=>vcT P x (innerT (.mk k 0 nm []) i vis)+vcTL P k nm r (i+1) vis
end
theorem innerT_kn {n n':Nd} (hk:n.kind=n'.kind) (hn:n.name=n'.name) (i:Nat) (l:List Vd):innerT n i l=innerT n' i l:=by unfold innerT intV stkV;rw [hk,hn]
theorem vcT_eq (P:Pg) (n:Nd) (vis:List Vd):vcT P n vis=er1 (fltR P n vis)+if n.kind=50∨n.kind=51 then argsN P n vis 0 n.kids.length else vcTL P n.kind n.name n.kids 0 vis:=by cases n;rw [vcT];rfl
theorem vcTL_drop (P:Pg) (n:Nd) {i:Nat} (h:i<n.kids.length) (vis:List Vd):vcTL P n.kind n.name (n.kids.drop i) i vis=vcT P n.kids[i] (innerT n i vis)+vcTL P n.kind n.name (n.kids.drop (i+1)) (i+1) vis:=by
 rw [List.drop_eq_getElem_cons h,vcTL,innerT_kn (n:=.mk n.kind 0 n.name []) (n':=n) rfl rfl]
structure VdsO (w:World) (FB:Nat) (u:Value) (A:Option Addr) (l:List Vd) (c:Nat):Prop where
 v:VdsAt w A l
 s:SlOk A l.length c
 o:∀ b o,A=some ⟨b,o,none⟩→0<l.length→Out FB w u b
theorem VdsO.keep {w w':World} {FB c:Nat} {u u':Value} {A:Option Addr} {l:List Vd} (h:VdsO w FB u A l c) (hf:Fr w w' (HsF FB u)) (hn:NwF w u u'):VdsO w' FB u' A l c:=
 ⟨fun k x hk=>by
  obtain ⟨b,o,e,h1,h2,h3⟩:=h.v k x hk
  have ho:=h.o b o e (by have:=(List.getElem?_eq_some_iff.1 hk).1;omega)
  exact ⟨b,o,e,ho.cell hf h1,ho.cell hf h2,ho.cell hf h3⟩,h.s,fun b o e hl=>(h.o b o e hl).keep hf hn⟩
structure IntO (w:World) (FB:Nat) (u:Value) (A:Option Addr) (l:List Int) (c:Nat):Prop where
 v:IntsAt w A l
 s:SlOk A l.length c
 o:∀ b o,A=some ⟨b,o,none⟩→0<l.length→Out FB w u b
theorem IntO.keep {w w':World} {FB c:Nat} {u u':Value} {A:Option Addr} {l:List Int} (h:IntO w FB u A l c) (hf:Fr w w' (HsF FB u)) (hn:NwF w u u'):IntO w' FB u' A l c:=
 ⟨fun k x hk=>by
  obtain ⟨b,o,e,h1⟩:=h.v k x hk
  have ho:=h.o b o e (by have:=(List.getElem?_eq_some_iff.1 hk).1;omega)
  exact ⟨b,o,e,ho.cell hf h1⟩,h.s,fun b o e hl=>(h.o b o e hl).keep hf hn⟩
structure VsPre (W0:World) (FB BT:Nat) (C:World→Value→Prop) (P:Pg) (Ap:Option Addr) (n:Nd) (Ak:Option Addr) (w:World) (u:Value) (k:Nat):Prop where
 bw:Below W0.heap.size W0 w
 fb:W0.heap.size≤FB
 ft:FtAt w FB BT u k
 c:C w u
 p:PcsAt W0 Ap P.procs
 n:NdsAt W0 Ak n.kids
theorem HsF.ge {w:World} {FB BT k:Nat} {u:Value} {B:Nat} (h:FtAt w FB BT u k) (hB:B≤FB):∀ j,HsF FB u j→B≤j:=fun j e=>by
 rcases e with e | e
 ·omega
 ·have:=(h.ge j e.symm).1;have:=h.lt;omega
-- Depth of a tree.
mutual
def dpT:Nd→Nat
 | .mk _ _ _ kids=>dpL kids+1
def dpL:List Nd→Nat
 | []=>0
 | x::r=>max (dpT x) (dpL r)
end
theorem dpT_kid {n x:Nd} (h:x∈n.kids):dpT x<dpT n:=by
 obtain ⟨k,a,b,kids⟩:=n
 rw [dpT]
 have:∀ l:List Nd,x∈l→dpT x≤dpL l:=by
  intro l
  induction l with
  | nil=>intro h;cases h
  | cons y r ih=>
    intro h
    rw [dpL]
    rcases List.mem_cons.1 h with e | e
    ·subst e;omega
    ·have:=ih e;omega
 have:=this kids h
 omega
def VisC (P:Pg) (W0:World) (FB BT:Nat) (C:World→Value→Prop) (f:Nat) (caps:Array Value) (n:Nd):Prop:=
 ∀ (l:List Int) (vis:List Vd) (Av Ap Am Ak Al Ae:Option Addr) (cv cp cm ck cl ce:Nat) (w:World) (u:Value) (k:Nat),VsPre W0 FB BT C P Ap n Ak w u k→IntO w FB u Al l cl→VdsO w FB u Ae vis ce→l.length+dpT n≤1000000→vis.length+dpT n≤100000→k+vcT P n vis≤1000000→
   Calls Tryz.prog 55 #[.agg (pgC P Av Ap Am cv cp cm),.agg (ndC n Ak ck),.slice Al l.length cl,.slice Ae vis.length ce,.func (.func f) #[] caps] w (RepP FB BT u (k+vcT P n vis) w)
def VsNow (FB BT:Nat) (W:World) (u:Value) (k':Nat) (wr:World) (u':Value):Prop:=FtAt wr FB BT u' k'∧Fr W wr (HsF FB u)∧NwF W u u'
theorem VsNow.step {FB BT k':Nat} {W wm w':World} {u u':Value} {e:Ending} {k0:Nat} {wr:World} (h:VsNow FB BT W u k0 wr u') (hb:Below wr.heap.size wr wm) (h2:RepP FB BT u' k' wm e w'):e=.returned (.tuple #[])∧∃ u2,VsNow FB BT W u k' w' u2:=by
 obtain ⟨rfl,u2,a,b,c⟩:=h2
 have hs:=h.2.1.size
 have hs2:=hb.size
 refine ⟨rfl,u2,a,?_,h.2.2.trans (fun g hg=>(c g hg).imp id fun q=>by omega) (by omega)⟩
 have hq:Fr wr wm (HsF FB u'):=Fr.of_below hb _
 refine h.2.1.trans (hq.trans b fun j _ e=>e) fun j hj e=>?_
 rcases e with e | e
 ·exact .inl e
 ·rcases h.2.2 j e.symm with q | q
  ·exact .inr q.symm
  ·omega
theorem VsNow.box {FB BT k k':Nat} {w W wr:World} {u u':Value} {b:Nat} {cs:Array Value} (h:VsNow FB BT W u k' wr u') (hf:FtAt w FB BT u k) (hB:Bx W b cs) (hb:w.heap.size≤b):Bx wr b cs:=hB.fr h.2.1 fun e=>by
 rcases e with e | e
 ·have:=hf.lt;have:=hf.b;omega
 ·have:=(hf.ge b e.symm).2;omega
theorem vis_call (P:Pg) (hl:P.procs.length≤9223372036854775807) {W0:World} {FB BT f:Nat} {C:World→Value→Prop} {caps:Array Value} (hR:RepV f caps FB BT C) {n:Nd} (hkl:n.kids.length≤1000000) (hk:n.kind=50∨n.kind=51):VisC P W0 FB BT C f caps n:=fun l vis Av Ap Am Ak Al Ae cv cp cm ck cl ce w u k hV hI hD hl1 hl2 hl3=>by
 have HT:=kp (tw2 w (pgC P Av Ap Am cv cp cm) (ndC n Ak ck) 28 26)
 have HF:=kp (fault_any P n hl vis (by omega))
 have HA:=kp (And.intro hV (And.intro hI (And.intro hD (And.intro hl1 (And.intro hl2 hl3)))))
 have HRV:=kp hR
 have hk50:((n.kind:Int) == 50)=decide (n.kind=50):=beqD n.kind 50
 have hk51:((n.kind:Int) == 51)=decide (n.kind=51):=beqD n.kind 51
 have HK:=kp hk
 clear hV hI hD hl1 hl2 hl3 hR hk
 have hen:=HRV.out.ent
 unfold EntF at hen
 go_enter Tryz.func55,Tryz.ntmps55
 go_upto_region 1 with fail
 generalize (w.alloc _).alloc _=W at HT ⊢
 obtain ⟨⟨a0,a1,a2,a3,a4,a5⟩,_⟩:=HT.out.2.1.six
 obtain ⟨b0,b1,b2,b3,_⟩:=HT.out.2.2.four
 have hla:=HT.out.2.1.lt
 have hlb:=HT.out.2.2.lt
 have hbP:=Below.refl W.heap.size W
 have hcl:=fun (V:World) (h1:PcsAt V Ap P.procs) (h2:VdsAt V Ae vis)=>HF.out Av Ap Am Ak Ae cv cp cm ck ce V h1 h2
 have HV:=kp (fun (V:World) (hb:Below W.heap.size W V)=>hcl V ((HA.out.1.p.mono HA.out.1.bw).mono (bls HT.out.1 HT.out.1.size hb)) ((HA.out.2.2.1.v.mono HT.out.1).mono hb))
 clear hcl
 have KS:=kp (fun (Y:World) (hY:Below W.heap.size W Y)=>show Y.cell? ⟨w.heap.size,0,none⟩=some (.slice Av P.vars.length cv)∧Y.cell? ⟨w.heap.size,1,none⟩=some (.slice Ap P.procs.length cp)∧Y.cell? ⟨w.heap.size,2,none⟩=some (.int .u8 P.main.kind)∧Y.cell? ⟨w.heap.size,3,none⟩=some (.int .i64 P.main.num)∧Y.cell? ⟨w.heap.size,4,none⟩=some (.string P.main.name)∧Y.cell? ⟨w.heap.size,5,none⟩=some (.slice Am P.main.kids.length cm)∧Y.cell? ⟨w.heap.size+1,0,none⟩=some (.int .u8 n.kind)∧Y.cell? ⟨w.heap.size+1,1,none⟩=some (.int .i64 n.num)∧Y.cell? ⟨w.heap.size+1,2,none⟩=some (.string n.name)∧Y.cell? ⟨w.heap.size+1,3,none⟩=some (.slice Ak n.kids.length ck) from ⟨blc hY a0,blc hY a1,blc hY a2,blc hY a3,blc hY a4,blc hY a5,blc hY b0,blc hY b1,blc hY b2,blc hY b3⟩)
 have HRX:=kp (fun (V:World) (hb:Below W.heap.size W V)=>
  have hbw:=bls HT.out.1 HT.out.1.size hb
  have hfr:Fr w V (HsF FB u):=Fr.of_below hbw _
  show Calls Tryz.prog f (#[.slice Al l.length cl,.string n.name,.int .i64 (fltR P n vis)]++caps) V (RepP FB BT u (k+er1 (fltR P n vis)) V) from HRV.out.call (fltR P n vis) l n.name Al cl V u k (by have:=HA.out.2.2.2.1;omega) (HRV.out.keep w V u u HA.out.1.c hfr (NwF.refl _ _)) (HA.out.1.ft.below hbw) (by have:=HA.out.2.2.2.2.2;omega) (HA.out.2.1.v.mono hbw))
 have HNS:Hid (VsNow FB BT W u k W u):=kp ⟨HA.out.1.ft.below HT.out.1,Fr.refl _ _,NwF.refl _ _⟩
 have KB:=kp (fun (k':Nat) (Y:World) (u':Value) (h:VsNow FB BT W u k' Y u')=>
  have h1:=(h.box HA.out.1.ft HT.out.2.1 (by omega)).six
  have h2:=(h.box HA.out.1.ft HT.out.2.2 (by omega)).four
  show Y.cell? ⟨w.heap.size,0,none⟩=some (.slice Av P.vars.length cv)∧Y.cell? ⟨w.heap.size,1,none⟩=some (.slice Ap P.procs.length cp)∧Y.cell? ⟨w.heap.size,2,none⟩=some (.int .u8 P.main.kind)∧Y.cell? ⟨w.heap.size,3,none⟩=some (.int .i64 P.main.num)∧Y.cell? ⟨w.heap.size,4,none⟩=some (.string P.main.name)∧Y.cell? ⟨w.heap.size,5,none⟩=some (.slice Am P.main.kids.length cm)∧Y.cell? ⟨w.heap.size+1,0,none⟩=some (.int .u8 n.kind)∧Y.cell? ⟨w.heap.size+1,1,none⟩=some (.int .i64 n.num)∧Y.cell? ⟨w.heap.size+1,2,none⟩=some (.string n.name)∧Y.cell? ⟨w.heap.size+1,3,none⟩=some (.slice Ak n.kids.length ck) from ⟨h1.1.1,h1.1.2.1,h1.1.2.2.1,h1.1.2.2.2.1,h1.1.2.2.2.2.1,h1.1.2.2.2.2.2,h2.1,h2.2.1,h2.2.2.1,h2.2.2.2.1⟩)
 have hWD:W.heap.size≤W.drew.heap.size:=(bld hbP).size
 have S9:=kp (show W.drew.cell? ⟨w.heap.size,0,none⟩=some (.slice Av P.vars.length cv)∧W.drew.cell? ⟨w.heap.size,1,none⟩=some (.slice Ap P.procs.length cp)∧W.drew.cell? ⟨w.heap.size,2,none⟩=some (.int .u8 P.main.kind)∧W.drew.cell? ⟨w.heap.size,3,none⟩=some (.int .i64 P.main.num)∧W.drew.cell? ⟨w.heap.size,4,none⟩=some (.string P.main.name)∧W.drew.cell? ⟨w.heap.size,5,none⟩=some (.slice Am P.main.kids.length cm)∧W.drew.cell? ⟨w.heap.size+1,0,none⟩=some (.int .u8 n.kind)∧W.drew.cell? ⟨w.heap.size+1,1,none⟩=some (.int .i64 n.num)∧W.drew.cell? ⟨w.heap.size+1,2,none⟩=some (.string n.name)∧W.drew.cell? ⟨w.heap.size+1,3,none⟩=some (.slice Ak n.kids.length ck) from ⟨a0,a1,a2,a3,a4,a5,b0,b1,b2,b3⟩)
 go_region_held3 (fun w'=>w'.cell? ⟨w.heap.size,0,none⟩=some (.slice Av P.vars.length cv)∧w'.cell? ⟨w.heap.size,1,none⟩=some (.slice Ap P.procs.length cp)∧w'.cell? ⟨w.heap.size,2,none⟩=some (.int .u8 P.main.kind)∧w'.cell? ⟨w.heap.size,3,none⟩=some (.int .i64 P.main.num)∧w'.cell? ⟨w.heap.size,4,none⟩=some (.string P.main.name)∧w'.cell? ⟨w.heap.size,5,none⟩=some (.slice Am P.main.kids.length cm)∧w'.cell? ⟨w.heap.size+1,0,none⟩=some (.int .u8 n.kind)∧w'.cell? ⟨w.heap.size+1,1,none⟩=some (.int .i64 n.num)∧w'.cell? ⟨w.heap.size+1,2,none⟩=some (.string n.name)∧w'.cell? ⟨w.heap.size+1,3,none⟩=some (.slice Ak n.kids.length ck))
  (first | exact S9.out | exact S8.out | trivial)
  (first
  | (go_simp;go_at_call 86;(with_reducible refine Calls.mono (HV.out W.drew (bld hbP)) ?_);rintro e w8 ⟨rfl,hb8⟩;have H8:=kp (bls (bld hbP) hWD hb8);have S8:=kp (KS.out w8 H8.out);clear hb8;dsimp only)
  | (go_simp;(with_reducible refine Calls.mono (HRX.out w8 H8.out) ?_);rintro e w9 h9;obtain ⟨rfl,u9,h9⟩:=HNS.out.step H8.out h9;have HZ9:=kp h9;have S9:=kp (KB.out _ _ _ h9);clear h9;dsimp only)
  | fail)
 have hbb:(decide (n.kind=50)=true)∨(decide (n.kind=50)=false∧decide (n.kind=51)=true):=by
  rcases HK.out with e | e
  ·exact .inl (decide_eq_true e)
  ·exact .inr ⟨decide_eq_false (by omega),decide_eq_true e⟩
 have HX:=kp (fun (k':Nat) (Y:World) (u':Value) (h:VsNow FB BT W u k' Y u')=>
  have hf:Fr w Y (HsF FB u):=(Fr.of_below HT.out.1 _).trans h.2.1 fun _ _ e=>e
  have hn:NwF w u u':=fun g hg=>(h.2.2 g hg).imp id fun q=>Nat.le_trans HT.out.1.size q
  show NdsAt Y Ak n.kids∧PcsAt Y Ap P.procs∧C Y u'∧IntO Y FB u' Al l cl∧VdsO Y FB u' Ae vis ce from
   have hb:=hf.below HA.out.1.bw (HsF.ge HA.out.1.ft HA.out.1.fb)
   ⟨HA.out.1.n.mono hb,HA.out.1.p.mono hb,HRV.out.keep w Y u u' HA.out.1.c hf hn,HA.out.2.1.keep hf hn,HA.out.2.2.1.keep hf hn⟩)
 have HVC:=kp (show vcT P n vis=er1 (fltR P n vis)+argsN P n vis 0 n.kids.length by rw [vcT_eq,if_pos HK.out])
 clear a0 a1 a2 a3 a4 a5 b0 b1 b2 b3 hla hlb hbP
 obtain ⟨a0,a1,a2,a3,a4,a5,b0,b1,b2,b3⟩:=S9.out
 have hlb:=block_lt_of_cell b0
 generalize decide (n.kind=50)=q5 at *
 generalize decide (n.kind=51)=q6 at *
 rcases hbb with rfl | ⟨rfl,rfl⟩
 all_goals
  go_wp2_with fail
  go_loopw [34] (fun i wr=>∃ (j kj:Nat) (uj:Value),j≤n.kids.length∧i=.int .i64 j∧Hid (VsNow FB BT W u kj wr uj∧kj+argsN P n vis j (n.kids.length - j)=k+vcT P n vis)) (fun i _=>n.kids.length - (intOf i).toNat)
  case atStart=>exact ⟨0,k+er1 (fltR P n vis),u9,by omega,rfl,kp ⟨HZ9.out,by rw [HVC.out];simp;omega⟩⟩
  case round=>
   obtain ⟨j,kj,uj,hj,rfl,HR⟩:=hrel
   clear a0 a1 a2 a3 a4 a5 b0 b1 b2 b3 hlb S9 HZ9
   have SW:=kp (KB.out _ _ _ HR.out.1)
   obtain ⟨a0,a1,a2,a3,a4,a5,b0,b1,b2,b3⟩:=SW.out
   have hlb:=block_lt_of_cell b0
   have HXW:=kp (HX.out _ _ _ HR.out.1)
   by_cases hin:j<n.kids.length
   ·have hla:=block_lt_of_cell a0
    obtain ⟨bk,ok,A',cap',rfl,hbk,k0,k1,k2,k3,hKK⟩:=HXW.out.1.kid hin
    have HNW:=kp (blb wr (Obj.cells #[.int .u8 n.kids[j].kind,.int .i64 n.kids[j].num,.string n.kids[j].name,.slice A' n.kids[j].kids.length cap'] 26))
    have HRX:=kp (bxn wr #[.int .u8 n.kids[j].kind,.int .i64 n.kids[j].num,.string n.kids[j].name,.slice A' n.kids[j].kids.length cap'] 26)
    have r0:(0:Int)≤j:=by omega
    have r1:(j:Int)<n.kids.length:=by omega
    go_wp2_with fail
    generalize wr.alloc _=V at HNW HRX ⊢
    have hbP:=Below.refl V.heap.size V
    have hVD:V.heap.size≤V.drew.heap.size:=(bld hbP).size
    obtain ⟨_,_,v2,_,_⟩:=HRX.out.four
    have hlv:=HRX.out.lt
    have KS2:=kp (fun (Y:World) (hY:Below V.heap.size V Y)=>have hq:=bls HNW.out HNW.out.size hY;show Y.cell? ⟨w.heap.size,0,none⟩=some (.slice Av P.vars.length cv)∧Y.cell? ⟨w.heap.size,1,none⟩=some (.slice Ap P.procs.length cp)∧Y.cell? ⟨w.heap.size,2,none⟩=some (.int .u8 P.main.kind)∧Y.cell? ⟨w.heap.size,3,none⟩=some (.int .i64 P.main.num)∧Y.cell? ⟨w.heap.size,4,none⟩=some (.string P.main.name)∧Y.cell? ⟨w.heap.size,5,none⟩=some (.slice Am P.main.kids.length cm)∧Y.cell? ⟨w.heap.size+1,0,none⟩=some (.int .u8 n.kind)∧Y.cell? ⟨w.heap.size+1,1,none⟩=some (.int .i64 n.num)∧Y.cell? ⟨w.heap.size+1,2,none⟩=some (.string n.name)∧Y.cell? ⟨w.heap.size+1,3,none⟩=some (.slice (some ⟨bk,ok,none⟩) n.kids.length ck)∧Y.cell? ⟨wr.heap.size,2,none⟩=some (.string n.kids[j].name) from ⟨blc hq a0,blc hq a1,blc hq a2,blc hq a3,blc hq a4,blc hq a5,blc hq b0,blc hq b1,blc hq b2,blc hq b3,blc hY v2⟩)
    have S9:=kp (KS2.out V.drew (bld hbP))
    have HCH:=kp (fun (Y:World) (hY:Below V.heap.size V Y)=>have hq:=bls HNW.out HNW.out.size hY;child_any l j (by have:=HA.out.2.2.2.1;omega) Al cl Y (HXW.out.2.2.2.1.v.mono hq) HXW.out.2.2.2.1.s)
    have HAR:=kp (fun (Y:World) (hY:Below V.heap.size V Y)=>have hq:=bls HNW.out HNW.out.size hY;argument_any P n j hin hl vis (by have:=HA.out.2.2.2.2.1;omega) Av Ap Am (some ⟨bk,ok,none⟩) Ae cv cp cm ck ce Y (HXW.out.2.1.mono hq) (HXW.out.2.2.2.2.v.mono hq) (HXW.out.1.mono hq))
    have HEQ:=kp (show argsN P n vis j (n.kids.length - j)=er1 (argR P n j vis)+argsN P n vis (j+1) (n.kids.length - (j+1)) by
     have e:n.kids.length - j=(n.kids.length - (j+1))+1:=by omega
     rw [e,argsN])
    have HRP:=kp (fun (Y:World) (hY:Below V.heap.size V Y) (A8:Option Addr) (c8:Nat) (hI8:IntsAt Y A8 (l++[(j:Int)]))=>
     have hq:=bls HNW.out HNW.out.size hY
     show Calls Tryz.prog f (#[.slice A8 (l.length+1) c8,.string n.kids[j].name,.int .i64 (argR P n j vis)]++caps) Y (RepP FB BT uj (kj+er1 (argR P n j vis)) Y) from by have h:=HRV.out.call (argR P n j vis) (l++[(j:Int)]) n.kids[j].name A8 c8 Y uj kj (by have:=HA.out.2.2.2.1;have hd:1≤dpT n:=(by cases n;rw [dpT];omega);simp;omega) (HRV.out.keep wr Y uj uj HXW.out.2.2.1 (Fr.of_below hq _) (NwF.refl _ _)) (HR.out.1.1.below hq) (by have:=HA.out.2.2.2.2.2;have:=HR.out.2;omega) hI8;rw [List.length_append,List.length_singleton] at h;exact h)
    have KB2:=kp (fun (Y Z:World) (e:Ending) (hY:Below V.heap.size V Y) (k9:Nat) (h9:RepP FB BT uj k9 Y e Z)=>
     have hq:=bls HNW.out HNW.out.size hY
     have hs:=HR.out.1.step hq h9
     show e=.returned (.tuple #[])∧∃ u2,VsNow FB BT W u k9 Z u2∧Z.cell? ⟨w.heap.size,0,none⟩=some (.slice Av P.vars.length cv)∧Z.cell? ⟨w.heap.size,1,none⟩=some (.slice Ap P.procs.length cp)∧Z.cell? ⟨w.heap.size,2,none⟩=some (.int .u8 P.main.kind)∧Z.cell? ⟨w.heap.size,3,none⟩=some (.int .i64 P.main.num)∧Z.cell? ⟨w.heap.size,4,none⟩=some (.string P.main.name)∧Z.cell? ⟨w.heap.size,5,none⟩=some (.slice Am P.main.kids.length cm)∧Z.cell? ⟨w.heap.size+1,0,none⟩=some (.int .u8 n.kind)∧Z.cell? ⟨w.heap.size+1,1,none⟩=some (.int .i64 n.num)∧Z.cell? ⟨w.heap.size+1,2,none⟩=some (.string n.name)∧Z.cell? ⟨w.heap.size+1,3,none⟩=some (.slice (some ⟨bk,ok,none⟩) n.kids.length ck)∧Z.cell? ⟨wr.heap.size,2,none⟩=some (.string n.kids[j].name) from by
      obtain ⟨e1,u2,h2⟩:=hs
      obtain ⟨_,u',_,fr,_⟩:=h9
      obtain ⟨c0,c1,c2,c3,c4,c5,c6,c7,c8,c9⟩:=KB.out _ _ _ h2
      exact ⟨e1,u2,h2,c0,c1,c2,c3,c4,c5,c6,c7,c8,c9,fr.cell (blc hY v2) fun e=>by
       rcases e with e | e
       ·have h1:=HR.out.1.1.lt;have h2:=HR.out.1.1.b;simp at e;omega
       ·have h1:=(HR.out.1.1.ge _ e.symm).2;simp at h1⟩)
    go_region_held3 (fun w'=>w'.cell? ⟨w.heap.size,0,none⟩=some (.slice Av P.vars.length cv)∧w'.cell? ⟨w.heap.size,1,none⟩=some (.slice Ap P.procs.length cp)∧w'.cell? ⟨w.heap.size,2,none⟩=some (.int .u8 P.main.kind)∧w'.cell? ⟨w.heap.size,3,none⟩=some (.int .i64 P.main.num)∧w'.cell? ⟨w.heap.size,4,none⟩=some (.string P.main.name)∧w'.cell? ⟨w.heap.size,5,none⟩=some (.slice Am P.main.kids.length cm)∧w'.cell? ⟨w.heap.size+1,0,none⟩=some (.int .u8 n.kind)∧w'.cell? ⟨w.heap.size+1,1,none⟩=some (.int .i64 n.num)∧w'.cell? ⟨w.heap.size+1,2,none⟩=some (.string n.name)∧w'.cell? ⟨w.heap.size+1,3,none⟩=some (.slice (some ⟨bk,ok,none⟩) n.kids.length ck)∧w'.cell? ⟨wr.heap.size,2,none⟩=some (.string n.kids[j].name))
     (first | exact S9.out | exact S8.out | exact S7.out | exact S6.out | trivial)
     (first
     | (go_simp;go_at_call 87;(with_reducible refine Calls.mono (HCH.out V.drew (bld hbP)) ?_);rintro e w8 ⟨A8,c8,rfl,hi8,hs8,hb8,hg8⟩;have H8:=kp (bls (bld hbP) hVD hb8);have HI8:=kp hi8;have S8:=kp (KS2.out w8 H8.out);clear hb8 hi8 hs8 hg8;dsimp only)
     | (go_simp;go_at_call 88;(with_reducible refine Calls.mono (HAR.out w8 H8.out) ?_);rintro e w7 ⟨rfl,hb7⟩;have H7:=kp (bls H8.out H8.out.size hb7);have HI7:=kp (HI8.out.mono hb7);have S7:=kp (KS2.out w7 H7.out);clear hb7;dsimp only)
     | (go_simp;(with_reducible refine Calls.mono (HRP.out w7 H7.out A8 c8 HI7.out) ?_);rintro e w6 h6;obtain ⟨rfl,u6,h6⟩:=KB2.out _ _ _ H7.out _ h6;have HZ6:=kp h6.1;have S6:=kp h6.2;clear h6;dsimp only)
     | fail)
    all_goals
     go_wp2_with fail
     exact ⟨⟨j+1,kj+er1 (argR P n j vis),u6,by omega,rfl,kp ⟨HZ6.out,by have h:=HR.out.2;rw [HEQ.out] at h;omega⟩⟩,by simp [intOf];omega⟩
   ·have HE:=kp (show RepP FB BT u (k+vcT P n vis) w (.returned (.tuple #[])) wr by
     have h:=HR.out.2
     rw [show n.kids.length - j=0 by omega,argsN,Nat.add_zero] at h
     have h1:=HR.out.1
     rw [h] at h1
     exact ⟨rfl,uj,h1.1,(Fr.of_below HT.out.1 _).trans h1.2.1 fun _ _ e=>e,fun g hg=>(h1.2.2 g hg).imp id fun q=>Nat.le_trans HT.out.1.size q⟩)
    have r1:¬ (j:Int)<n.kids.length:=by omega
    go_wp2_with fail
    go_end0
    exact HE.out
end Go.Proofs.YtgbomnibedefoaaGreatDoor
