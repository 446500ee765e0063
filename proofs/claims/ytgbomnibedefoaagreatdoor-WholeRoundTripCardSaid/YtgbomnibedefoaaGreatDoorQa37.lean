import Derived.Test.YtgbomnibedefoaaGreatDoorQa36
set_option maxRecDepth 100000
set_option maxHeartbeats 8000000
namespace Go.Proofs.YtgbomnibedefoaaGreatDoor
open Go.ChangeShapes Go.WideShapes Go.ChangeAt Go.RowKit Go.Sort
structure FsS (B:Nat) (w:World) (G:Gs) (w':World) (G':Gs) (σ':Mt):Prop where
 o:StO B w' G' σ'
 fr:Fr w w' (fun k=>anyS (G.R k))
 old:∀ k,k<w.heap.size→G'.R k=G.R k
 sb:G'.SB=G.SB
theorem FsS.trans {B:Nat} {w w1 w2:World} {G G1 G2:Gs} {σ1 σ2:Mt} (h:FsS B w G w1 G1 σ1) (h2:FsS B w1 G1 w2 G2 σ2):FsS B w G w2 G2 σ2:=
 ⟨h2.o,h.fr.trans h2.fr fun k hk e=>by rw [h.old k hk] at e;exact e,fun k hk=>(h2.old k (Nat.lt_of_lt_of_le hk h.fr.size)).trans (h.old k hk),h2.sb.trans h.sb⟩
theorem StO.locStep {B:Nat} {w:World} {G:Gs} {σ:Mt} (h:StO B w G σ) {fb fo:Nat} {f:Fm} (hc:CurL w G fb fo f) (n:Nat):FsS B w G (w.setCell ⟨fb,fo+2,none⟩ (.int .i64 n)) { G with fs:=G.fs.set (G.fs.length - 1) { f with loc:=n } } σ:=by
 have hrf:=CurL.role h hc
 have hf:=Fr.of_set w ⟨fb,fo+2,none⟩ (.int .i64 n)
 have hl:=h.locO.set hc.at_ hc.last (j:=2) (u:=.int .i64 n) (f':={ f with loc:=n }) (by omega) rfl
 have hrv:=h.frv _ f hc.last
 have hrc:=h.frc _ f hc.last
 have hu:=h.frUpd (R':=G.R) hf (fun k _ e=>by
  have e':k=fb:=e
  rw [e'];exact hrf.imp id .inl) (fun _ _=>rfl) (fun k hk=>⟨(h.ge k hk).1,Nat.lt_of_lt_of_le (h.ge k hk).2 hf.size⟩) hl
  (hrv.fr hf (fun k _ e1 e2=>by
   have e':k=fb:=e2
   rw [e'] at e1
   rcases hrf with q | q<;>rw [q] at e1<;>simp at e1) fun _ _=>rfl)
  (hrc.fr hf (fun k _ e1 e2=>by
   have e':k=fb:=e2
   rw [e'] at e1
   rcases hrf with q | q<;>rw [q] at e1<;>simp at e1) fun _ _=>rfl) (fun e he=>h.env _ f e hc.last he)
 exact ⟨hu,hf.mono fun k _ e=>by
  have e':k=fb:=e
  rw [e']
  rcases hrf with q | q<;>rw [q]<;>exact ⟨by simp,by simp⟩,fun _ _=>rfl,rfl⟩
theorem own_base {w:World} {b b' n s:Nat} {e:TypeId} {v:Value} {xs:List Value} (h:w.ownsRow b' e s v n xs) (hb:b≤b'):w.ownsRow b e s v n xs:=by
 obtain ⟨h1,h2⟩:=h
 refine ⟨h1,?_⟩
 rcases h2 with h2 | ⟨g,cap,cur,hv,hg,hr⟩
 ·exact .inl h2
 ·exact .inr ⟨g,cap,cur,hv,Nat.le_trans hb hg,hr⟩
theorem StO.cellNew {B:Nat} {w w':World} {G:Gs} {σ:Mt} (h:StO B w G σ) (hB:B≤w.heap.size) (hb:Below w.heap.size w w') {b:Nat} {v':Value} {l':List Int} (hbx:Bx w' b #[v']) (hge:w.heap.size≤b) (hrw:w'.ownsRow w.heap.size 3 1 v' l'.length (l'.map (.int .i64))) (hne:v'.ownBlock≠some b) :
  ∃ R',FsS B w G w' { G with cb:=G.cb++[b],it:=G.it++[v'],R:=R' } { σ with mem:=σ.mem++[l'] }:=by
 have hg:=obg hrw
 have hown:w'.ownsRow B 3 1 v' l'.length (l'.map (.int .i64)):=own_base hrw hB
 have hR1:∀ k,k<w.heap.size→putRo G.R (some b) (8,G.cb.length) k=G.R k:=putRo_old fun g e=>by cases e;exact .inl hge
 have hR:∀ k,k<w.heap.size→putRo (putRo G.R (some b) (8,G.cb.length)) v'.ownBlock (9,G.cb.length) k=G.R k:=fun k hk=>by
  rw [← hR1 k hk]
  exact putRo_old (n:=w.heap.size) (fun g e=>.inl (hg g e)) k hk
 refine ⟨putRo (putRo G.R (some b) (8,G.cb.length)) v'.ownBlock (9,G.cb.length),h.newCell hb hR ?_ ⟨hbx,?_⟩ ⟨hown,fun g e=>prs e⟩,Fr.of_below hb _,hR,rfl⟩
 ·exact putRo_ge (n:=w'.heap.size) (putRo_ge h.ge hb.size fun g e=>by cases e;exact ⟨Nat.le_trans hB hge,hbx.lt⟩) (Nat.le_refl _) fun g e=>⟨Nat.le_trans hB (hg g e),(hown.lt g e).2⟩
 ·rw [pro hne];exact prs rfl
def OpnP (B:Nat) (w:World) (G:Gs) (σ:Mt) (f:Fm) (v:Vd) (l:List Int) (e:Ending) (w':World):Prop:=
 if (findE f.env v.name).isSome then e=.returned (.int .i64 22)∧Below w.heap.size w w'
 else e=.returned (.int .i64 0)∧∃ G' vV cV,FsS B w G w' G' { σ with mem:=σ.mem++[l] }∧G'.fs=G.fs.set (G.fs.length - 1) ⟨f.env++[⟨v,σ.mem.length⟩],f.loc+1,vV,cV⟩
theorem opn_none {B:Nat} {w:World} {G:Gs} {σ:Mt} {f:Fm} {v:Vd} {l:List Int} {e:Ending} {w':World} (h:findE f.env v.name=none):OpnP B w G σ f v l e w'↔e=.returned (.int .i64 0)∧∃ G' vV cV,FsS B w G w' G' { σ with mem:=σ.mem++[l] }∧G'.fs=G.fs.set (G.fs.length - 1) ⟨f.env++[⟨v,σ.mem.length⟩],f.loc+1,vV,cV⟩:=by unfold OpnP;rw [h];simp
theorem opn_some {B:Nat} {w:World} {G:Gs} {σ:Mt} {f:Fm} {v:Vd} {l:List Int} {e:Ending} {w':World} {x:Ev} (h:findE f.env v.name=some x):OpnP B w G σ f v l e w'↔e=.returned (.int .i64 22)∧Below w.heap.size w w':=by unfold OpnP;rw [h];simp
def NewC (W V:World) (l:List Int):Prop:=∃ v',Bx V W.heap.size #[v']∧V.ownsRow W.heap.size 3 1 v' l.length (l.map (.int .i64))∧v'.ownBlock≠some W.heap.size∧Below W.heap.size W V
theorem newc_nil (W:World):NewC W (W.alloc (Obj.cells #[.slice none 0 0] 115)) []:=⟨.slice none 0 0,bxn W _ _,⟨rfl,.inl ⟨rfl,rfl⟩⟩,by simp [Value.ownBlock],blb W _⟩
theorem newc_one (W:World) (x:Int):NewC W ((W.alloc (Obj.cells #[.slice (some ⟨W.heap.size+1,0,none⟩) 1 1] 115)).alloc (Obj.cells #[.int .i64 x] 3)) [x]:=by
 have hb:=blb W (Obj.cells #[.slice (some ⟨W.heap.size+1,0,none⟩) 1 1] 115)
 have hb2:=blb (W.alloc (Obj.cells #[.slice (some ⟨W.heap.size+1,0,none⟩) 1 1] 115)) (Obj.cells #[.int .i64 x] 3)
 have h1:=(bxn W #[.slice (some ⟨W.heap.size+1,0,none⟩) 1 1] 115).below hb2
 have h2:=own_alloc_row (w:=W.alloc (Obj.cells #[.slice (some ⟨W.heap.size+1,0,none⟩) 1 1] 115)) (B:=W.heap.size) (n:=1) (cap:=1) (l:=[x]) (cs:=#[.int .i64 x]) (by simp) rfl rfl (Nat.le_refl _) (by unfold maxLen;omega) (fun j y hj=>by
  cases j with
  | zero=>simp at hj;subst hj;rfl
  | succ j=>simp at hj)
 exact ⟨_,h1,by simpa using h2,by simp [Value.ownBlock],bl2 hb hb2⟩
section
variable {B:Nat} {w:World} {G:Gs} {σ:Mt} {f:Fm}
theorem opn_fin {W Y w2:World} {G1:Gs} {fb fo:Nat} {v:Vd} {l:List Int} (hE:findE f.env v.name=none) (H1:FsS B W G Y G1 { σ with mem:=σ.mem++[l] }) (hc:CurL Y G1 fb fo f) {b:Nat} (hb:G1.cb[σ.mem.length]?=some b)
  (ha:AddP B Y fb fo (f.env.length+1) f.vV f.cV (vdCs (f.env.map (·.v))++v.cs) (ptrs G1.cb f.env++[.pointer (some ⟨b,0,none⟩)]) w2) (hfs:G1.fs=G.fs) (hW:Below w.heap.size w W) (hlo:f.loc≤100000) :
  w2.cell? ⟨fb,fo+2,none⟩=some (.int .i64 f.loc)∧w2.frozen? ⟨fb,fo+2,none⟩=false∧fb<w2.heap.size∧(f.loc:Int)+1≤200000∧Hid (OpnP B w G σ f v l (.returned (.int .i64 0)) (w2.setCell ⟨fb,fo+2,none⟩ (.int .i64 ((f.loc:Int)+1)))):=by
 obtain ⟨vV',cV',R',ho,hR,hfr⟩:=H1.o.addStep hc (v:=v) hb ha
 have hpos:=H1.o.fpos
 obtain ⟨fb2,fo2,f2,hc2⟩:=ho.cur
 obtain ⟨rfl,rfl⟩:=hc.uniq hc2 rfl rfl (by simp)
 have hl2:=hc2.last
 have hl3:(G1.fs.set (G1.fs.length - 1) ⟨f.env++[⟨v,σ.mem.length⟩],f.loc,vV',cV'⟩)[(G1.fs.set (G1.fs.length - 1) ⟨f.env++[⟨v,σ.mem.length⟩],f.loc,vV',cV'⟩).length - 1]?=some f2:=hl2
 rw [List.length_set,List.getElem?_set_self (by omega)] at hl3
 obtain rfl:=Option.some.inj hl3
 have HL:=ho.locStep hc2 (f.loc+1)
 have HT:=(H1.trans ⟨ho,hfr,hR,rfl⟩).trans HL
 refine ⟨hc2.loc.c2,hc2.loc.z2,hc2.loc.lt,by omega,kp ((opn_none hE).2 ⟨rfl,_,vV',cV',⟨HT.o,(Fr.of_below hW _).trans HT.fr fun _ _ e=>e,fun k hk=>HT.old k (Nat.lt_of_lt_of_le hk hW.size),HT.sb⟩,?_⟩)⟩
 show (G1.fs.set (G1.fs.length - 1) _).set ((G1.fs.set (G1.fs.length - 1) _).length - 1) _=_
 rw [List.length_set,List.set_set,hfs]
theorem open_any (h:StO B w G σ) (hB:B≤w.heap.size) (hf:G.fs[G.fs.length - 1]?=some f) (hl:f.env.length≤90000) (hlo:f.loc≤f.env.length) (v:Vd) (hk:v.kind=1∨v.kind=3) (hv0:v.len=0) (x:Int) :
  Calls Tryz.prog 100 #[.pointer (some ⟨G.SB,0,none⟩),v.val,.int .i64 x] w (OpnP B w G σ f v (if v.kind=1 then [x] else [])):=by
 have HB:=kp (blb w (Obj.cells #[.string v.name,.int .u8 v.kind,.int .i64 v.len] 62))
 have HRX:=kp (bxn w #[.string v.name,.int .u8 v.kind,.int .i64 v.len] 62)
 have HST:=kp (fun (Y:World) (hY:Below w.heap.size w Y)=>h.below hY)
 have HX:=kp (And.intro hf (And.intro hl (And.intro hlo hB)))
 have q1:((v.kind:Int) != 1)=!decide (v.kind=1):=by rw [bne,show (1:Int)=((1:Nat):Int) from rfl,beqD]
 have q3:((v.kind:Int) != 3)=!decide (v.kind=3):=by rw [bne,show (3:Int)=((3:Nat):Int) from rfl,beqD]
 have q2:((v.kind:Int) == 1)=decide (v.kind=1):=by rw [show (1:Int)=((1:Nat):Int) from rfl,beqD]
 have qv:(v.len != 0)=false:=by rw [hv0];rfl
 clear h hf hl hlo hB hv0
 unfold Vd.val
 go_enter Tryz.func100,Tryz.ntmps100
 go_upto_region 1 with fail
 generalize w.alloc _=W at HB HRX ⊢
 obtain ⟨a0,a1,a2,_⟩:=HRX.out.three
 have hla:=HRX.out.lt
 obtain ⟨fb,fo,f',hc⟩:=(HST.out W HB.out).cur
 obtain rfl:f'=f:=Option.some.inj (hc.last.symm.trans HX.out.1)
 have HCU:=kp (current_any (HST.out W HB.out) hc)
 obtain ⟨A1,c1,ev,hvs,hlen,_⟩:=(HST.out W HB.out).flen HX.out.1
 have y0:=hc.loc.c0
 rw [ev] at y0
 have HFI:=kp (show Calls Tryz.prog 135 #[.pointer (some ⟨fb,fo,none⟩),.string v.name] W fun e w'=>e=.returned (.int .i64 (fidx (f'.env.map (·.v)) v.name))∧W=w' from by
  refine ffind_any (f'.env.map (·.v)) (by rw [List.length_map];exact hlen) v.name fb fo A1 c1 W ?_ hvs
  rw [List.length_map];exact y0)
 have HC:=kp hc
 clear hc y0 ev hvs hlen
 rcases fidx_E f'.env v.name with ⟨hx,hE⟩ | ⟨i,e,hx,hi,hE⟩
 ·have HE:=kp hE
  have HKK:=kp (show (v.kind=1∧(if v.kind=1 then [x] else [])=[x])∨(¬ v.kind=1∧(if v.kind=1 then [x] else [])=[]) by
   by_cases h1:v.kind=1
   ·exact .inl ⟨h1,if_pos h1⟩
   ·exact .inr ⟨h1,if_neg h1⟩)
  have q3':decide (v.kind=1)=false→decide (v.kind=3)=true:=fun e=>decide_eq_true (by have:=of_decide_eq_false e;omega)
  generalize (if v.kind=1 then [x] else [])=ll at *
  have HK1:=kp (show (decide (v.kind=1)=true∧ll=[x])∨(decide (v.kind=1)=false∧ll=[]) from HKK.out.imp (fun q=>⟨decide_eq_true q.1,q.2⟩) fun q=>⟨decide_eq_false q.1,q.2⟩)
  rw [hx] at HFI
  generalize decide (v.kind=1)=b1 at *
  generalize decide (v.kind=3)=b3 at *
  clear hx hE hk HKK
  have hb3:b1=false→b3=true:=q3'
  clear q3'
  have HN8:=kp (newc_nil W)
  have HB8:=kp (blb W (Obj.cells #[.slice none 0 0] 115))
  go_upto_region 3 with fail
  go_cut [23] (fun u wc=>u=.bool false∧wc=W)
  case first=>
   cases b1
   ·rw [hb3 rfl] at q3
    go_wp2_with fail
    go_meet
    exact ⟨rfl,rfl⟩
   ·go_wp2_with fail
    go_meet
    exact ⟨rfl,rfl⟩
  case rest=>
   obtain ⟨rfl,hw⟩:=hcut
   obtain rfl:W=wc:=hw.symm
   clear q1 q3 qv hb3
   go_wp2_with fail
   refine HCU.out.mono ?_
   rintro e1 w1 ⟨rfl,rfl⟩
   go_wp2_with fail
   refine HFI.out.mono ?_
   rintro e1 w1 ⟨rfl,rfl⟩
   go_upto_if 35 with fail
   have HRX8:=kp (HRX.out.below HB8.out)
   go_cut [] (fun Y=>Hid (NewC W Y ll))
   case first=>
    rcases HK1.out with ⟨rfl,rfl⟩ | ⟨rfl,rfl⟩
    ·have HN9:=kp (newc_one W x)
     go_wp2_with fail
     go_meet
     exact HN9
    ·clear a0 a1 a2 hla
     go_wp2_with fail
     go_meet
     exact HN8
   case rest=>
    obtain ⟨v',hbx,hrw,hne,hbY⟩:=hcut.out
    clear hcut
    obtain ⟨R1,H1⟩:=(HST.out W HB.out).cellNew (Nat.le_trans HX.out.2.2.2 HB.out.size) hbY hbx (Nat.le_refl _) hrw hne
    have hlcb:(G.cb++[W.heap.size])[σ.mem.length]?=some W.heap.size:=by rw [← (HST.out W HB.out).lcb];simp
    generalize hG1:({ G with cb:=G.cb++[W.heap.size],it:=G.it++[v'],R:=R1 }:Gs)=G1 at H1
    have hfs1:G1.fs=G.fs:=by rw [← hG1]
    have hcb1:G1.cb=G.cb++[W.heap.size]:=by rw [← hG1]
    have hcv1:G1.cv=G.cv:=by rw [← hG1]
    rw [← hcb1] at hlcb
    obtain ⟨fb1,fo1,f1,hc1⟩:=H1.o.cur
    obtain ⟨rfl,rfl⟩:=HC.out.uniq hc1 H1.sb hcv1 (by rw [hfs1])
    obtain rfl:f1=f':=by
     have h1:=hc1.last
     rw [hfs1,HX.out.1] at h1
     exact (Option.some.inj h1).symm
    have hrv:=H1.o.frv _ f1 hc1.last
    have hrc:=H1.o.frc _ f1 hc1.last
    have hro:=CurL.role H1.o hc1
    have HAD:=kp (add_any hrv.1 hrc.1 hc1.loc.c0 hc1.loc.c1 hc1.loc.z0 hc1.loc.z1 (fun e=>by
     have:=hrv.2 _ e
     rcases hro with q | q<;>rw [q] at this<;>simp at this) (fun e=>by
     have:=hrc.2 _ e
     rcases hro with q | q<;>rw [q] at this<;>simp at this) (fun g hg e=>by
     have h1:=hrv.2 g hg
     rw [hrc.2 g e] at h1;simp at h1) (Nat.le_trans (Nat.le_trans HX.out.2.2.2 HB.out.size) hbY.size) (by have:=HX.out.2.1;omega) v W.heap.size)
    unfold Vd.val at HAD
    have HRY:=kp (HRX.out.below hbY)
    have HAS:=kp (fun (w2:World) (ha:AddP B wc fb1 fo1 (f1.env.length+1) f1.vV f1.cV (vdCs (f1.env.map (·.v))++v.cs) (ptrs G1.cb f1.env++[.pointer (some ⟨W.heap.size,0,none⟩)]) w2)=>opn_fin (v:=v) HE.out H1 hc1 hlcb ha hfs1 HB.out (by have:=HX.out.2.2.1;have:=HX.out.2.1;omega))
    clear hbx hrw hne hbY hlcb hrv hrc hro hc1 H1 hG1 hfs1 hcb1 hcv1 a0 a1 a2 hla
    obtain ⟨a0,a1,a2,_⟩:=HRY.out.three
    have hla:=HRY.out.lt
    go_wp2_with fail
    refine HAD.out.mono ?_
    rintro e2 w2 ⟨rfl,ha⟩
    obtain ⟨y2,z2,hlb2,hlo2,HF⟩:=HAS.out w2 ha
    clear ha
    go_wp2_with fail
    go_ret
    exact HF.out
 ·have HN:=kp (show OpnP B w G σ f' v (if v.kind=1 then [x] else []) (.returned (.int .i64 22)) W from (opn_some hE).2 ⟨rfl,HB.out⟩)
  rw [hx] at HFI
  have r0:(0:Int)≤i:=by omega
  clear hx hi hE
  rcases hk with hk | hk
  ·rw [decide_eq_true hk] at q1 q2
   generalize (if v.kind=1 then [x] else [])=ll at *
   clear hk
   go_wp2_with fail
   refine HCU.out.mono ?_
   rintro e1 w1 ⟨rfl,rfl⟩
   go_wp2_with fail
   refine HFI.out.mono ?_
   rintro e1 w1 ⟨rfl,rfl⟩
   go_wp2_with fail
   go_ret
   exact HN.out
  ·rw [decide_eq_false (show ¬ v.kind=1 by omega)] at q1 q2
   rw [decide_eq_true hk] at q3
   generalize (if v.kind=1 then [x] else [])=ll at *
   clear hk
   go_wp2_with fail
   refine HCU.out.mono ?_
   rintro e1 w1 ⟨rfl,rfl⟩
   go_wp2_with fail
   refine HFI.out.mono ?_
   rintro e1 w1 ⟨rfl,rfl⟩
   go_wp2_with fail
   go_ret
   exact HN.out
end
theorem ownB_slice (A:Option Addr) (n c m d:Nat):(Value.slice A n c).ownBlock=(Value.slice A m d).ownBlock:=by cases A<;>rfl
theorem own_prefixN {w:World} {B n s:Nat} {e:TypeId} {A:Option Addr} {c:Nat} {xs ys:List Value} {m:Nat} (h:w.ownsRow B e s (.slice A n c) n (xs++ys)) (hn:m≤n) (hx:xs.length=m*s) (h0:0<n):w.ownsRow B e s (.slice A m c) m xs:=by
 rcases id h.2 with ⟨hv,_⟩ | ⟨g,cap,cur,hv,hB,hh,hn',hc,h3,h4⟩
 ·injection hv with _ q _;omega
 ·injection hv with e1 e2 e3
  subst e1 e3
  refine ⟨hx,.inr ⟨g,c,cur,rfl,hB,hh,by omega,hc,h3,?_⟩⟩
  have h5:=congrArg (List.take (m*s)) h4
  rw [List.take_take,Nat.min_eq_left (Nat.mul_le_mul_right s hn),List.take_left' hx] at h5
  exact h5
section
variable {B:Nat} {w:World} {G:Gs} {σ:Mt} {f:Fm}
theorem StO.cutStep (h:StO B w G σ) {fb fo:Nat} (hc:CurL w G fb fo f) {env0:List Ev} {e:Ev} (he:f.env=env0++[e]) {A1 A2:Option Addr} {n c1 c2:Nat} (hn:f.env.length=n) (h1:f.vV=.slice A1 n c1) (h2:f.cV=.slice A2 n c2) {m:Nat} (hm:env0.length=m) :
  FsS B w G ((w.setCell ⟨fb,fo,none⟩ (.slice A1 m c1)).setCell ⟨fb,fo+1,none⟩ (.slice A2 m c2)) { G with fs:=G.fs.set (G.fs.length - 1) ⟨env0,f.loc,.slice A1 m c1,.slice A2 m c2⟩ } σ:=by
 have hrf:=CurL.role h hc
 have hpos:=h.fpos
 have hln:n=m+1:=by rw [← hn,he,List.length_append,hm];rfl
 have hf:Fr w ((w.setCell ⟨fb,fo,none⟩ (.slice A1 m c1)).setCell ⟨fb,fo+1,none⟩ (.slice A2 m c2)) (fun k=>k=fb):=(Fr.of_set w ⟨fb,fo,none⟩ _).trans (Fr.of_set _ ⟨fb,fo+1,none⟩ _) fun _ _ e=>e
 have hl1:=h.locO.set hc.at_ hc.last (j:=0) (u:=.slice A1 m c1) (f':={ f with vV:=.slice A1 m c1 }) (by omega) rfl
 have hlen:(G.fs.set (G.fs.length - 1) { f with vV:=.slice A1 m c1 }).length=G.fs.length:=List.length_set
 have hl2:=hl1.set (fb:=fb) (fo:=fo) (by unfold AtL;rw [hlen];exact hc.at_) (f:={ f with vV:=.slice A1 m c1 }) (by rw [hlen];exact List.getElem?_set_self (by omega)) (j:=1) (u:=.slice A2 m c2) (f':=⟨env0,f.loc,.slice A1 m c1,.slice A2 m c2⟩) (by omega) rfl
 rw [hlen,List.set_set] at hl2
 have hrv:=h.frv _ f hc.last
 have hrc:=h.frc _ f hc.last
 have hnr:∀ (r:Nat),∀ k,k<w.heap.size→G.R k=(r+6,G.fs.length - 1)→¬ (k=fb):=fun r k _ e1 e2=>by
  rw [e2] at e1
  rcases hrf with q | q<;>rw [q] at e1<;>simp at e1
 refine ⟨h.frUpd (R':=G.R) hf (fun k _ e=>by
  have e':k=fb:=e
  rw [e'];exact hrf.imp id .inl) (fun _ _=>rfl) (fun k hk=>⟨(h.ge k hk).1,Nat.lt_of_lt_of_le (h.ge k hk).2 hf.size⟩) hl2 ?_ ?_ (fun y hy=>h.env _ f y hc.last (by rw [he];exact List.mem_append_left _ hy)),hf.mono fun k _ e=>by
  have e':k=fb:=e
  rw [e']
  rcases hrf with q | q<;>rw [q]<;>exact ⟨by simp,by simp⟩,fun _ _=>rfl,rfl⟩
 ·have h3:=hrv.fr (R':=G.R) hf (hnr 0) fun _ _=>rfl
  rw [he,vdCs_push,h1] at h3
  refine ⟨?_,fun g hg=>h3.2 g ((ownB_slice A1 n c1 m c1).trans hg)⟩
  have h4:=h3.1
  rw [← he,hn] at h4
  show World.ownsRow _ B _ 3 (.slice A1 m c1) env0.length _
  rw [hm]
  exact own_prefixN h4 (by omega) (by rw [vdCs_len,List.length_map,hm]) (by omega)
 ·have h3:=hrc.fr (R':=G.R) hf (hnr 1) fun _ _=>rfl
  have hp:ptrs G.cb f.env=ptrs G.cb env0++ptrs G.cb [e]:=by rw [he];unfold ptrs;rw [List.map_append]
  rw [hp,h2] at h3
  refine ⟨?_,fun g hg=>h3.2 g ((ownB_slice A2 n c2 m c2).trans hg)⟩
  have h4:=h3.1
  rw [hn] at h4
  show World.ownsRow _ B _ 1 (.slice A2 m c2) env0.length _
  rw [hm]
  exact own_prefixN h4 (by omega) (by unfold ptrs;rw [List.length_map,hm,Nat.mul_one]) (by omega)
theorem clo_fin {w1:World} {fb fo:Nat} (h:StO B w1 G σ) (hw:Below w.heap.size w w1) (hc:CurL w1 G fb fo f) {env0:List Ev} {e:Ev} (he:f.env=env0++[e]) {A1 A2:Option Addr} {c1 c2 m:Nat} (hn:f.env.length=m+1) (h1:f.vV=.slice A1 (m+1) c1) (h2:f.cV=.slice A2 (m+1) c2) {l:Nat} :
  ∃ G' vV cV,FsS B w G (((w1.setCell ⟨fb,fo,none⟩ (.slice A1 m c1)).setCell ⟨fb,fo+1,none⟩ (.slice A2 m c2)).setCell ⟨fb,fo+2,none⟩ (.int .i64 l)) G' σ∧G'.fs=G.fs.set (G.fs.length - 1) ⟨env0,l,vV,cV⟩∧G'.cb=G.cb∧G'.it=G.it:=by
 have hm:env0.length=m:=by
  have h3:=congrArg List.length he
  rw [List.length_append,hn] at h3
  simp at h3;omega
 have hs:=h.cutStep hc he hn h1 h2 (m:=m) hm
 obtain ⟨fb2,fo2,f2,hc2⟩:=hs.o.cur
 have hpos:=h.fpos
 obtain ⟨rfl,rfl⟩:=hc.uniq hc2 rfl rfl (by simp)
 have hl2:(G.fs.set (G.fs.length - 1) ⟨env0,f.loc,.slice A1 m c1,.slice A2 m c2⟩)[(G.fs.set (G.fs.length - 1) ⟨env0,f.loc,.slice A1 m c1,.slice A2 m c2⟩).length - 1]?=some f2:=hc2.last
 rw [List.length_set,List.getElem?_set_self (by omega)] at hl2
 obtain rfl:=Option.some.inj hl2
 have hs2:=hs.trans (hs.o.locStep hc2 l)
 refine ⟨_,.slice A1 m c1,.slice A2 m c2,⟨hs2.o,(Fr.of_below hw _).trans hs2.fr fun _ _ e=>e,fun k hk=>hs2.old k (Nat.lt_of_lt_of_le hk hw.size),hs2.sb⟩,?_,rfl,rfl⟩
 show (G.fs.set (G.fs.length - 1) _).set ((G.fs.set (G.fs.length - 1) _).length - 1) _=_
 rw [List.length_set,List.set_set]
def CloP (B:Nat) (w:World) (G:Gs) (σ:Mt) (env0:List Ev) (n:Nat) (ok:Bool) (e:Ending) (w':World):Prop:=match ok with
 | true=>e=.returned (.int .i64 0)∧∃ G' vV cV,FsS B w G w' G' σ∧G'.fs=G.fs.set (G.fs.length - 1) ⟨env0,n,vV,cV⟩∧G'.cb=G.cb∧G'.it=G.it
 | false=>e=.returned (.int .i64 16)∧Below w.heap.size w w'
def cloB (k:Nat) (l:List Int) (x:Int):Bool:=if k=1 then decide (l=[x]) else decide (l=[])
theorem close_any (h:StO B w G σ) (hf:G.fs[G.fs.length - 1]?=some f) {env0:List Ev} {ev:Ev} (he:f.env=env0++[ev]) {n:Nat} (hn:f.loc=n+1) (hnl:n≤100000) (hel:env0.length≤100000) {l:List Int} (hl:σ.mem[ev.c]?=some l) (hk:(ev.v.kind=1∧l.length=1)∨ev.v.kind=3) (x:Int) :
  Calls Tryz.prog 101 #[.pointer (some ⟨G.SB,0,none⟩),.string ev.v.name,.int .i64 x] w (CloP B w G σ env0 n (cloB ev.v.kind l x)):=by
 obtain ⟨fb,fo,f',hc⟩:=h.cur
 obtain rfl:f'=f:=Option.some.inj (hc.last.symm.trans hf)
 have HCU:=kp (current_any h hc)
 obtain ⟨m,hm⟩:∃ m,env0.length=m:=⟨_,rfl⟩
 have hlen:f'.env.length=m+1:=by rw [he,List.length_append,hm];rfl
 obtain ⟨A,c,evv,hv,_,A2,c2,evc,hcs⟩:=h.flen hf
 have hrv:=(h.frv _ f' hf).1
 have hrc:=(h.frc _ f' hf).1
 rw [evv,hlen] at hrv
 rw [evc,hlen] at hrc
 obtain ⟨_,_,q1,hcap,hgv⟩:=ofb hrv
 obtain ⟨rfl,rfl⟩:=(Value.slice.inj q1).imp id And.right
 obtain ⟨_,_,q2,hcap2,hgc⟩:=ofb hrc
 obtain ⟨rfl,rfl⟩:=(Value.slice.inj q2).imp id And.right
 obtain ⟨gv,rfl,_⟩:=hgv (by omega)
 obtain ⟨gc,rfl,_⟩:=hgc (by omega)
 have hem:(f'.env.map (·.v))[m]'(by rw [List.length_map,hlen];omega)=ev.v:=by
  simp only [List.getElem_map]
  have:f'.env[m]'(by omega)=ev:=by
   have h3:f'.env[m]?=some ev:=by rw [he,List.getElem?_append_right (by omega),hm,Nat.sub_self];rfl
   exact (List.getElem?_eq_some_iff.1 h3).2
  rw [this]
 obtain ⟨b1,o1,e1,_,v0,v1,v2⟩:=hv.at_ (k:=m) (by rw [List.length_map,hlen];omega)
 rw [hem] at v0 v1
 clear v2
 cases e1
 rw [Nat.zero_add] at v0 v1
 have hmem:ev∈f'.env:=by rw [he];simp
 obtain ⟨b,l',A3,cap3,hb,hl',hbox,hints⟩:=h.var hf hmem
 obtain rfl:l'=l:=Option.some.inj (hl'.symm.trans hl)
 obtain ⟨b2,o2,e2,p0⟩:=hcs m (.pointer (some ⟨b,0,none⟩)) (by
  unfold ptrs
  rw [List.getElem?_map,he,List.getElem?_append_right (by omega),hm,Nat.sub_self]
  simp [hb])
 cases e2
 rw [Nat.zero_add] at p0
 have y0:=hc.loc.c0
 have y1:=hc.loc.c1
 have y2:=hc.loc.c2
 rw [evv,hlen] at y0
 rw [evc,hlen] at y1
 rw [hn] at y2
 have z0:=hc.loc.z0
 have z1:=hc.loc.z1
 have z2:=hc.loc.z2
 have hlb:=hc.loc.lt
 have hl1:=block_lt_of_cell v0
 have hl2:=block_lt_of_cell p0
 have hl3:=block_lt_of_cell hbox
 have HF:=kp (fun (Y:World) (hY:Below w.heap.size w Y)=>show ∃ G' vV cV,FsS B w G (((Y.setCell ⟨fb,fo,none⟩ (.slice (some ⟨gv,0,none⟩) m c)).setCell ⟨fb,fo+1,none⟩ (.slice (some ⟨gc,0,none⟩) m c2)).setCell ⟨fb,fo+2,none⟩ (.int .i64 n)) G' σ∧G'.fs=G.fs.set (G.fs.length - 1) ⟨env0,n,vV,cV⟩∧G'.cb=G.cb∧G'.it=G.it from by
  obtain ⟨fb2,fo2,f2,hc2⟩:=(h.below hY).cur
  obtain ⟨rfl,rfl⟩:=hc.uniq hc2 rfl rfl rfl
  obtain rfl:f2=f':=Option.some.inj (hc2.last.symm.trans hf)
  exact clo_fin (h.below hY) hY hc2 he hlen (by rw [evv,hlen]) (by rw [evc,hlen]))
 have hm5:m≤100000:=by omega
 have r0:(((m+1:Nat):Int))=(m:Int)+1:=by omega
 have r1:((m:Int)+1) - 1=m:=by omega
 have r2:(0:Int)≤m:=by omega
 have r3:(m:Int)<(m:Int)+1:=by omega
 have r4:¬ ((m:Int)<0):=by omega
 have r5:(m:Int)≤c:=by omega
 have r6:(m:Int)≤c2:=by omega
 have s0:(((n+1:Nat):Int))=(n:Int)+1:=by omega
 have s1:((n:Int)+1 == 0)=false:=by simp;omega
 have s2:((n:Int)+1) - 1=n:=by omega
 have s3:IntKind.i64.wrap ((n:Int)+1 - 1)=n:=by rw [IntKind.wrap_i64]<;>omega
 have HCB:=kp (show cloB ev.v.kind l' x=cloB ev.v.kind l' x from rfl)
 generalize hvk:ev.v.kind=vk at *
 generalize ev.v.name=vn at *
 clear h hc hf he hlen hv evv evc hcs hrv hrc q1 q2 hcap hcap2 hgv hgc hem hmem hb hl' hl hn hm HCB
 rcases hk with ⟨rfl,hl1'⟩ | rfl
 ·obtain ⟨y,rfl⟩:=lone hl1'
  obtain ⟨g3,o3,rfl,hy⟩:=hints 0 y rfl
  rw [Nat.add_zero] at hy
  have hl4:=block_lt_of_cell hy
  clear hints hl1'
  by_cases hyx:y=x
  ·subst hyx
   rw [show cloB 1 [y] y=true from by simp [cloB]]
   go_enter Tryz.func101,Tryz.ntmps101
   go_wp2_with fail
   refine HCU.out.mono ?_
   rintro e1 w1 ⟨rfl,rfl⟩
   go_upto_region 10 with fail
   go_region
   all_goals
    have HM:=kp (HF.out w.drew (bld (Below.refl _ _)))
    go_wp2_with fail
    go_ret
    exact ⟨rfl,HM.out⟩
  ·rw [show cloB 1 [y] x=false from by simp [cloB,hyx]]
   have hb2:(y != x)=true:=by simpa using hyx
   go_enter Tryz.func101,Tryz.ntmps101
   go_wp2_with fail
   refine HCU.out.mono ?_
   rintro e1 w1 ⟨rfl,rfl⟩
   go_wp2_with fail
   go_ret
   exact ⟨rfl,Below.refl _ _⟩
 ·clear hints
  by_cases hyx:l'=[]
  ·subst hyx
   rw [show cloB 3 [] x=true from rfl]
   rw [List.length_nil] at hbox
   go_enter Tryz.func101,Tryz.ntmps101
   go_wp2_with fail
   refine HCU.out.mono ?_
   rintro e1 w1 ⟨rfl,rfl⟩
   go_upto_region 10 with fail
   go_region
   all_goals
    have HM:=kp (HF.out w.drew (bld (Below.refl _ _)))
    go_wp2_with fail
    go_ret
    exact ⟨rfl,HM.out⟩
  ·rw [show cloB 3 l' x=false from by simp [cloB,hyx]]
   have hpos:(0:Int)<l'.length:=by have:=List.length_pos_iff.2 hyx;omega
   have hd:decide ((0:Int)<l'.length)=true:=decide_eq_true hpos
   go_enter Tryz.func101,Tryz.ntmps101
   go_wp2_with fail
   refine HCU.out.mono ?_
   rintro e1 w1 ⟨rfl,rfl⟩
   go_wp2_with fail
   go_ret
   exact ⟨rfl,Below.refl _ _⟩
end
theorem frCs_append (a b:List Fm):frCs (a++b)=frCs a++frCs b:=by unfold frCs;exact List.flatMap_append
section
variable {B:Nat} {w:World} {G:Gs} {σ:Mt} {f:Fm}
theorem StO.sbv {B:Nat} {w:World} {G:Gs} {σ:Mt} (h:StO B w G σ):w.cell? ⟨G.SB,3,none⟩=some G.cv∧w.frozen? ⟨G.SB,3,none⟩=false:=by
 obtain ⟨f0,_,h1,_⟩:=h.sto
 exact ⟨h1.cell rfl,h1.free 3⟩
theorem StO.calUpd {w':World} (h:StO B w G σ) {m:Nat→Prop} (hf:Fr w w' m) (hm:∀ k,k<w.heap.size→m k→G.R k=(1,0)∨G.R k=(5,0)) {R':Nat→Ro} (hR:∀ k,k<w.heap.size→R' k=G.R k) (hge:∀ k,R' k≠(0,0)→B≤k∧k<w'.heap.size)
  {fs':List Fm} {cv':Value} (hs:∃ f0,fs'[0]?=some f0∧BoxR w' R' (1,0) G.SB #[f0.vV,f0.cV,.int .i64 f0.loc,cv',.pointer (some ⟨G.TB,0,none⟩)]) (hc:RowR w' R' (5,0) B 108 3 cv' (fs'.length - 1) (frCs (fs'.drop 1)))
  (hfs:∀ i f,fs'[i]?=some f→G.fs[i]?=some f∨(RowR w' R' (6,i) B 62 3 f.vV f.env.length (vdCs (f.env.map (·.v)))∧RowR w' R' (7,i) B 113 1 f.cV f.env.length (ptrs G.cb f.env)∧∀ e∈f.env,e.c<σ.mem.length)) :
  StO B w' { G with fs:=fs',cv:=cv',R:=R' } σ:=by
 have key:∀ (r:Ro),r≠(1,0)→r≠(5,0)→∀ k,k<w.heap.size→G.R k=r→¬ m k:=fun r h0 h1 k hk e hmk=>by
  rcases hm k hk hmk with q | q
  ·exact h0 (e.symm.trans q)
  ·exact h1 (e.symm.trans q)
 refine ⟨hs,hc,h.tap.fr hf (key _ (by simp) (by simp)) hR,h.inn.fr hf (key _ (by simp) (by simp)) hR,h.out.fr hf (key _ (by simp) (by simp)) hR,?_,?_,h.lcb,h.lit,?_,?_,?_,hge⟩
 ·intro i b' hb'
  obtain ⟨v,e1,hv⟩:=h.cel i b' hb'
  exact ⟨v,e1,hv.fr hf (key _ (by simp) (by simp)) hR⟩
 ·intro i c' hc'
  obtain ⟨v,e1,hv⟩:=h.itm i c' hc'
  exact ⟨v,e1,hv.fr hf (key _ (by simp) (by simp)) hR⟩
 ·intro i g hi
  rcases hfs i g hi with q | ⟨q,_,_⟩
  ·exact (h.frv i g q).fr hf (key _ (by simp) (by simp)) hR
  ·exact q
 ·intro i g hi
  rcases hfs i g hi with q | ⟨_,q,_⟩
  ·exact (h.frc i g q).fr hf (key _ (by simp) (by simp)) hR
  ·exact q
 ·intro i g e hi he
  rcases hfs i g hi with q | ⟨_,_,q⟩
  ·exact h.env i g e q he
  ·exact q e he
theorem StO.leaveStep (h:StO B w G σ) {m c:Nat} {A:Option Addr} (hn:G.fs.length=m+2) (hcv:G.cv=.slice A (m+1) c):FsS B w G (w.setCell ⟨G.SB,3,none⟩ (.slice A m c)) { G with fs:=G.fs.dropLast,cv:=.slice A m c } σ:=by
 obtain ⟨f0,h0,h1,h2⟩:=h.sto
 have hf:=Fr.of_set w ⟨G.SB,3,none⟩ (.slice A m c)
 have hcal:=h.cal
 have hown:∀ g,G.cv.ownBlock=some g→¬ (g=G.SB):=fun g hg e=>by
  have:=hcal.2 g hg
  rw [e,h2] at this;simp at this
 have h3:=hf.own hcal.1 fun g hg e=>hown g hg e
 obtain ⟨fl,hfl⟩:∃ fl,G.fs[m+1]?=some fl:=⟨_,List.getElem?_eq_getElem (by omega)⟩
 have hsplit:G.fs.drop 1=(G.fs.dropLast.drop 1)++[fl]:=by
  apply List.ext_getElem?
  intro j
  by_cases hj:j<m
  ·rw [List.getElem?_drop,List.getElem?_append_left (by simp;omega),List.getElem?_drop,List.getElem?_dropLast,if_pos (by omega)]
  ·rw [List.getElem?_append_right (by simp;omega),List.getElem?_drop,List.length_drop,List.length_dropLast,hn]
   by_cases hj2:j=m
   ·subst hj2
    rw [show j - (j+2 - 1 - 1)=0 by omega,show 1+j=j+1 by omega,hfl]
    rfl
   ·rw [List.getElem?_eq_none (by omega)]
    rw [List.getElem?_eq_none (by simp;omega)]
 have h4:(w.setCell ⟨G.SB,3,none⟩ (.slice A m c)).ownsRow B 108 3 (.slice A m c) m (frCs (G.fs.dropLast.drop 1)):=by
  rw [hsplit,frCs_append,hcv,show G.fs.length - 1=m+1 by omega] at h3
  exact own_prefixN h3 (by omega) (by rw [frCs_len,List.length_drop,List.length_dropLast,hn];congr 1) (by omega)
 refine ⟨h.calUpd (R':=G.R) hf (fun k _ e=>.inl (by rw [show k=G.SB from e];exact h2)) (fun _ _=>rfl) (fun k hk=>⟨(h.ge k hk).1,Nat.lt_of_lt_of_le (h.ge k hk).2 hf.size⟩) ⟨f0,?_,?_,h2⟩ ⟨?_,?_⟩ fun i f hi=>.inl ?_,hf.mono fun k _ e=>by rw [show k=G.SB from e,h2];exact ⟨by simp,by simp⟩,fun _ _=>rfl,rfl⟩
 ·rw [List.getElem?_dropLast,if_pos (by omega)];exact h0
 ·exact h1.set 3 (.slice A m c)
 ·rw [show G.fs.dropLast.length - 1=m by rw [List.length_dropLast,hn];omega];exact h4
 ·exact fun g hg=>hcal.2 g (by rw [hcv];exact (ownB_slice A (m+1) c m c).trans hg)
 ·rw [List.getElem?_dropLast] at hi
  split at hi
  ·exact hi
  ·cases hi
def LeaP (B:Nat) (w:World) (G:Gs) (σ:Mt) (e:Ending) (w':World):Prop:=e=.returned (.int .i64 0)∧∃ G',FsS B w G w' G' σ∧G'.fs=G.fs.dropLast∧G'.cb=G.cb∧G'.it=G.it
theorem leave_any (h:StO B w G σ) (hf:G.fs[G.fs.length - 1]?=some f) (h1:1<G.fs.length) (hlo:f.loc=0) :
  Calls Tryz.prog 137 #[.pointer (some ⟨G.SB,0,none⟩)] w (LeaP B w G σ):=by
 obtain ⟨fb,fo,f',hc⟩:=h.cur
 obtain rfl:f'=f:=Option.some.inj (hc.last.symm.trans hf)
 have HCU:=kp (current_any h hc)
 obtain ⟨m,hm⟩:∃ m,G.fs.length=m+2:=⟨G.fs.length - 2,by omega⟩
 have hown:=h.cal.1
 rw [show G.fs.length - 1=m+1 by omega] at hown
 obtain ⟨A,c,ecv,hcap,hA⟩:=ofb hown
 obtain ⟨g,rfl,_⟩:=hA (by omega)
 obtain ⟨y0,z0⟩:=h.sbv
 rw [ecv] at y0
 have y2:=hc.loc.c2
 rw [hlo] at y2
 have hlb:=hc.loc.lt
 have hlS:=h.slt
 have hmx:m≤9223372036854775806:=by
  rcases hown.2 with ⟨q,_⟩ | ⟨g,cap,cur,q,_,_,h4,h5,_,_⟩
  ·rw [ecv] at q;cases q
  ·unfold maxLen at h5;omega
 have hD:=h.below (bld (Below.refl w.heap.size w))
 have HM:=kp (hD.leaveStep hm ecv)
 have HMM:=kp (show LeaP B w G σ (.returned (.int .i64 0)) (w.drew.setCell ⟨G.SB,3,none⟩ (.slice (some ⟨g,0,none⟩) m c)) from
  ⟨rfl,_,⟨HM.out.o,(drew_fr w _).trans HM.out.fr fun _ _ e=>e,fun k hk=>HM.out.old k hk,HM.out.sb⟩,rfl,rfl,rfl⟩)
 have r0:(((m+1:Nat):Int))=(m:Int)+1:=by omega
 have r1:((m:Int)+1) - 1=m:=by omega
 have r2:(0:Int)≤m:=by omega
 have r3:IntKind.i64.wrap ((m:Int)+1 - 1)=m:=by rw [IntKind.wrap_i64]<;>omega
 have r4:¬ ((m:Int)<0):=by omega
 have r5:(m:Int)≤c:=by omega
 have s1:((m:Int)+1 == 0)=false:=by simp;omega
 clear h hc hf h1 hlo hm hown ecv hcap hA hD HM
 go_enter Tryz.func137,Tryz.ntmps137
 go_wp2_with fail
 refine HCU.out.mono ?_
 rintro e1 w1 ⟨rfl,rfl⟩
 go_upto_region 5 with fail
 go_region
 all_goals
  go_wp2_with fail
  go_ret
  exact HMM.out
end
def enterN (env:List Ev):List Vd→List ByteArray→Option (List Ev)
 | [],[]=>some []
 | v::vs,a::al=>(findE env a).bind fun e=>if e.v.kind=v.kind∧e.v.len=v.len then (enterN env vs al).map fun r=>⟨v,e.c⟩::r else none
 | _,_=>none
theorem enterT_N (env:List Ev):∀ (vs:List Vd) (al:List Nd),enterT env vs al=enterN env vs (al.map Nd.name)
 | [],[]=>rfl
 | [],_::_=>rfl
 | _::_,[]=>rfl
 | v::vs,a::al=>by
   rw [enterT,List.map_cons,enterN]
   cases findE env a.name with
   | none=>rfl
   | some e=>rw [Option.bind_some,Option.bind_some,enterT_N env vs al]
theorem enterN_snoc (env:List Ev):∀ (vs:List Vd) (al:List ByteArray) (v:Vd) (a:ByteArray) (r:List Ev),enterN env vs al=some r→enterN env (vs++[v]) (al++[a])=(findE env a).bind fun e=>if e.v.kind=v.kind∧e.v.len=v.len then some (r++[⟨v,e.c⟩]) else none
 | [],[],v,a,r,h=>by
   cases h
   show enterN env (v::[]) (a::[])=_
   rw [enterN]
   rfl
 | [],_::_,_,_,_,h=>by cases h
 | _::_,[],_,_,_,h=>by cases h
 | w::vs,b::al,v,a,r,h=>by
   rw [enterN] at h
   show enterN env (w::(vs++[v])) (b::(al++[a]))=_
   rw [enterN]
   cases hb:findE env b with
   | none=>rw [hb] at h;cases h
   | some e=>
     rw [hb,Option.bind_some] at h
     rw [Option.bind_some]
     by_cases hc:e.v.kind=w.kind∧e.v.len=w.len
     ·rw [if_pos hc] at h ⊢
      cases hr:enterN env vs al with
      | none=>rw [hr] at h;cases h
      | some r'=>
        rw [hr] at h
        cases h
        rw [enterN_snoc env vs al v a r' hr]
        cases findE env a with
        | none=>rfl
        | some e'=>
          rw [Option.bind_some,Option.bind_some]
          by_cases hd:e'.v.kind=v.kind∧e'.v.len=v.len
          ·rw [if_pos hd,if_pos hd];rfl
          ·rw [if_neg hd,if_neg hd];rfl
     ·rw [if_neg hc] at h;cases h
theorem enterN_stop (env:List Ev):∀ (vs:List Vd) (al:List ByteArray) (k:Nat),k≤vs.length→k≤al.length→enterN env (vs.take k) (al.take k)=none→enterN env vs al=none
 | vs,al,0,_,_,h=>by simp [enterN] at h
 | [],_,k+1,h1,_,_=>by simp at h1
 | _::_,[],k+1,_,h2,_=>by simp at h2
 | v::vs,a::al,k+1,h1,h2,h=>by
   rw [List.take_succ_cons,List.take_succ_cons,enterN] at h
   rw [enterN]
   cases hb:findE env a with
   | none=>rfl
   | some e=>
     rw [hb,Option.bind_some] at h
     rw [Option.bind_some]
     by_cases hc:e.v.kind=v.kind∧e.v.len=v.len
     ·rw [if_pos hc] at h ⊢
      have h3:enterN env (vs.take k) (al.take k)=none:=by
       cases hr:enterN env (vs.take k) (al.take k) with
       | none=>rfl
       | some r=>rw [hr] at h;cases h
      rw [enterN_stop env vs al k (by simpa using h1) (by simpa using h2) h3]
      rfl
     ·rw [if_neg hc]
def FnR (cb:List Nat) (N:Nat) (w:World) (nb:Nat) (env:List Ev):Prop:=∃ vV cV,Bx w nb #[vV,cV,.int .i64 0]∧w.ownsRow N 62 3 vV env.length (vdCs (env.map (·.v)))∧w.ownsRow N 113 1 cV env.length (ptrs cb env)∧vV.ownBlock≠some nb∧cV.ownBlock≠some nb∧(∀ g,vV.ownBlock=some g→cV.ownBlock≠some g)∧N≤nb
theorem FnR.below {cb:List Nat} {N nb:Nat} {w w':World} {env:List Ev} (h:FnR cb N w nb env) (hb:Below w.heap.size w w'):FnR cb N w' nb env:=by
 obtain ⟨vV,cV,h1,h2,h3,h4⟩:=h
 exact ⟨vV,cV,h1.below hb,obl h2 hb,obl h3 hb,h4⟩
theorem FnR.nil (cb:List Nat) (w:World):FnR cb w.heap.size (w.alloc (Obj.cells #[.slice none 0 0,.slice none 0 0,.int .i64 0] 108)) w.heap.size []:=
 ⟨.slice none 0 0,.slice none 0 0,bxn w _ _,⟨rfl,.inl ⟨rfl,rfl⟩⟩,⟨rfl,.inl ⟨rfl,rfl⟩⟩,by simp [Value.ownBlock],by simp [Value.ownBlock],by simp [Value.ownBlock],Nat.le_refl _⟩
theorem FnR.add {cb:List Nat} {N nb:Nat} {w w':World} {env:List Ev} {vV cV:Value} (h1:Bx w nb #[vV,cV,.int .i64 0]) (h2:w.ownsRow N 62 3 vV env.length (vdCs (env.map (·.v)))) (h3:w.ownsRow N 113 1 cV env.length (ptrs cb env)) (h4:vV.ownBlock≠some nb) (h5:cV.ownBlock≠some nb) (h6:∀ g,vV.ownBlock=some g→cV.ownBlock≠some g) (h7:N≤nb)
  {v:Vd} {c b:Nat} (hb:cb[c]?=some b) (ha:AddP N w nb 0 (env.length+1) vV cV (vdCs (env.map (·.v))++v.cs) (ptrs cb env++[.pointer (some ⟨b,0,none⟩)]) w') :
  FnR cb N w' nb (env++[⟨v,c⟩])∧Fr w w' (fun k=>N≤k):=by
 obtain ⟨w0,w1,vV',w2,w3,cV',hb0,hx1,hb2,hx2,rfl⟩:=ha
 have hvlt:∀ g,vV.ownBlock=some g→g<w.heap.size:=fun g hg=>(h2.lt g hg).2
 have hclt:∀ g,cV.ownBlock=some g→g<w.heap.size:=fun g hg=>(h3.lt g hg).2
 have hnb:=h1.lt
 have hs1:w.heap.size≤w1.heap.size:=Nat.le_trans hb0.size hx1.fr.size
 have hs2:w1.heap.size≤w2.heap.size:=by have:=hb2.size;simpa using this
 have hv'lt:∀ g,vV'.ownBlock=some g→g<w1.heap.size:=fun g hg=>(hx1.own.lt g hg).2
 have hv'nb:vV'.ownBlock≠some nb:=fun e=>by
  rcases hx1.at_ with q | ⟨g,q,hg⟩
  ·exact h4 (q▸e)
  ·rw [q] at e;cases e;have:=hb0.size;omega
 have hc'nb:cV'.ownBlock≠some nb:=fun e=>by
  rcases hx2.at_ with q | ⟨g,q,hg⟩
  ·exact h5 (q▸e)
  ·rw [q] at e;cases e;omega
 have hcv':∀ g,vV'.ownBlock=some g→cV.ownBlock≠some g:=fun g hg e=>by
  rcases hx1.at_ with q | ⟨g',q,hg'⟩
  ·exact h6 g (q▸hg) e
  ·rw [q] at hg;cases hg;have:=hclt g e;have:=hb0.size;omega
 have hc'v':∀ g,vV'.ownBlock=some g→cV'.ownBlock≠some g:=fun g hg e=>by
  rcases hx2.at_ with q | ⟨g',q,hg'⟩
  ·exact hcv' g hg (q▸e)
  ·rw [q] at e;cases e;have:=hv'lt g hg;omega
 have hf1:Fr w w1 (fun k=>some k=vV.ownBlock):=(Fr.of_below hb0 _).trans hx1.fr fun _ _ e=>e
 have hf3:Fr (w1.setCell ⟨nb,0,none⟩ vV') w3 (fun k=>some k=cV.ownBlock):=(Fr.of_below hb2 _).trans hx2.fr fun _ _ e=>e
 refine ⟨⟨vV',cV',?_,?_,?_,hv'nb,hc'nb,hc'v',h7⟩,?_⟩
 ·have b1:=((h1.fr hf1 fun e=>h4 e.symm).set 0 vV').fr hf3 fun e=>h5 e.symm
  exact b1.set 1 cV'
 ·rw [vdCs_push,List.length_append]
  have q1:=(Fr.of_set w1 ⟨nb,0,none⟩ vV').own hx1.own fun g hg e=>hv'nb (by rw [hg,show g=nb from e])
  have q2:=hf3.own q1 fun g hg e=>hcv' g hg e.symm
  exact (Fr.of_set w3 ⟨nb,0+1,none⟩ cV').own q2 fun g hg e=>hv'nb (by rw [hg,show g=nb from e])
 ·rw [ptrs_push _ _ _ hb,List.length_append]
  exact (Fr.of_set w3 ⟨nb,0+1,none⟩ cV').own hx2.own fun g hg e=>hc'nb (by rw [hg,show g=nb from e])
 ·have gv:=obg h2
  have gc:=obg h3
  exact (((hf1.mono fun k _ e=>gv k e.symm).trans (Fr.of_set w1 ⟨nb,0,none⟩ vV') fun k _ e=>by rw [show k=nb from e];exact h7).trans (hf3.mono fun k _ e=>gc k e.symm) fun _ _ e=>e).trans (Fr.of_set w3 ⟨nb,0+1,none⟩ cV') fun k _ e=>by rw [show k=nb from e];exact h7
section
variable {B:Nat} {w:World} {G:Gs} {σ:Mt} {f:Fm}
theorem StO.enterStep (h:StO B w G σ) (hB:B≤w.heap.size) {Y w9:World} (hb:Below w.heap.size w Y) {env2:List Ev} {vV cV cv':Value} (h2:Y.ownsRow w.heap.size 62 3 vV env2.length (vdCs (env2.map (·.v)))) (h3:Y.ownsRow w.heap.size 113 1 cV env2.length (ptrs G.cb env2)) (h6:∀ g,vV.ownBlock=some g→cV.ownBlock≠some g)
  (henv:∀ e∈env2,e.c<σ.mem.length) (hx:RwX B 108 3 Y G.cv (G.fs.length - 1+1) (frCs (G.fs.drop 1)++[vV,cV,.int .i64 0]) w9 cv') :
  ∃ R',FsS B w G (w9.setCell ⟨G.SB,3,none⟩ cv') { G with fs:=G.fs++[⟨env2,0,vV,cV⟩],cv:=cv',R:=R' } σ:=by
 obtain ⟨f0,q0,q1,q2⟩:=h.sto
 have hpos:=h.fpos
 have hcal:=h.cal
 have gv:=obg h2
 have gc:=obg h3
 have hvlt:∀ g,vV.ownBlock=some g→g<Y.heap.size:=fun g hg=>(h2.lt g hg).2
 have hclt:∀ g,cV.ownBlock=some g→g<Y.heap.size:=fun g hg=>(h3.lt g hg).2
 have hold:∀ g,G.cv.ownBlock=some g→g<w.heap.size:=fun g hg=>(hcal.1.lt g hg).2
 have hSB:=q1.lt
 have hcvSB:G.cv.ownBlock≠some G.SB:=fun e=>by
  have:=hcal.2 _ e
  rw [q2] at this;simp at this
 have hcv'SB:cv'.ownBlock≠some G.SB:=fun e=>by
  rcases hx.at_ with q | ⟨g,q,hg⟩
  ·exact hcvSB (q▸e)
  ·rw [q] at e;cases e;have:=hb.size;omega
 have hv':∀ g,vV.ownBlock=some g→cv'.ownBlock≠some g:=fun g hg e=>by
  rcases hx.at_ with q | ⟨g',q,hg'⟩
  ·have:=hold g (q▸e);have:=gv g hg;omega
  ·rw [q] at e;cases e;have:=hvlt g hg;omega
 have hc':∀ g,cV.ownBlock=some g→cv'.ownBlock≠some g:=fun g hg e=>by
  rcases hx.at_ with q | ⟨g',q,hg'⟩
  ·have:=hold g (q▸e);have:=gc g hg;omega
  ·rw [q] at e;cases e;have:=hclt g hg;omega
 have hR1:∀ k,k<w.heap.size→putRo G.R vV.ownBlock (6,G.fs.length) k=G.R k:=putRo_old fun g hg=>.inl (gv g hg)
 have hR2:∀ k,k<w.heap.size→putRo (putRo G.R vV.ownBlock (6,G.fs.length)) cV.ownBlock (7,G.fs.length) k=G.R k:=fun k hk=>by
  rw [← hR1 k hk]
  exact putRo_old (n:=w.heap.size) (fun g hg=>.inl (gc g hg)) k hk
 have hR:∀ k,k<w.heap.size→putRo (putRo (putRo G.R vV.ownBlock (6,G.fs.length)) cV.ownBlock (7,G.fs.length)) cv'.ownBlock (5,0) k=G.R k:=fun k hk=>by
  rw [← hR2 k hk]
  refine putRo_old (n:=w.heap.size) (fun g hg=>?_) k hk
  rcases hx.at_ with q | ⟨g',q,hg'⟩
  ·have hg2:G.cv.ownBlock=some g:=q▸hg
   exact .inr (by rw [hR2 g (hold g hg2)];exact hcal.2 g hg2)
  ·rw [q] at hg;cases hg;exact .inl (Nat.le_trans hb.size hg')
 have hs9:Y.heap.size≤w9.heap.size:=hx.fr.size
 have hse:w9.heap.size=(w9.setCell ⟨G.SB,3,none⟩ cv').heap.size:=by simp
 have hge:∀ k,putRo (putRo (putRo G.R vV.ownBlock (6,G.fs.length)) cV.ownBlock (7,G.fs.length)) cv'.ownBlock (5,0) k≠(0,0)→B≤k∧k<(w9.setCell ⟨G.SB,3,none⟩ cv').heap.size:=by
  refine putRo_ge (n:=Y.heap.size) (putRo_ge (n:=Y.heap.size) (putRo_ge h.ge hb.size fun g hg=>⟨Nat.le_trans hB (gv g hg),hvlt g hg⟩) (Nat.le_refl _) fun g hg=>⟨Nat.le_trans hB (gc g hg),hclt g hg⟩) (by omega) fun g hg=>⟨obg hx.own g hg,by have:=(hx.own.lt g hg).2;omega⟩
 have hf9:Fr w w9 (fun k=>some k=G.cv.ownBlock):=(Fr.of_below hb _).trans hx.fr fun _ _ e=>e
 have hf:Fr w (w9.setCell ⟨G.SB,3,none⟩ cv') (fun k=>k=G.SB∨some k=G.cv.ownBlock):=(hf9.mono fun k _ e=>.inr e).trans (Fr.of_set w9 ⟨G.SB,3,none⟩ cv') fun k _ e=>.inl e
 have hm:∀ k,k<w.heap.size→(k=G.SB∨some k=G.cv.ownBlock)→G.R k=(1,0)∨G.R k=(5,0):=fun k _ e=>by
  rcases e with rfl | e
  ·exact .inl q2
  ·exact .inr (hcal.2 k e.symm)
 have hset:∀ {e:TypeId} {s n:Nat} {v:Value} {xs:List Value},w9.ownsRow B e s v n xs→v.ownBlock≠some G.SB→(w9.setCell ⟨G.SB,3,none⟩ cv').ownsRow B e s v n xs:=fun ho hn=>(Fr.of_set w9 ⟨G.SB,3,none⟩ cv').own ho fun g hg e=>hn (by rw [hg,show g=G.SB from e])
 have hrows:∀ {e:TypeId} {s n:Nat} {v:Value} {xs:List Value},Y.ownsRow w.heap.size e s v n xs→(w9.setCell ⟨G.SB,3,none⟩ cv').ownsRow B e s v n xs:=fun ho=>by
  have gg:=obg ho
  refine hset (own_base (hx.fr.own ho fun g hg e=>?_) hB) fun e=>?_
  ·have:=hold g e.symm;have:=gg g hg;omega
  ·have:=gg _ e;omega
 refine ⟨_,h.calUpd hf hm hR hge ⟨f0,?_,?_,?_⟩ ⟨?_,?_⟩ fun i g hi=>?_,hf.mono fun k hk e=>?_,hR,rfl⟩
 ·rw [List.getElem?_append_left (by omega)];exact q0
 ·exact (q1.fr hf9 fun e=>hcvSB e.symm).set 3 cv'
 ·rw [hR _ hSB];exact q2
 ·have hd:(G.fs++[(⟨env2,0,vV,cV⟩:Fm)]).drop 1=G.fs.drop 1++[⟨env2,0,vV,cV⟩]:=by rw [List.drop_append_of_le_length (by omega)]
  rw [hd,frCs_append,List.length_append,show G.fs.length+[(⟨env2,0,vV,cV⟩:Fm)].length - 1=G.fs.length - 1+1 by simp;omega]
  exact hset hx.own hcv'SB
 ·exact fun g hg=>prs hg
 ·by_cases hl:i<G.fs.length
  ·rw [List.getElem?_append_left hl] at hi
   exact .inl hi
  ·have hlt:=(List.getElem?_eq_some_iff.1 hi).1
   simp at hlt
   obtain rfl:i=G.fs.length:=by omega
   rw [List.getElem?_append_right (Nat.le_refl _),Nat.sub_self] at hi
   cases hi
   refine .inr ⟨⟨hrows h2,fun g hg=>?_⟩,⟨hrows h3,fun g hg=>?_⟩,henv⟩
   ·rw [pro (hv' g hg),pro (h6 g hg)];exact prs hg
   ·rw [pro (hc' g hg)];exact prs hg
 ·rcases hm k hk e with q | q<;>rw [q]<;>exact ⟨by simp,by simp⟩
end
end Go.Proofs.YtgbomnibedefoaaGreatDoor
