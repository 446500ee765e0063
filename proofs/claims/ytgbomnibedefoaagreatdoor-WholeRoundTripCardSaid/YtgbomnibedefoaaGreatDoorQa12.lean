import Derived.Deep.RegionLawGrows
import Derived.Test.YtgbomnibedefoaaGreatDoorQa10
set_option maxRecDepth 100000
set_option maxHeartbeats 8000000
namespace Go.Proofs.YtgbomnibedefoaaGreatDoor
open Go.ChangeShapes Go.WideShapes Go.ChangeAt Go.RowKit Go.Sort
theorem clipI_any (A:Option Addr) (n cap:Nat) (w:World) (h:SlOk A n cap) :
  Calls Tryz.prog 119 #[.slice A n cap] w fun e w'=>e=.returned (.slice A n n)∧w=w':=by
 have hc:=h.1
 have r0:(0:Int)≤n:=by omega
 have r1:(n:Int)≤cap:=by omega
 cases A with
 | none=>
   obtain rfl:=h.full rfl
   obtain rfl:=h.2 rfl
   go_enter Tryz.func119,Tryz.ntmps119
   go_wp2_with fail
   go_ret
   exact ⟨rfl,rfl⟩
 | some a=>
   go_enter Tryz.func119,Tryz.ntmps119
   go_wp2_with fail
   go_ret
   exact ⟨rfl,rfl⟩
theorem clipV_any (A:Option Addr) (n cap:Nat) (w:World) (h:SlOk A n cap) :
  Calls Tryz.prog 120 #[.slice A n cap] w fun e w'=>e=.returned (.slice A n n)∧w=w':=by
 have hc:=h.1
 have r0:(0:Int)≤n:=by omega
 have r1:(n:Int)≤cap:=by omega
 cases A with
 | none=>
   obtain rfl:=h.full rfl
   obtain rfl:=h.2 rfl
   go_enter Tryz.func120,Tryz.ntmps120
   go_wp2_with fail
   go_ret
   exact ⟨rfl,rfl⟩
 | some a=>
   go_enter Tryz.func120,Tryz.ntmps120
   go_wp2_with fail
   go_ret
   exact ⟨rfl,rfl⟩
def vdCs (l:List Vd):List Value:=l.flatMap Vd.cs
theorem vdCs_len (l:List Vd):(vdCs l).length=l.length*3:=by
 unfold vdCs
 induction l with
 | nil=>rfl
 | cons v r ih=>rw [List.flatMap_cons,List.length_append,ih,List.length_cons];simp [Vd.cs];omega
theorem vdCs_snoc (l:List Vd) (v:Vd):vdCs (l++[v])=vdCs l++v.cs:=by unfold vdCs;rw [List.flatMap_append];simp
theorem vdCs_get {l:List Vd} {k:Nat} {v:Vd} (hk:l[k]?=some v):(vdCs l)[k*3]?=some (.string v.name)∧(vdCs l)[k*3+1]?=some (.int .u8 v.kind)∧(vdCs l)[k*3+2]?=some (.int .i64 v.len):=by
 induction l generalizing k with
 | nil=>simp at hk
 | cons x r ih=>
   have e:vdCs (x::r)=.string x.name::.int .u8 x.kind::.int .i64 x.len::vdCs r:=by unfold vdCs;rw [List.flatMap_cons];rfl
   rw [e]
   cases k with
   | zero=>simp at hk;subst hk;exact ⟨rfl,rfl,rfl⟩
   | succ k=>
     simp at hk
     obtain ⟨h1,h2,h3⟩:=ih hk
     rw [show (k+1)*3=k*3+3 by omega]
     exact ⟨h1,h2,h3⟩
theorem vdCs_inv {l:List Vd} {j:Nat} {u:Value} (h:(vdCs l)[j]?=some u):∃ v,l[j / 3]?=some v∧v.cs[j % 3]?=some u:=by
 induction l generalizing j with
 | nil=>simp [vdCs] at h
 | cons x r ih=>
   have e:vdCs (x::r)=x.cs++vdCs r:=by unfold vdCs;rw [List.flatMap_cons]
   rw [e] at h
   by_cases hj:j<3
   ·rw [List.getElem?_append_left (by simpa [Vd.cs] using hj)] at h
    exact ⟨x,by rw [Nat.div_eq_of_lt hj];rfl,by rw [Nat.mod_eq_of_lt hj];exact h⟩
   ·rw [List.getElem?_append_right (by simp [Vd.cs];omega)] at h
    obtain ⟨v,h1,h2⟩:=ih h
    have hl:x.cs.length=3:=rfl
    rw [hl] at h1 h2
    refine ⟨v,?_,?_⟩
    ·rw [show j / 3=(j - 3) / 3+1 by omega,List.getElem?_cons_succ];exact h1
    ·rw [show j % 3=(j - 3) % 3 by omega];exact h2
theorem VdsAt.cells {w:World} {A:Option Addr} {l:List Vd} (h:VdsAt w A l):∀ b,A=some b→∀ (j:Nat) (u:Value),(vdCs l)[j]?=some u→w.cell? (b.add j)=some u:=fun b hb j u hu=>by
 obtain ⟨v,h1,h2⟩:=vdCs_inv hu
 obtain ⟨b',o,e,c0,c1,c2⟩:=h _ v h1
 rw [hb] at e
 cases e
 rw [Addr.add_lit]
 have hj:j % 3=0∨j % 3=1∨j % 3=2:=by omega
 rcases hj with q | q | q<;>rw [q] at h2<;>cases h2
 ·rw [show o+j=o+j / 3*3 by omega];exact c0
 ·rw [show o+j=o+j / 3*3+1 by omega];exact c1
 ·rw [show o+j=o+j / 3*3+2 by omega];exact c2
theorem vds_of_own {w:World} {base:Nat} {e:TypeId} {v:Value} {l:List Vd} (h:w.ownsRow base e 3 v l.length (vdCs l)):∃ A c,v=.slice A l.length c∧SlOk A l.length c∧VdsAt w A l:=by
 obtain ⟨_,c0,e0,h00,_⟩:=ofb h
 rcases id h.2 with ⟨rfl,h0⟩ | ⟨g,cap,cur,rfl,hg,hh,hc1,hc2,hc3,hc4⟩
 ·refine ⟨none,0,by rw [h0],⟨by omega,fun _=>rfl⟩,fun k x hk=>?_⟩
  have:l=[]:=List.length_eq_zero_iff.1 h0
  subst this;simp at hk
 ·cases e0
  refine ⟨some ⟨g,0,none⟩,_,rfl,⟨h00,fun e=>by cases e⟩,fun k x hk=>⟨g,0,rfl,?_⟩⟩
  obtain ⟨h1,h2,h3⟩:=vdCs_get hk
  have key:∀ (j:Nat) (u:Value),(vdCs l)[j]?=some u→w.cell? ⟨g,0+j,none⟩=some u:=fun j u hu=>by
   have:=h.cells (g:=g) rfl j u hu
   rw [add0] at this
   rw [Nat.zero_add];exact this
  exact ⟨by have:=key _ _ h1;simpa using this,by have:=key _ _ h2;simpa [Nat.add_assoc] using this,by have:=key _ _ h3;simpa [Nat.add_assoc] using this⟩
theorem info_vd:(Tryz.prog.info? 62).map (fun i=>(i.zero,i.size,i.bytes))=some (some (.agg #[.string ⟨#[]⟩,.int .u8 0,.int .i64 0]),3,32):=by kernel_rfl
def innerT (n:Nd) (i:Nat) (l:List Vd):List Vd:=if n.kind=54∧i=1 then l++[intV n] else if n.kind=55∧i=0 then l++[stkV n] else l
def InrP (l l0:List Vd) (A0:Option Addr) (w:World) (e:Ending) (w':World):Prop:=∃ A c,e=.returned (.slice A l.length c)∧VdsAt w' A l∧SlOk A l.length c∧Below w.heap.size w w'∧((∀ b o,A=some ⟨b,o,none⟩→w.heap.size≤b)∨(A=A0∧l=l0))
theorem cells_hc {w:World} {ad:Addr} {cs:List Value} (h:CellsAt w (some ad) cs):∀ (j:Nat) (u:Value),cs[j]?=some u→w.cell? (ad.add j)=some u:=fun j u hj=>by
 obtain ⟨b,o,e,c⟩:=h j u hj
 cases e
 rw [Addr.add_lit];exact c
theorem below_da (W:World) (cs:Array Value) (T:TypeId):Below W.heap.size W (W.drew.alloc (Obj.cells cs T)):=(bld (Below.refl W.heap.size W)).alloc (Nat.le_refl _) _
theorem inr_done {W w9:World} {l:List Vd} {v:Vd} {v':Value} {cs:Array Value} {T:TypeId} {base:Nat} {e:TypeId} (hb:Below base W W) (hsz:base≤W.heap.size) (hown:w9.ownsRow ((W.drew.alloc (Obj.cells cs T)).heap.size) e 3 v' (l.length+1) (vdCs l++v.cs)) (hgrow:(W.drew.alloc (Obj.cells cs T)).grownBy w9 none):∃ A c,v'=.slice A (l++[v]).length c∧VdsAt w9 A (l++[v])∧SlOk A (l++[v]).length c∧Below W.heap.size W w9∧∀ b o,A=some ⟨b,o,none⟩→W.heap.size≤b:=by
 have _:=hb
 have _:=hsz
 have h2:w9.ownsRow ((W.drew.alloc (Obj.cells cs T)).heap.size) e 3 v' (l++[v]).length (vdCs (l++[v])):=by rw [vdCs_snoc,List.length_append];exact hown
 obtain ⟨A,c,h3,h4,h5⟩:=vds_of_own h2
 exact ⟨A,c,h3,h5,h4,(Fr.of_grown hgrow).toBelow (below_da W cs T) (by simp) (fun k e=>by cases e),fun b o e=>by subst e;rw [h3] at h2;have:=obg h2 b rfl;simp at this;omega⟩
theorem inner_any (n:Nd) (i:Nat) (l:List Vd) (hl:l.length≤100000) (A:Option Addr) (cap:Nat) (Ak:Option Addr) (ck:Nat) (w:World) (hV:VdsAt w A l) (hS:SlOk A l.length cap) :
  Calls Tryz.prog 89 #[.agg (ndC n Ak ck),.int .i64 i,.slice A l.length cap] w (InrP (innerT n i l) l A w):=by
 have HB:=kp (blb w (Obj.cells (ndC n Ak ck) 26))
 have HRX:=kp (bxn w (ndC n Ak ck) 26)
 have HV:=kp (hV.mono HB.out)
 have HS:=kp hS
 have q54:((n.kind:Int) == 54)=decide (n.kind=54):=beqD n.kind 54
 have q55:((n.kind:Int) == 55)=decide (n.kind=55):=beqD n.kind 55
 have qi1:((i:Int) == 1)=decide (i=1):=beqD i 1
 have qi0:((i:Int) == 0)=decide (i=0):=beqD i 0
 clear hV hS
 obtain ⟨i0,hi0,hz0,hz1,hz2⟩:=info_parts info_vd
 have HI:=kp (And.intro hi0 (And.intro hz0 (And.intro hz1 hz2)))
 clear hi0 hz0 hz1 hz2
 by_cases h54:n.kind=54∧i=1
 ·have HE:=kp (show innerT n i l=l++[intV n] from if_pos h54)
  rw [decide_eq_true h54.1] at q54
  rw [decide_eq_true h54.2] at qi1
  clear h54
  go_enter Tryz.func89,Tryz.ntmps89
  go_upto_region 1 with fail
  generalize w.alloc _=W at HB HRX HV ⊢
  obtain ⟨a0,a1,a2,a3,_⟩:=HRX.out.four
  have hlt:=HRX.out.lt
  have HCL:=kp (fun V=>clipV_any A l.length cap V HS.out)
  have hbP:=Below.refl W.heap.size W
  have KS:=kp (fun (Y:World) (hY:Below W.heap.size W Y)=>show Y.cell? ⟨w.heap.size,2,none⟩=some (.string n.name) from blc hY a2)
  go_upto_region 2 with fail
  go_region_held3 (fun w'=>w'.cell? ⟨w.heap.size,2,none⟩=some (.string n.name))
   (first | exact S9.out | (refine KS.out _ ?_;(repeat first | exact hbP | refine bld ?_ | refine Below.alloc ?_ (by first | exact Nat.le_refl _ | exact hbP.size | simp) _);done))
   (first
   | (go_simp;go_at_call 120;(with_reducible refine Calls.mono (HCL.out _) ?_);rintro e w8 ⟨rfl,rfl⟩;dsimp only)
   | (refine step_append_grows (by rfl) (.tmp 16) (.tmp 20) 22 (by rfl) 62 i0 (.agg #[.string ⟨#[]⟩,.int .u8 0,.int .i64 0]) 3 32 Tryz.underlying22 HI.out.1 HI.out.2.1 HI.out.2.2.1 HI.out.2.2.2 rfl (by decide) A l.length l.length (vdCs l) (by first | (simp [Act.eval];done) | (simp [Act.eval,Act.put];done)) (fun e=>⟨HS.out.full e,HS.out.full e⟩) (vdCs_len l) (VdsAt.cells (HV.out.mono (below_da W _ _))) ⟨W.heap.size,0,none⟩ 1 1 [.string n.name,.int .u8 1,.int .i64 0] (by first | (simp [Act.eval];done) | (simp [Act.eval,Act.put];done)) rfl (cells_hc (cnu W.drew rfl [.string n.name,.int .u8 1,.int .i64 0] _)) (fun u hu=>by simp at hu;rcases hu with rfl | rfl | rfl<;>rfl) (by omega) (by unfold maxLen;omega) (by omega) ?_;intro v' w9 hown hgrow;have H9:=kp (inr_done (v:=intV n) hbP (Nat.le_refl _) hown hgrow);have S9:=kp (KS.out w9 (by obtain ⟨_,_,_,_,_,h,_⟩:=H9.out;exact h));clear hown hgrow)
   | fail)
  all_goals
   obtain ⟨A9,c9,rfl,h9,s9,b9,g9⟩:=H9.out
   have HZ:=kp (show InrP (innerT n i l) l A w (.returned (.slice A9 (l++[intV n]).length c9)) w9 from ⟨A9,c9,by rw [HE.out],by rw [HE.out];exact h9,by rw [HE.out];exact s9,bls HB.out HB.out.size b9,.inl fun b o e=>Nat.le_trans HB.out.size (g9 b o e)⟩)
   clear h9 s9 b9 g9
   generalize (l++[intV n]).length=m at *
   go_wp2_with fail
   go_ret
   exact HZ.out
 ·have hc54:(decide (n.kind=54)&&decide (i=1))=false:=by
   by_cases h1:n.kind=54
   ·by_cases h2:i=1
    ·exact absurd ⟨h1,h2⟩ h54
    ·simp [h2]
   ·simp [h1]
  by_cases h55:n.kind=55∧i=0
  ·have HE:=kp (show innerT n i l=l++[stkV n] by unfold innerT;rw [if_neg h54,if_pos h55])
   rw [decide_eq_true h55.1] at q55
   rw [decide_eq_true h55.2] at qi0
   rw [decide_eq_false (by omega)] at q54
   clear h54 h55 hc54
   go_enter Tryz.func89,Tryz.ntmps89
   go_upto_region 1 with fail
   generalize w.alloc _=W at HB HRX HV ⊢
   obtain ⟨a0,a1,a2,a3,_⟩:=HRX.out.four
   have hlt:=HRX.out.lt
   have HCL:=kp (fun V=>clipV_any A l.length cap V HS.out)
   have hbP:=Below.refl W.heap.size W
   have KS:=kp (fun (Y:World) (hY:Below W.heap.size W Y)=>show Y.cell? ⟨w.heap.size,2,none⟩=some (.string n.name) from blc hY a2)
   go_upto_region 4 with fail
   go_region_held3 (fun w'=>w'.cell? ⟨w.heap.size,2,none⟩=some (.string n.name))
    (first | exact S9.out | (refine KS.out _ ?_;(repeat first | exact hbP | refine bld ?_ | refine Below.alloc ?_ (by first | exact Nat.le_refl _ | exact hbP.size | simp) _);done))
    (first
    | (go_simp;go_at_call 120;(with_reducible refine Calls.mono (HCL.out _) ?_);rintro e w8 ⟨rfl,rfl⟩;dsimp only)
    | (refine step_append_grows (by rfl) (.tmp 31) (.tmp 35) 22 (by rfl) 62 i0 (.agg #[.string ⟨#[]⟩,.int .u8 0,.int .i64 0]) 3 32 Tryz.underlying22 HI.out.1 HI.out.2.1 HI.out.2.2.1 HI.out.2.2.2 rfl (by decide) A l.length l.length (vdCs l) (by first | (simp [Act.eval];done) | (simp [Act.eval,Act.put];done)) (fun e=>⟨HS.out.full e,HS.out.full e⟩) (vdCs_len l) (VdsAt.cells (HV.out.mono (below_da W _ _))) ⟨W.heap.size,0,none⟩ 1 1 [.string n.name,.int .u8 3,.int .i64 0] (by first | (simp [Act.eval];done) | (simp [Act.eval,Act.put];done)) rfl (cells_hc (cnu W.drew rfl [.string n.name,.int .u8 3,.int .i64 0] _)) (fun u hu=>by simp at hu;rcases hu with rfl | rfl | rfl<;>rfl) (by omega) (by unfold maxLen;omega) (by omega) ?_;intro v' w9 hown hgrow;have H9:=kp (inr_done (v:=stkV n) hbP (Nat.le_refl _) hown hgrow);have S9:=kp (KS.out w9 (by obtain ⟨_,_,_,_,_,h,_⟩:=H9.out;exact h));clear hown hgrow)
    | fail)
   all_goals
    obtain ⟨A9,c9,rfl,h9,s9,b9,g9⟩:=H9.out
    have HZ:=kp (show InrP (innerT n i l) l A w (.returned (.slice A9 (l++[stkV n]).length c9)) w9 from ⟨A9,c9,by rw [HE.out],by rw [HE.out];exact h9,by rw [HE.out];exact s9,bls HB.out HB.out.size b9,.inl fun b o e=>Nat.le_trans HB.out.size (g9 b o e)⟩)
    clear h9 s9 b9 g9
    generalize (l++[stkV n]).length=m at *
    go_wp2_with fail
    go_ret
    exact HZ.out
  ·have HE:=kp (show innerT n i l=l by unfold innerT;rw [if_neg h54,if_neg h55])
   rw [HE.out]
   have HZ:=kp (fun (Y:World) (hY:Below w.heap.size w Y) (hv:VdsAt Y A l)=>show InrP l l A w (.returned (.slice A l.length cap)) Y from ⟨A,cap,rfl,hv,HS.out,hY,.inr ⟨rfl,rfl⟩⟩)
   generalize h1:decide (n.kind=54)=b1 at q54
   generalize h2:decide (i=1)=b2 at qi1
   generalize h3:decide (n.kind=55)=b3 at q55
   generalize h4:decide (i=0)=b4 at qi0
   have h12:b1=true→b2=true→False:=fun e1 e2=>h54 ⟨of_decide_eq_true (h1.trans e1),of_decide_eq_true (h2.trans e2)⟩
   have h34:b3=true→b4=true→False:=fun e1 e2=>h55 ⟨of_decide_eq_true (h3.trans e1),of_decide_eq_true (h4.trans e2)⟩
   clear h1 h2 h3 h4 h54 h55 hc54
   cases b1<;>cases b2<;>cases b3<;>cases b4<;>first
    | exact (h12 rfl rfl).elim
    | exact (h34 rfl rfl).elim
    | (clear h12 h34
       go_enter Tryz.func89,Tryz.ntmps89
       go_upto_region 1 with fail
       generalize w.alloc _=W at HB HRX HV ⊢
       obtain ⟨a0,a1,a2,a3,_⟩:=HRX.out.four
       have hlt:=HRX.out.lt
       go_wp2_with fail
       go_ret
       exact HZ.out _ HB.out HV.out)
end Go.Proofs.YtgbomnibedefoaaGreatDoor
