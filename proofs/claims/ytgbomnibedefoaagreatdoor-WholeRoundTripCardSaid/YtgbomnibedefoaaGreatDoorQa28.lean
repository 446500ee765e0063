import Derived.Test.YtgbomnibedefoaaGreatDoorQa27
set_option maxRecDepth 100000
set_option maxHeartbeats 8000000
namespace Go.Proofs.YtgbomnibedefoaaGreatDoor
open Go.ChangeShapes Go.WideShapes Go.ChangeAt Go.RowKit Go.Sort
theorem bneD (k:Nat):((k:Int) != 0)=!decide (k=0):=by rw [bne,show (0:Int)=((0:Nat):Int) from rfl,beqD]
theorem bl2 {W V V2:World} (h:Below W.heap.size W V) (hb:Below V.heap.size V V2):Below W.heap.size W V2:=bls h h.size hb
mutual
def clnT (vis:List Vd):Nd→Bool
 | .mk k _ name kids=>(decide (needK k=0)||(match findV vis name with | some v=>decide (v.kind=needK k) | none=>false))&&clnTL vis kids
def clnTL (vis:List Vd):List Nd→Bool
 | []=>true
 | x::r=>clnT vis x&&clnTL vis r
end
theorem clnT_eq (vis:List Vd) (n:Nd):clnT vis n=((decide (needK n.kind=0)||(match findV vis n.name with | some v=>decide (v.kind=needK n.kind) | none=>false))&&clnTL vis n.kids):=by cases n;rw [clnT];rfl
theorem clnTL_mem {vis:List Vd}:∀ {l:List Nd},clnTL vis l=true→∀ y∈l,clnT vis y=true
 | [],_,y,hy=>by cases hy
 | x::r,h,y,hy=>by
   rw [clnTL,Bool.and_eq_true] at h
   rcases List.mem_cons.1 hy with rfl | hy
   ·exact h.1
   ·exact clnTL_mem h.2 y hy
theorem sfault_any {vis:List Vd} (hvl:vis.length≤9223372036854775807) (fb fo:Nat) (Av:Option Addr) (cv:Nat):∀ (N:Nat) (x:Nd),szT x≤N→N≤1000000→clnT vis x=true→∀ (A:Option Addr) (cap:Nat) (w:World),w.cell? ⟨fb,fo,none⟩=some (.slice Av vis.length cv)→VdsAt w Av vis→NdsAt w A x.kids→
  Calls Tryz.prog 140 #[.pointer (some ⟨fb,fo,none⟩),.agg (ndC x A cap)] w fun e w'=>e=.returned (.int .i64 0)∧Below w.heap.size w w':=by
 intro N
 induction N with
 | zero=>intro x hx;have:=szT_pos x;omega
 | succ N ih=>
   intro x hx hN hcl A cap w hfb hv hK
   have hl:x.kids.length≤1000000:=by have:=szL_len x.kids;have:=szT_eq x;omega
   rw [clnT_eq,Bool.and_eq_true] at hcl
   have HB:=kp (blb w (Obj.cells (ndC x A cap) 26))
   have HRX:=kp (bxn w (ndC x A cap) 26)
   have HK:=kp (hK.mono HB.out)
   have HV:=kp (hv.mono HB.out)
   have HFB:=kp (blc HB.out hfb)
   have HIH:=kp (fun (y:Nd) (hy:y∈x.kids)=>ih y (by have:=szT_kid hy;omega) (by omega) (clnTL_mem hcl.2 y hy))
   have HCL:=kp hcl.1
   clear hK ih hx hcl hv hfb
   go_enter Tryz.func140,Tryz.ntmps140
   go_upto_region 1 with fail
   generalize w.alloc _=W at HB HRX HK HV HFB ⊢
   obtain ⟨a0,a1,a2,a3,_⟩:=HRX.out.four
   have hla:=HRX.out.lt
   have HND:=kp (need_any x.kind W)
   go_wp2_with fail
   refine HND.out.mono ?_
   rintro e w1 ⟨rfl,rfl⟩
   have hnz:=bneD (needK x.kind)
   generalize hd0:decide (needK x.kind=0)=d0 at hnz
   go_upto_if 15 with fail
   go_cut [] (fun wc=>Hid (Below W.heap.size W wc))
   case first=>
    by_cases h0:needK x.kind=0
    ·rw [decide_eq_true h0] at hd0
     subst hd0
     clear h0
     go_wp2_with fail
     go_meet
     exact kp (Below.refl _ _)
    ·rw [decide_eq_false h0] at hd0
     subst hd0
     rw [Bool.or_eq_true,decide_eq_true_eq] at HCL
     obtain ⟨v,hv1,hv2⟩:∃ v,findV vis x.name=some v∧v.kind=needK x.kind:=by
      rcases HCL.out with h | h
      ·exact absurd h h0
      ·cases hq:findV vis x.name with
       | none=>rw [hq] at h;cases h
       | some v=>rw [hq] at h;exact ⟨v,rfl,of_decide_eq_true h⟩
     have hne:((v.kind:Int) != (needK x.kind:Int))=false:=by rw [bne,beqD,decide_eq_true hv2];rfl
     have HFI:=kp (fun (Y:World) (hY:Below W.heap.size W Y)=>find_any vis hvl x.name Av cv Y (HV.out.mono hY))
     rw [hv1] at HFI
     have y0:=HFB.out
     generalize needK x.kind=nk at *
     clear h0 hv1 hv2
     have hbP:=Below.refl W.heap.size W
     have KS:=kp (fun (Y:World) (hY:Below W.heap.size W Y)=>show Y.cell? ⟨fb,fo,none⟩=some (.slice Av vis.length cv)∧Y.cell? ⟨w.heap.size,2,none⟩=some (.string x.name) from ⟨blc hY y0,blc hY a2⟩)
     go_upto_region 3 with fail
     go_cut [6,7] (fun p b wc=>∃ g,p=.pointer (some ⟨g,0,none⟩)∧b=.bool true∧Hid (Bx wc g #[.string v.name,.int .u8 v.kind,.int .i64 v.len])∧Hid (Below W.heap.size W wc))
     case first=>
      go_region_held3 (fun w'=>w'.cell? ⟨fb,fo,none⟩=some (.slice Av vis.length cv)∧w'.cell? ⟨w.heap.size,2,none⟩=some (.string x.name))
       ((refine KS.out _ ?_;(repeat first | exact hbP | exact H8.out | refine bld ?_ | refine below_set3 ?_ (by first | exact Nat.le_refl _ | exact H8.out.size | simp) _ _ _ | refine Below.alloc ?_ (by first | exact Nat.le_refl _ | exact H8.out.size | simp) _);done))
       ((go_simp;go_at_call 83;(with_reducible refine Calls.mono (HFI.out _ (by (repeat first | exact hbP | refine bld ?_ | refine Below.alloc ?_ (by first | exact Nat.le_refl _ | simp) _);done)) ?_);rintro e w8 ⟨rfl,hb8⟩;have H8:=kp (bl2 (W:=W) (by (repeat first | exact hbP | refine bld ?_ | refine Below.alloc ?_ (by first | exact Nat.le_refl _ | simp) _);done) hb8);(try (have Z8:=((bxn W #[.string ⟨#[]⟩,.int .u8 0,.int .i64 0] 62).below (bld (Below.refl _ _))).below hb8;obtain ⟨z0,z1,z2,zf0,zf1,zf2⟩:=Z8.three;have zlt:=Z8.lt;have HZ8:=kp Z8;clear Z8));clear hb8;unfold vdVal;dsimp only))
      all_goals
       go_wp2_with fail
       go_meet
       first
       | exact ⟨_,rfl,rfl,kp (bxn w8 #[.string v.name,.int .u8 v.kind,.int .i64 v.len] 62),kp (bl2 H8.out (blb w8 _))⟩
       | exact ⟨_,rfl,rfl,kp (HZ8.out.set3 _ _ _),kp (below_set3 H8.out (Nat.le_refl _) _ _ _)⟩
     case rest=>
      obtain ⟨g,rfl,rfl,HBV,HBC⟩:=hcut
      obtain ⟨z0,z1,z2,_⟩:=HBV.out.three
      have hlz:=HBV.out.lt
      clear a0 a1 a2 a3 hla
      go_wp2_with fail
      go_meet
      exact HBC
   case rest=>
    have HWC:=hcut
    clear hcut
    have HRW:=kp (HRX.out.below HWC.out)
    clear a0 a1 a2 a3 hla
    obtain ⟨a0,a1,a2,a3,_⟩:=HRW.out.four
    have hla:=HRW.out.lt
    go_wp2_with fail
    go_loopw [35] (fun i wr=>∃ k:Nat,k≤x.kids.length∧i=.int .i64 k∧Hid (Below W.heap.size W wr)) (fun i _=>x.kids.length - (intOf i).toNat)
    case atStart=>exact ⟨0,by omega,rfl,HWC⟩
    case round=>
     obtain ⟨k,hk,rfl,HR⟩:=hrel
     clear a0 a1 a2 a3 hla
     have HRW2:=kp (HRX.out.below HR.out)
     obtain ⟨a0,a1,a2,a3,_⟩:=HRW2.out.four
     have hla:=HRW2.out.lt
     by_cases hin:k<x.kids.length
     ·obtain ⟨bk,ok,A',cap',rfl,hbk,k0,k1,k2,k3,hKK⟩:=(HK.out.mono HR.out).kid hin
      have HC:=kp (fun (V:World) (hV:Below wr.heap.size wr V)=>HIH.out x.kids[k] (List.getElem_mem hin) A' cap' V (blc (bl2 HR.out hV) HFB.out) (HV.out.mono (bl2 HR.out hV)) (hKK.mono hV))
      have r0:(0:Int)≤k:=by omega
      have r1:(k:Int)<x.kids.length:=by omega
      have HBX:=kp (blb wr (Obj.cells (ndC x.kids[k] A' cap') 26))
      have HRY:=kp (bxn wr (ndC x.kids[k] A' cap') 26)
      clear hKK
      generalize x.kids[k]=y at *
      go_upto_region 11 with fail
      generalize wr.alloc _=V at HBX HRY ⊢
      obtain ⟨b0,b1,b2,b3,_⟩:=HRY.out.four
      have hlb:=HRY.out.lt
      have HC1:=kp (HC.out V HBX.out)
      go_wp2_with fail
      refine HC1.out.mono ?_
      rintro e w8 ⟨rfl,hb8⟩
      have HB8:=kp (bl2 HR.out (bl2 HBX.out hb8))
      clear hb8
      go_wp2_with fail
      exact ⟨⟨k+1,by omega,by go_num,HB8⟩,by simp [intOf];omega⟩
     ·obtain rfl:k=x.kids.length:=by omega
      go_wp2_with fail
      go_ret
      exact ⟨rfl,bl2 HB.out HR.out⟩
theorem er1_0 {e:Int} (h:er1 e=0):e=0:=by unfold er1 at h;split at h;assumption;omega
theorem vcTL_kid {P:Pg} {k:Nat} {nm:ByteArray} {vis:List Vd}:∀ {l:List Nd} {i:Nat},vcTL P k nm l i vis=0→∀ (j:Nat) (y:Nd),l[j]?=some y→vcT P y (innerT (.mk k 0 nm []) (i+j) vis)=0
 | [],_,_,j,y,hj=>by simp at hj
 | x::r,i,h,j,y,hj=>by
   rw [vcTL] at h
   cases j with
   | zero=>
     simp at hj
     subst hj
     rw [Nat.add_zero];omega
   | succ j=>
     have:=vcTL_kid (P:=P) (k:=k) (nm:=nm) (vis:=vis) (l:=r) (i:=i+1) (by omega) j y (by simpa using hj)
     rw [show i+(j+1)=i+1+j by omega];exact this
theorem vc_kid {P:Pg} {n y:Nd} {vis:List Vd} (h:vcT P n vis=0) (hk:n.kind≠50∧n.kind≠51) {i:Nat} (hi:n.kids[i]?=some y):vcT P y (innerT n i vis)=0:=by
 rw [vcT_eq,if_neg (by omega)] at h
 have:=vcTL_kid (i:=0) (show vcTL P n.kind n.name n.kids 0 vis=0 by omega) i y hi
 rw [Nat.zero_add] at this
 rw [← this,innerT_kn (n:=.mk n.kind 0 n.name []) (n':=n) rfl rfl]
theorem vc_flt {P:Pg} {n:Nd} {vis:List Vd} (h:vcT P n vis=0):fltR P n vis=0:=er1_0 (by rw [vcT_eq] at h;omega)
theorem innerT_low {n:Nd} (h:n.kind≠54∧n.kind≠55) (i:Nat) (vis:List Vd):innerT n i vis=vis:=by
 unfold innerT;rw [if_neg (by omega),if_neg (by omega)]
theorem use_0 {vis:List Vd} {s:ByteArray} {k:Nat} (h:useR vis s k=0):∃ v,findV vis s=some v∧v.kind=k:=by
 unfold useR at h
 cases hf:findV vis s with
 | none=>rw [hf] at h;cases h
 | some v=>
   rw [hf] at h
   by_cases hk:v.kind=k
   ·exact ⟨v,rfl,hk⟩
   ·simp [hk] at h
theorem flt_need {P:Pg} {n:Nd} {vis:List Vd} (h:fltR P n vis=0) (hn:needK n.kind≠0):∃ v,findV vis n.name=some v∧v.kind=needK n.kind:=by
 unfold fltR at h
 by_cases h2:n.kind=2
 ·rw [if_pos h2] at h;rw [h2];exact use_0 h
 rw [if_neg h2] at h
 by_cases h3:n.kind=3
 ·rw [if_pos h3] at h;rw [h3];exact use_0 h
 rw [if_neg h3] at h
 by_cases h4:n.kind=4∨n.kind=5∨n.kind=44∨n.kind=45
 ·rw [if_pos h4] at h
  have:needK n.kind=3:=by unfold needK;rw [if_neg h2,if_neg h3,if_pos h4]
  rw [this];exact use_0 h
 ·exfalso
  apply hn
  unfold needK;rw [if_neg h2,if_neg h3,if_neg h4]
theorem clnTL_of {vis:List Vd}:∀ {l:List Nd},(∀ y∈l,clnT vis y=true)→clnTL vis l=true
 | [],_=>by rw [clnTL]
 | x::r,h=>by rw [clnTL,h x List.mem_cons_self,clnTL_of fun y hy=>h y (List.mem_cons_of_mem _ hy)];rfl
theorem clnT_of {P:Pg} {n:Nd} {vis:List Vd} (h:fltR P n vis=0) (hk:∀ y∈n.kids,clnT vis y=true):clnT vis n=true:=by
 rw [clnT_eq,clnTL_of hk,Bool.and_true]
 by_cases hn:needK n.kind=0
 ·simp [hn]
 ·obtain ⟨v,h1,h2⟩:=flt_need h hn
  rw [h1];simp [h2]
theorem mentTL_mem {s:ByteArray}:∀ {l:List Nd},mentTL s l=true→∃ y∈l,mentT s y=true
 | [],h=>by rw [mentTL] at h;cases h
 | x::r,h=>by
   rw [mentTL,Bool.or_eq_true] at h
   rcases h with h | h
   ·exact ⟨x,List.mem_cons_self,h⟩
   ·obtain ⟨y,hy,h2⟩:=mentTL_mem h
    exact ⟨y,List.mem_cons_of_mem _ hy,h2⟩
theorem exk_mem {x y:Nd} (h:isExT x=true) (hy:y∈x.kids):isExT y=true:=by
 rw [isExT_eq] at h
 have key:∀ {c:Bool} {n:Nat},(c&&(decide (x.kids.length=n)&&(x.kids.map isExT).all id))=true→isExT y=true:=fun hc=>by
  rw [Bool.and_eq_true,Bool.and_eq_true] at hc
  have:=List.all_eq_true.1 hc.2.2 (isExT y) (List.mem_map_of_mem hy)
  exact this
 have none:∀ {c:Bool},(c&&decide (x.kids.length=0))=true→isExT y=true:=fun hc=>by
  rw [Bool.and_eq_true,decide_eq_true_eq] at hc
  have:=List.length_eq_zero_iff.1 hc.2
  rw [this] at hy;cases hy
 unfold isExK at h
 by_cases h1:x.kind=1
 ·rw [if_pos h1] at h;exact none h
 rw [if_neg h1] at h
 by_cases h2:x.kind=2∨x.kind=4∨x.kind=5
 ·rw [if_pos h2] at h;exact none h
 rw [if_neg h2] at h
 by_cases h3:x.kind=3
 ·rw [if_pos h3] at h;exact key h
 rw [if_neg h3] at h
 by_cases h6:x.kind=6∨x.kind=7
 ·rw [if_pos h6] at h;exact key h
 rw [if_neg h6] at h
 by_cases h8:8≤x.kind∧x.kind≤23
 ·rw [if_pos h8] at h;exact key h
 ·rw [if_neg h8] at h;cases h
theorem ex_vis {P:Pg} {vis:List Vd}:∀ (N:Nat) (x:Nd),SizeOf.sizeOf x≤N→isExT x=true→vcT P x vis=0→clnT vis x=true∧∀ s,mentT s x=true→(findV vis s).isSome=true:=by
 intro N
 induction N with
 | zero=>intro x hx;exfalso;cases x;simp at hx
 | succ N ih=>
   intro x hx he hv
   have hk:=ex_kind he
   have hkid:∀ y∈x.kids,clnT vis y=true∧∀ s,mentT s y=true→(findV vis s).isSome=true:=fun y hy=>by
    obtain ⟨i,hi⟩:=List.getElem?_of_mem hy
    have h1:=vc_kid hv (by omega) hi
    rw [innerT_low (by omega)] at h1
    exact ih y (by have:=Nd.kid_lt hi;omega) (exk_mem he hy) h1
   have hf:=vc_flt hv
   refine ⟨clnT_of hf fun y hy=>(hkid y hy).1,fun s hs=>?_⟩
   rw [mentT_eq,Bool.or_eq_true] at hs
   rcases hs with hs | hs
   ·rw [Bool.and_eq_true,decide_eq_true_eq] at hs
    obtain ⟨v,h1,_⟩:=flt_need hf (by
     have:=hs.1
     unfold varK at this
     simp only [Bool.or_eq_true,decide_eq_true_eq] at this
     rcases this with ((h | h) | h) | h<;>rw [h]<;>decide)
    rw [← hs.2,h1];rfl
   ·obtain ⟨y,hy,h2⟩:=mentTL_mem hs
    exact (hkid y hy).2 s h2
def idxT (p:Nd) (s:ByteArray):Bool:=decide (p.kind=3)&&mentT s (kid p 0)
def rjB (n:Nd):Bool:=
 if n.kind=56 then false
 else if n.kind=40∨n.kind=41∨n.kind=42 then !(idxT (kid n 0) (kid n 0).name||mentT (kid n 0).name (kid n 1))
 else if n.kind=43 then !(idxT (kid n 0) (kid n 0).name||idxT (kid n 0) (kid n 1).name||(idxT (kid n 1) (kid n 0).name||idxT (kid n 1) (kid n 1).name))
 else if n.kind=44∨n.kind=45 then !(idxT (kid n 0) (kid n 0).name||idxT (kid n 0) n.name)
 else if n.kind=46∨n.kind=47∨n.kind=48∨n.kind=49 then !(idxT (kid n 0) (kid n 0).name)
 else if n.kind=50∨n.kind=51 then decide (n.kids.map Nd.name).Nodup
 else true
mutual
def preT:Nd→List Nd
 | .mk k num name kids=>.mk k num name kids::preTL kids
def preTL:List Nd→List Nd
 | []=>[]
 | x::r=>preT x++preTL r
end
theorem preT_eq (n:Nd):preT n=n::preTL n.kids:=by cases n;rw [preT];rfl
theorem preTL_mem {y:Nd}:∀ {l:List Nd},y∈l→∀ z∈preT y,z∈preTL l
 | x::r,h,z,hz=>by
   rw [preTL,List.mem_append]
   rcases List.mem_cons.1 h with e | e
   ·subst e;exact .inl hz
   ·exact .inr (preTL_mem e z hz)
theorem preT_kid {n y:Nd} (h:y∈n.kids) {Q:Nd→Prop} (hq:∀ z∈preT n,Q z):∀ z∈preT y,Q z:=fun z hz=>hq z (by rw [preT_eq];exact List.mem_cons_of_mem _ (preTL_mem h z hz))
theorem pl_of {p:Nd} {s:ByteArray} (hp:plcB p=true) (h:idxT p s=false):plOk p s:=by
 unfold plcB at hp
 unfold idxT at h
 simp only [Bool.and_eq_true,Bool.or_eq_true,decide_eq_true_eq] at hp
 rcases hp.1 with e | e
 ·exact .inl e
 ·rw [e] at h;exact .inr (by simpa using h)
theorem plc_ex {p:Nd} (h:plcB p=true):isExT p=true:=by unfold plcB at h;rw [Bool.and_eq_true] at h;exact h.2
theorem kid_at {n:Nd} {i:Nat} (h:i<n.kids.length):n.kids[i]?=some (kid n i):=by
 rw [List.getElem?_eq_getElem h];exact congrArg some (kid_eq (List.getElem?_eq_getElem h)).symm
theorem not_or {a b:Bool} (h:(!(a||b))=true):a=false∧b=false:=by cases a<;>cases b<;>simp_all
theorem st_bas {n:Nd} (h:isStT n=true) (hk:40≤n.kind∧n.kind≤49):1≤n.kids.length∧plcB (kid n 0)=true∧(∀ y∈n.kids,isExT y=true)∧(n.kind=43→2≤n.kids.length∧plcB (kid n 1)=true):=by
 rw [isStT_eq] at h
 unfold isStK at h
 by_cases c1:n.kind=40∨n.kind=41∨n.kind=42∨n.kind=56
 ·rw [if_pos c1] at h
  simp only [Bool.and_eq_true,decide_eq_true_eq,List.all_cons,List.all_nil,id] at h
  obtain ⟨_,hl,h0,h1,_⟩:=h
  refine ⟨by omega,h0,fun y hy=>?_,fun e=>by omega⟩
  obtain ⟨i,hi⟩:=List.getElem?_of_mem hy
  have hil:=(List.getElem?_eq_some_iff.1 hi).1
  have hkd:=kid_eq hi
  match i,hil,hkd with
  | 0,_,e=>exact e▸plc_ex h0
  | 1,_,e=>exact e▸h1
  | i+2,hil,_=>omega
 rw [if_neg c1] at h
 by_cases c2:n.kind=43
 ·rw [if_pos c2] at h
  simp only [Bool.and_eq_true,decide_eq_true_eq,List.all_cons,List.all_nil,id] at h
  obtain ⟨_,hl,h0,h1,_⟩:=h
  refine ⟨by omega,h0,fun y hy=>?_,fun _=>⟨by omega,h1⟩⟩
  obtain ⟨i,hi⟩:=List.getElem?_of_mem hy
  have hil:=(List.getElem?_eq_some_iff.1 hi).1
  have hkd:=kid_eq hi
  match i,hil,hkd with
  | 0,_,e=>exact e▸plc_ex h0
  | 1,_,e=>exact e▸plc_ex h1
  | i+2,hil,_=>omega
 rw [if_neg c2] at h
 have one:∀ {c:Bool},(c&&(decide (n.kids.length=1)&&[plcB (kid n 0)].all id))=true→1≤n.kids.length∧plcB (kid n 0)=true∧(∀ y∈n.kids,isExT y=true)∧(n.kind=43→2≤n.kids.length∧plcB (kid n 1)=true):=fun h=>by
  simp only [Bool.and_eq_true,decide_eq_true_eq,List.all_cons,List.all_nil,id] at h
  obtain ⟨_,hl,h0,_⟩:=h
  refine ⟨by omega,h0,fun y hy=>?_,fun e=>absurd e c2⟩
  obtain ⟨i,hi⟩:=List.getElem?_of_mem hy
  have hil:=(List.getElem?_eq_some_iff.1 hi).1
  have hkd:=kid_eq hi
  match i,hil,hkd with
  | 0,_,e=>exact e▸plc_ex h0
  | i+1,hil,_=>omega
 by_cases c3:n.kind=44∨n.kind=45
 ·rw [if_pos c3] at h;exact one h
 rw [if_neg c3,if_pos (by omega)] at h
 exact one h
theorem bas_cln {P:Pg} {n:Nd} {vis:List Vd} (h:isStT n=true) (hk:40≤n.kind∧n.kind≤49) (hv:vcT P n vis=0):clnT vis n=true:=by
 obtain ⟨_,_,he,_⟩:=st_bas h hk
 refine clnT_of (vc_flt hv) fun y hy=>?_
 obtain ⟨i,hi⟩:=List.getElem?_of_mem hy
 have h1:=vc_kid hv (by omega) hi
 rw [innerT_low (by omega)] at h1
 exact (ex_vis _ y (Nat.le_refl _) (he y hy) h1).1
theorem st_kind {n:Nd} (h:isStT n=true):(40≤n.kind∧n.kind≤49)∨n.kind=50∨n.kind=51∨n.kind=52∨n.kind=53∨n.kind=54∨n.kind=55∨n.kind=56:=by
 rw [isStT_eq] at h
 unfold isStK at h
 by_cases c:(40≤n.kind∧n.kind≤49)∨n.kind=50∨n.kind=51∨n.kind=52∨n.kind=53∨n.kind=54∨n.kind=55∨n.kind=56
 ·exact c
 ·rw [if_neg (by omega),if_neg (by omega),if_neg (by omega),if_neg (by omega),if_neg (by omega),if_neg (by omega),if_neg (by omega),if_neg (by omega)] at h
  cases h
theorem blk_vc {P:Pg} {b y:Nd} {vis:List Vd} (hb:isBlT b=true) (hv:vcT P b vis=0) (hy:y∈b.kids):vcT P y vis=0:=by
 have hk:=blT_kind hb
 obtain ⟨i,hi⟩:=List.getElem?_of_mem hy
 have h1:=vc_kid hv (by omega) hi
 rwa [innerT_low (by omega)] at h1
theorem sok_of {P:Pg}:∀ (N:Nat) (n:Nd) (vis:List Vd),SizeOf.sizeOf n≤N→NdFit n→isStT n=true→vcT P n vis=0→(∀ z∈preT n,rjB z=true)→SOk P.procs vis n:=by
 intro N
 induction N with
 | zero=>intro n vis hn;exfalso;cases n;simp at hn
 | succ N ih=>
   intro n vis hn hfit hst hv hrj
   have hr:rjB n=true:=hrj n (by rw [preT_eq];exact List.mem_cons_self)
   have hbl:∀ (i:Nat) (b:Nd) (vis':List Vd),n.kids[i]?=some b→isBlT b=true→vcT P b vis'=0→∀ y∈b.kids,SOk P.procs vis' y:=fun i b vis' hi hb hvb y hy=>by
    obtain ⟨j,hj⟩:=List.getElem?_of_mem hy
    have l1:=Nd.kid_lt hi
    have l2:=Nd.kid_lt hj
    exact ih y vis' (by omega) ((hfit.kid hi).kid hj) (blT_kids hb y hy) (blk_vc hb hvb hy) (preT_kid hy (preT_kid (List.mem_of_getElem? hi) hrj))
   rcases st_kind hst with hk | hk | hk | hk | hk | hk | hk | hk
   ·obtain ⟨hl,hp0,he,h43⟩:=st_bas hst hk
    have hkid:∀ (i:Nat),i<n.kids.length→vcT P (kid n i) vis=0:=fun i hi=>by
     have h1:=vc_kid hv (by omega) (kid_at hi)
     rwa [innerT_low (by omega)] at h1
    unfold rjB at hr
    rw [if_neg (by omega)] at hr
    refine .bas (by omega) ?_
    by_cases c1:n.kind=40∨n.kind=41∨n.kind=42
    ·rw [if_pos c1] at hr
     obtain ⟨r1,r2⟩:=not_or hr
     exact ⟨pl_of hp0 r1,fun _=>r2,fun e=>by omega,fun e=>by omega⟩
    rw [if_neg c1] at hr
    by_cases c2:n.kind=43
    ·rw [if_pos c2] at hr
     obtain ⟨r1,r2⟩:=not_or hr
     obtain ⟨hl2,hp1⟩:=h43 c2
     rw [Bool.or_eq_false_iff] at r1 r2
     exact ⟨pl_of hp0 r1.1,fun e=>by omega,fun _=>⟨pl_of hp0 r1.2,pl_of hp1 r2.1,pl_of hp1 r2.2⟩,fun e=>by omega⟩
    rw [if_neg c2] at hr
    by_cases c3:n.kind=44∨n.kind=45
    ·rw [if_pos c3] at hr
     obtain ⟨r1,r2⟩:=not_or hr
     refine ⟨pl_of hp0 r1,fun e=>by omega,fun e=>by omega,fun _=>⟨pl_of hp0 r2,?_,?_⟩⟩
     ·obtain ⟨v,h1,h2⟩:=flt_need (vc_flt hv) (by rcases c3 with e | e<;>rw [e]<;>decide)
      exact ⟨v,h1,by rw [h2];rcases c3 with e | e<;>rw [e]<;>rfl⟩
     ·have h1:=vc_flt (hkid 0 (by omega))
      have hpk:=hp0
      unfold plcB at hpk
      simp only [Bool.and_eq_true,Bool.or_eq_true,decide_eq_true_eq] at hpk
      obtain ⟨v,h2,h3⟩:=flt_need h1 (by rcases hpk.1 with e | e<;>rw [e]<;>decide)
      exact ⟨v,h2,by rw [h3];rcases hpk.1 with e | e<;>rw [e]<;>decide⟩
    ·rw [if_neg c3,if_pos (by omega)] at hr
     exact ⟨pl_of hp0 (by simpa using hr),fun e=>absurd e c1,fun e=>absurd e c2,fun e=>absurd e c3⟩
   ·unfold rjB at hr
    rw [if_neg (by omega),if_neg (by omega),if_neg (by omega),if_neg (by omega),if_neg (by omega),if_pos (.inl hk)] at hr
    exact .cal (.inl hk) (of_decide_eq_true hr)
   ·unfold rjB at hr
    rw [if_neg (by omega),if_neg (by omega),if_neg (by omega),if_neg (by omega),if_neg (by omega),if_pos (.inr hk)] at hr
    exact .cal (.inr hk) (of_decide_eq_true hr)
   ·obtain ⟨a,b,c,d,h4⟩:=st_four hst (.inl hk)
    have e1:n.kids[1]?=some b:=by rw [h4.kids];rfl
    have e2:n.kids[2]?=some c:=by rw [h4.kids];rfl
    have v1:=vc_kid hv (by omega) e1
    have v2:=vc_kid hv (by omega) e2
    rw [innerT_low (by omega)] at v1 v2
    exact .two (.inl hk) (by rw [kid_eq e1];exact hbl 1 b vis e1 h4.b1 v1) (by rw [kid_eq e2];exact hbl 2 c vis e2 h4.b2 v2)
   ·obtain ⟨a,b,c,d,h4⟩:=st_four hst (.inr hk)
    have e1:n.kids[1]?=some b:=by rw [h4.kids];rfl
    have e2:n.kids[2]?=some c:=by rw [h4.kids];rfl
    have v1:=vc_kid hv (by omega) e1
    have v2:=vc_kid hv (by omega) e2
    rw [innerT_low (by omega)] at v1 v2
    exact .two (.inr hk) (by rw [kid_eq e1];exact hbl 1 b vis e1 h4.b1 v1) (by rw [kid_eq e2];exact hbl 2 c vis e2 h4.b2 v2)
   ·obtain ⟨a,b,c,h3⟩:=st_three hst hk
    have e0:n.kids[0]?=some a:=by rw [h3.kids];rfl
    have e1:n.kids[1]?=some b:=by rw [h3.kids];rfl
    have e2:n.kids[2]?=some c:=by rw [h3.kids];rfl
    have hlen:n.kids.length=3:=by rw [h3.kids];rfl
    have v0:=vc_kid hv (by omega) e0
    have v1:=vc_kid hv (by omega) e1
    have v2:=vc_kid hv (by omega) e2
    have i0:innerT n 0 vis=vis:=by unfold innerT;rw [if_neg (by omega),if_neg (by omega)]
    have i1:innerT n 1 vis=vis++[intV n]:=by unfold innerT;rw [if_pos ⟨hk,rfl⟩]
    have i2:innerT n 2 vis=vis:=by unfold innerT;rw [if_neg (by omega),if_neg (by omega)]
    rw [i0] at v0
    rw [i1] at v1
    rw [i2] at v2
    obtain ⟨hx0,hx2⟩:=ends hst hk
    rw [kid_eq e0] at hx0
    rw [kid_eq e2] at hx2
    have hfr:=vc_flt hv
    unfold fltR at hfr
    rw [if_neg (by omega),if_neg (by omega),if_neg (by omega),if_pos (.inl hk)] at hfr
    have hno:(findV vis n.name).isSome=false:=by
     unfold freshR at hfr
     cases h:(findV vis n.name).isSome with
     | false=>rfl
     | true=>rw [h] at hfr;simp at hfr
    have hm:∀ z,isExT z=true→vcT P z vis=0→mentT n.name z=false:=fun z hz hvz=>by
     cases h:mentT n.name z with
     | false=>rfl
     | true=>rw [(ex_vis _ z (Nat.le_refl _) hz hvz).2 _ h] at hno;cases hno
    have k2:kid n (n.kids.length - 1)=c:=by rw [hlen];exact kid_eq e2
    refine .loc hk (by rw [kid_eq e0];exact hm a hx0 v0) (by rw [k2];exact hm c hx2 v2) (by rw [kid_eq e0];exact hfit.kid e0) (by rw [k2];exact hfit.kid e2) (by rw [kid_eq e1];exact hbl 1 b _ e1 h3.b1 v1)
   ·obtain ⟨b,hx,hb⟩:=st_one hst hk
    have e0:n.kids[0]?=some b:=by rw [hx];rfl
    have v0:=vc_kid hv (by omega) e0
    have i0:innerT n 0 vis=vis++[stkV n]:=by unfold innerT;rw [if_neg (by omega),if_pos ⟨hk,rfl⟩]
    rw [i0] at v0
    exact .lst hk (by rw [kid_eq e0];exact hbl 0 b _ e0 hb v0)
   ·unfold rjB at hr
    rw [if_pos hk] at hr;cases hr
where
 ends {n:Nd} (h:isStT n=true) (hk:n.kind=54):isExT (kid n 0)=true∧isExT (kid n 2)=true:=by
  rw [isStT_eq] at h
  unfold isStK at h
  rw [if_neg (by omega),if_neg (by omega),if_neg (by omega),if_neg (by omega),if_neg (by omega),if_neg (by omega),if_pos hk] at h
  simp only [Bool.and_eq_true,decide_eq_true_eq,List.all_cons,List.all_nil,id] at h
  exact ⟨h.2.2.1,h.2.2.2.2.1⟩
theorem declN_0 {l:List Vd}:∀ {k:Nat},k≤l.length→declN l k=0→((l.take k).map Vd.name).Nodup
 | 0,_,_=>by simp
 | k+1,hk,h=>by
   rw [declN_at l hk] at h
   have h1:=declN_0 (l:=l) (k:=k) (by omega) (by omega)
   have h2:=er1_0 (show er1 (freshR (l.take k) l[k].name)=0 by omega)
   rw [List.take_succ_eq_append_getElem hk,List.map_append,List.nodup_append]
   refine ⟨h1,by simp,fun a ha b hb=>?_⟩
   obtain ⟨v,hv,rfl⟩:=List.mem_map.1 ha
   have hb:b=l[k].name:=by simpa using hb
   subst hb
   intro e
   unfold freshR at h2
   have:(findV (l.take k) l[k].name).isSome=true:=by
    unfold findV
    rw [List.find?_isSome]
    exact ⟨v,List.mem_reverse.2 hv,by simpa using e⟩
   rw [this] at h2;simp at h2
theorem procN_0 {P:Pg}:∀ {k:Nat},k≤P.procs.length→procN P k=0→∀ j,j<k→∀ p,P.procs[j]?=some p→pcN P j p=0
 | 0,_,_,j,hj,_,_=>by omega
 | k+1,hk,h,j,hj,p,hp=>by
   rw [procN_at P hk] at h
   by_cases e:j=k
   ·subst e
    rw [List.getElem?_eq_getElem hk] at hp
    cases hp
    omega
   ·exact procN_0 (k:=k) (by omega) (by omega) j (by omega) p hp
structure PgOk (P:Pg):Prop where
 v:validB P=true
 c:chkN P=0
 r:∀ b,(b=P.main∨∃ p∈P.procs,b=p.body)→∀ z∈preT b,rjB z=true
theorem PgOk.pok {P:Pg} (h:PgOk P) (hf:PgFit P):POk P.procs:=fun p hp=>by
 have hv:=val_bnd h.v
 have hc:=h.c
 unfold chkN at hc
 obtain ⟨j,hj⟩:=List.getElem?_of_mem hp
 have hjl:=(List.getElem?_eq_some_iff.1 hj).1
 have h0:=procN_0 (Nat.le_refl _) (show procN P P.procs.length=0 by omega) j hjl p hj
 unfold pcN at h0
 have hb:=(hv.p p hp).2.2.2
 refine ⟨?_,fun y hy=>?_⟩
 ·have:=declN_0 (l:=p.params) (Nat.le_refl _) (by omega)
  rwa [List.take_length] at this
 ·obtain ⟨i,hi⟩:=List.getElem?_of_mem hy
  exact sok_of _ y p.params (Nat.le_refl _) ((hf.p p hp).b.kid hi) (blT_kids hb.b y hy) (blk_vc hb.b (by omega) hy) (preT_kid hy (h.r p.body (.inr ⟨p,hp,rfl⟩)))
theorem PgOk.main {P:Pg} (h:PgOk P) (hf:PgFit P):∀ y∈P.main.kids,SOk P.procs P.vars y:=fun y hy=>by
 have hb:=(val_bnd h.v).m
 have hc:=h.c
 unfold chkN at hc
 obtain ⟨i,hi⟩:=List.getElem?_of_mem hy
 exact sok_of _ y P.vars (Nat.le_refl _) (hf.m.kid hi) (blT_kids hb.b y hy) (blk_vc hb.b (by omega) hy) (preT_kid hy (h.r P.main (.inl rfl)))
theorem PgOk.names {P:Pg} (h:PgOk P):(P.vars.map Vd.name).Nodup:=by
 have hc:=h.c
 unfold chkN at hc
 have:=declN_0 (l:=P.vars) (Nat.le_refl _) (by omega)
 rwa [List.take_length] at this
theorem StS.trans {B:Nat} {w w1 w2:World} {G G1 G2:Gs} {σ1 σ2:Mt} {S S1 S2:Ro→Prop} (h:StS B w G w1 G1 σ1 S1) (h2:StS B w1 G1 w2 G2 σ2 S2) (e1:∀ r,S1 r→S r) (e2:∀ r,S2 r→S r):StS B w G w2 G2 σ2 S:=
 ⟨h2.o,(h.fr.mono fun _ _ e=>e1 _ e).trans h2.fr fun k hk e=>by have:=e2 _ e;rw [h.old k hk] at this;exact this,
  fun k e=>h2.r10 k (h.r10 k e),fun k hk=>(h2.old k (Nat.lt_of_lt_of_le hk h.fr.size)).trans (h.old k hk),
  fun c v hn e=>h2.it c v (fun e'=>hn (e2 _ e')) (h.it c v (fun e'=>hn (e1 _ e')) e),
  h2.sb.trans h.sb,h2.tb.trans h.tb,h2.cb.trans h.cb,h2.fs.trans h.fs,h2.cv.trans h.cv⟩
theorem StS.mono {B:Nat} {w w1:World} {G G1:Gs} {σ1:Mt} {S S1:Ro→Prop} (h:StS B w G w1 G1 σ1 S1) (e1:∀ r,S1 r→S r):StS B w G w1 G1 σ1 S:=
 ⟨h.o,h.fr.mono fun _ _ e=>e1 _ e,h.r10,h.old,fun c v hn e=>h.it c v (fun e'=>hn (e1 _ e')) e,h.sb,h.tb,h.cb,h.fs,h.cv⟩
theorem StO.same {B:Nat} {w w1:World} {G:Gs} {σ:Mt} (h:StO B w G σ) (hb:Below w.heap.size w w1) (S:Ro→Prop):StS B w G w1 G σ S:=
 ⟨h.below hb,Fr.of_below hb _,fun _ e=>e,fun _ _=>rfl,fun _ _ _ e=>e,rfl,rfl,rfl,rfl,rfl⟩
def cellS (c:Nat) (r:Ro):Prop:=r=(8,c)∨r=(9,c)
theorem StO.cellStep {B:Nat} {w w0 w':World} {G:Gs} {σ:Mt} (h:StO B w G σ) (hb:Below w.heap.size w w0) {c b:Nat} {l:List Int} (hc:σ.mem[c]?=some l) (hcb:G.cb[c]?=some b) {v:Value} (hv:G.it[c]?=some v) {l':List Int} (ht:TpP B w0 b 0 v l' w'):∃ G',StS B w G w' G' { σ with mem:=σ.mem.set c l' } (cellS c):=by
 obtain ⟨w1,v',hr,rfl⟩:=ht
 obtain ⟨b',v2,hb',hv2,hbx,hrw⟩:=h.slot hc
 obtain rfl:b'=b:=Option.some.inj (hb'.symm.trans hcb)
 obtain rfl:v2=v:=Option.some.inj (hv2.symm.trans hv)
 have hTB:=hbx.1.lt
 have hs0:=hb.size
 have hnv:v2.ownBlock≠some b':=fun e=>by
  have h1:=hrw.2 _ e
  rw [hbx.2] at h1
  simp at h1
 have hne:=hr.ne (Nat.lt_of_lt_of_le hTB hs0) hnv
 have hf:Fr w (w1.setCell ⟨b',0,none⟩ v') (fun k=>k=b'∨some k=v2.ownBlock):=(((Fr.of_below hb _).trans hr.fr fun k _ e=>.inr e).trans (Fr.of_set w1 ⟨b',0,none⟩ v') fun k _ e=>.inl e)
 have hm:∀ k,k<w.heap.size→(k=b'∨some k=v2.ownBlock)→G.R k=(8,c)∨G.R k=(9,c):=fun k _ e=>by
  rcases e with e | e
  ·exact .inl (e▸hbx.2)
  ·exact .inr (hrw.2 k e.symm)
 have hR:∀ k,k<w.heap.size→putRo G.R v'.ownBlock (9,c) k=G.R k:=putRo_old fun g hg=>by
  rcases hr.at_ with q | ⟨g',q,hg'⟩
  ·exact .inr (hrw.2 g (q▸hg))
  ·rw [q] at hg;cases hg;exact .inl (by omega)
 have hsz:w.heap.size≤(w1.setCell ⟨b',0,none⟩ v').heap.size:=hf.size
 have hge:∀ k,putRo G.R v'.ownBlock (9,c) k≠(0,0)→B≤k∧k<(w1.setCell ⟨b',0,none⟩ v').heap.size:=putRo_ge h.ge hsz fun g hg=>⟨obg hr.own g hg,by have:=(hr.own.lt g hg).2;simpa using this⟩
 have hbx2:BoxR (w1.setCell ⟨b',0,none⟩ v') (putRo G.R v'.ownBlock (9,c)) (8,c) b' #[v']:=
  ⟨((hbx.1.below hb).fr hr.fr fun e=>hnv e.symm).set 0 v',by rw [pro hne];exact hbx.2⟩
 have hrw2:RowR (w1.setCell ⟨b',0,none⟩ v') (putRo G.R v'.ownBlock (9,c)) (9,c) B 3 1 v' l'.length (l'.map (.int .i64)):=
  ⟨(Fr.of_set w1 ⟨b',0,none⟩ v').own hr.own fun g hg e=>by have e':g=b':=e;exact hne (e'▸hg),fun g hg=>prs hg⟩
 refine ⟨_,h.cellUpd hf hm hR hge hcb hbx2 hrw2,hf.mono fun k hk e=>hm k hk e,fun k hk=>?_,hR,fun c' u hn e=>?_,rfl,rfl,rfl,rfl,rfl⟩
 ·have hk2:=(h.ge k (by rw [hk];simp)).2
  exact (hR k hk2).trans hk
 ·show (G.it.set c v')[c']?=some u
  rw [List.getElem?_set_ne (fun e'=>hn (by subst e';exact .inr rfl))]
  exact e
def DoP (B:Nat) (w:World) (G:Gs) (o:Option Mt) (e:Ending) (w':World):Prop:=match o with
 | some σ'=>e=.returned (.int .i64 0)∧∃ G',StS B w G w' G' σ' anyS
 | none=>∃ er:Int,er≠0∧e=.returned (.int .i64 er)∧Fr w w' (fun k=>anyS (G.R k))
theorem DoP.step {B:Nat} {w w1 w':World} {G:Gs} {o:Option Mt} {e:Ending} (hb:Below w.heap.size w w1) (h:DoP B w1 G o e w'):DoP B w G o e w':=by
 cases o with
 | none=>
   obtain ⟨er,h1,h2,h3⟩:=h
   exact ⟨er,h1,h2,(Fr.of_below hb _).trans h3 fun k _ e=>e⟩
 | some σ'=>
   obtain ⟨h1,G',h2⟩:=h
   exact ⟨h1,G',h2.o,(Fr.of_below hb _).trans h2.fr fun k _ e=>e,h2.r10,fun k hk=>h2.old k (Nat.lt_of_lt_of_le hk hb.size),h2.it,h2.sb,h2.tb,h2.cb,h2.fs,h2.cv⟩
structure Plc (w:World) (G:Gs) (σ:Mt) (c i g:Nat) (x:Int):Prop where
 lt:∃ l,σ.mem[c]?=some l∧l[i]?=some x
 it:∃ v,G.it[c]?=some v∧v.ownBlock=some g
 cell:w.cell? ⟨g,i,none⟩=some (.int .i64 x)
 free:w.frozen? ⟨g,i,none⟩=false
 role:G.R g=(9,c)
theorem StO.plc {B:Nat} {w:World} {G:Gs} {σ:Mt} (h:StO B w G σ) {c i:Nat} {l:List Int} (hc:σ.mem[c]?=some l) {x:Int} (hx:l[i]?=some x):∃ b g cap,G.cb[c]?=some b∧w.cell? ⟨b,0,none⟩=some (.slice (some ⟨g,0,none⟩) l.length cap)∧Plc w G σ c i g x:=by
 obtain ⟨b,v,hb,hv,hbx,hrw⟩:=h.slot hc
 have hi:=(List.getElem?_eq_some_iff.1 hx).1
 rcases id hrw.1.2 with ⟨_,h0⟩ | ⟨g,cap,cur,e,_,hh,_⟩
 ·omega
 ·refine ⟨b,g,cap,hb,by rw [← e];exact hbx.1.cell rfl,⟨l,hc,hx⟩,⟨v,hv,by rw [e];rfl⟩,?_,by simp [World.frozen?,hh],hrw.2 g (by rw [e];rfl)⟩
  have:=hrw.1.cells (g:=g) (by rw [e];rfl) i (.int .i64 x) (by rw [List.getElem?_map,hx];rfl)
  rw [add0] at this
  exact this
theorem Plc.get {w:World} {G:Gs} {σ:Mt} {c i g:Nat} {x:Int} (h:Plc w G σ c i g x):getM σ.mem (c,i)=x:=by
 obtain ⟨l,h1,h2⟩:=h.lt
 unfold getM;rw [h1];simp [h2]
theorem Plc.block {w:World} {G:Gs} {σ:Mt} {c i g:Nat} {x:Int} (h:Plc w G σ c i g x):g<w.heap.size:=block_lt_of_cell h.cell
theorem Plc.step {B:Nat} {w w':World} {G G':Gs} {σ σ':Mt} {S:Ro→Prop} {c i g:Nat} {x:Int} (h:Plc w G σ c i g x) (hs:StS B w G w' G' σ' S) (hn:¬ S (9,c)) (hm:σ'.mem[c]?=σ.mem[c]?):Plc w' G' σ' c i g x:=by
 obtain ⟨v,h1,h2⟩:=h.it
 have hng:¬ S (G.R g):=by rw [h.role];exact hn
 refine ⟨by rw [hm];exact h.lt,⟨v,hs.it c v hn h1,h2⟩,hs.fr.cell h.cell hng,?_,by rw [hs.old g h.block];exact h.role⟩
 have:=h.free
 simp only [World.frozen?,hs.fr.block g h.block hng] at this ⊢
 exact this
theorem Plc.set {B:Nat} {w:World} {G:Gs} {σ:Mt} {c i g:Nat} {x:Int} (h:Plc w G σ c i g x) (ho:StO B w G σ) (y:Int):StS B w G (w.setCell ⟨g,i,none⟩ (.int .i64 y)) G { σ with mem:=setM σ.mem (c,i) y } (fun r=>r=(9,c)):=by
 obtain ⟨l,h1,_⟩:=h.lt
 obtain ⟨v,h2,h3⟩:=h.it
 exact ho.place h1 h2 h3 y
def pushT (σ:Mt) (c i:Nat) (c2:Nat):Option Mt:=(σ.mem[c2]?).bind fun l=>if l.length<1000 then some ⟨setM (σ.mem.set c2 (l++[getM σ.mem (c,i)])) (c,i) 0,σ.inp,σ.out⟩ else none
def popT (σ:Mt) (c i:Nat) (c2:Nat):Option Mt:=(σ.mem[c2]?).bind fun l=>(l.getLast?).bind fun v=>if getM σ.mem (c,i)=0 then some ⟨setM (σ.mem.set c2 l.dropLast) (c,i) v,σ.inp,σ.out⟩ else none
theorem push_row {B:Nat} {w w9:World} {v v':Value} {l:List Int} {x:Int} (hx:w9.ownsRow B 3 1 v' (l.length+1) (l.map (.int .i64)++[.int .i64 x])) (hg:w.grownBy w9 v.ownBlock) (ha:v'.ownBlock=v.ownBlock∨v'.ownBlock=some w.heap.size):RwN B w v (l++[x]) w9 v':=by
 refine ⟨?_,⟨hg.os,hg.tape,hg.output,hg.size,fun k hk hn=>hg.block k hk fun e=>hn e⟩,?_⟩
 ·rw [List.length_append,List.map_append];exact hx
 ·rcases ha with h | h
  ·exact .inl h
  ·exact .inr ⟨_,h,Nat.le_refl _⟩
theorem own_prefix {w:World} {B n:Nat} {e:TypeId} {A:Option Addr} {c:Nat} {xs:List Value} (h:w.ownsRow B e 1 (.slice A (n+1) c) (n+1) xs):w.ownsRow B e 1 (.slice A n c) n xs.dropLast:=by
 rcases id h.2 with ⟨hv,_⟩ | ⟨g,cap,cur,hv,hB,hh,hn,hc,h3,h4⟩
 ·simp at hv
 ·injection hv with e1 e2 e3
  subst e1 e3
  have hx:xs.length=n+1:=by have:=h.1;omega
  refine own_of_cells hB hh (by omega) (by omega) hc (by simp;omega) fun j u hu=>?_
  have hj:j<xs.dropLast.length:=(List.getElem?_eq_some_iff.1 hu).1
  rw [List.length_dropLast] at hj
  rw [List.getElem?_dropLast,if_pos hj] at hu
  have:=h.cells (g:=g) rfl j u hu
  rw [add0] at this
  exact this
theorem frz_fr {w w':World} {m:Nat→Prop} (h:Fr w w' m) {b j:Nat} (hb:b<w.heap.size) (hn:¬ m b) (hz:w.frozen? ⟨b,j,none⟩=false):w'.frozen? ⟨b,j,none⟩=false:=by
 simp only [World.frozen?,h.block b hb hn] at hz ⊢
 exact hz
theorem push_keep {w w9:World} {o:Obj} {v:Value} {b g i:Nat} {u0 u1:Value} (hg:(w.drew.alloc o).grownBy w9 v.ownBlock) (hv:v.ownBlock≠some b) (hw:v.ownBlock≠some g) (hb:w.cell? ⟨b,0,none⟩=some u0) (hb2:w.frozen? ⟨b,0,none⟩=false) (hc:w.cell? ⟨g,i,none⟩=some u1) (hc2:w.frozen? ⟨g,i,none⟩=false):(w9.cell? ⟨b,0,none⟩=some u0∧w9.frozen? ⟨b,0,none⟩=false∧b<w9.heap.size)∧w9.cell? ⟨g,i,none⟩=some u1∧w9.frozen? ⟨g,i,none⟩=false∧g<w9.heap.size:=by
 have hf:Fr w w9 (fun k=>some k=v.ownBlock):=((Fr.of_below ((bld (Below.refl _ _)).alloc (Nat.le_refl _) o) _).trans (Fr.of_grown hg) fun _ _ e=>e)
 have l1:=block_lt_of_cell hb
 have l2:=block_lt_of_cell hc
 exact ⟨⟨hf.cell hb fun e=>hv e.symm,frz_fr hf l1 (fun e=>hv e.symm) hb2,Nat.lt_of_lt_of_le l1 hf.size⟩,hf.cell hc fun e=>hw e.symm,frz_fr hf l2 (fun e=>hw e.symm) hc2,Nat.lt_of_lt_of_le l2 hf.size⟩
section
variable {B:Nat} {w:World} {G:Gs} {σ:Mt} {c i g c2 b:Nat} {x:Int} {l:List Int}
theorem push_any (h:StO B w G σ) (hB:B≤w.heap.size) (hp:Plc w G σ c i g x) (hl:σ.mem[c2]?=some l) (hcb:G.cb[c2]?=some b) (hne:c≠c2) (hln:l.length≤1000) :
  Calls Tryz.prog 158 #[.int .u8 44,.pointer (some ⟨g,i,none⟩),.pointer (some ⟨b,0,none⟩)] w (DoP B w G (pushT σ c i c2)):=by
 obtain ⟨b',v,hb',hv,hbx,hrw⟩:=h.slot hl
 obtain rfl:b'=b:=Option.some.inj (hb'.symm.trans hcb)
 obtain ⟨A,cap,e,hcap,_⟩:=ofb hrw.1
 have y0:w.cell? ⟨b',0,none⟩=some (.slice A l.length cap):=by rw [← e];exact hbx.1.cell rfl
 have y1:=hp.cell
 have f0:=hbx.1.free 0
 have f1:=hp.free
 have hlb:=hbx.1.lt
 have hlg:=hp.block
 by_cases hroom:l.length<1000
 ·have hT:pushT σ c i c2=some ⟨setM (σ.mem.set c2 (l++[x])) (c,i) 0,σ.inp,σ.out⟩:=by unfold pushT;rw [hl,Option.bind_some,if_pos hroom,hp.get]
  have hg0:decide ((1000:Int)≤l.length)=false:=decide_eq_false (by omega)
  have hnv:v.ownBlock≠some b':=fun e=>by
   have h1:=hrw.2 _ e
   rw [hbx.2] at h1
   simp at h1
  have hgb:g≠b':=fun e=>by have h1:=hp.role;rw [e,hbx.2] at h1;simp at h1
  have hgv:v.ownBlock≠some g:=fun e=>by have h1:=hrw.2 _ e;rw [hp.role] at h1;simp at h1;exact hne h1
  obtain ⟨i0,hi0,hz0,hz1,hz2⟩:=info_parts info_int
  have HI:=kp (And.intro hi0 (And.intro hz0 (And.intro hz1 hz2)))
  have HO:=kp (e▸hrw.1)
  have HFIN:=kp (fun (w9:World) (v':Value) (hr:RwN B (w.drew.alloc (.cells #[.int .i64 x] 3)) v (l++[x]) w9 v')=>show DoP B w G (pushT σ c i c2) (.returned (.int .i64 0)) ((w9.setCell ⟨b',0,none⟩ v').setCell ⟨g,i,none⟩ (.int .i64 0)) from by
   rw [hT]
   obtain ⟨G',hs⟩:=h.cellStep ((bld (Below.refl _ _)).alloc (Nat.le_refl _) _) hl hcb hv ⟨w9,v',hr,rfl⟩
   have hp2:=hp.step hs (by rintro (e | e)<;>simp at e;exact hne e) (by rw [List.getElem?_set_ne (Ne.symm hne)])
   exact ⟨rfl,G',hs.trans (hp2.set hs.o 0) (fun r e=>by rcases e with e | e<;>(rw [e];exact ⟨by simp,by simp⟩)) (fun r e=>by rw [e];exact ⟨by simp,by simp⟩)⟩)
  have HGB:=kp (And.intro hgb (And.intro hgv hnv))
  clear h hp hl hcb hv hbx hrw hT hi0 hz0 hz1 hz2 hgb hgv hnv hne hcap
  go_enter Tryz.func158,Tryz.ntmps158
  go_upto_region 7 with fail
  go_region_law (first
   | (refine step_app _ (by rfl) (.tmp 47) (.tmp 51) 30 (by rfl) B 3 i0 (.int .i64 0) 1 8 Tryz.underlying30 HI.out.1 HI.out.2.1 HI.out.2.2.1 HI.out.2.2.2 rfl (by decide) (.slice A l.length cap) l.length (l.map (.int .i64)) (by first | (simp [Act.eval];done) | (simp [Act.eval,Act.put];done)) (obl (w:=w) HO.out ((bld (Below.refl _ _)).alloc (Nat.le_refl _) _)) (some ⟨w.heap.size,0,none⟩) 1 1 [.int .i64 x] (by first | (simp [Act.eval];done) | (simp [Act.eval,Act.put];done)) rfl (cnu w.drew rfl [.int .i64 x] _) (one_i64 _) (by unfold maxLen;omega) (by omega) (by simp;omega) ?_;intro v' w9 hown hgrow hat;have HM:=kp (HFIN.out w9 v' (push_row (v:=v) hown (e▸hgrow) (e▸hat)));obtain ⟨⟨z0,z1,z2⟩,z3,z4,z5⟩:=push_keep (v:=v) (e▸hgrow) HGB.out.2.2 HGB.out.2.1 y0 f0 y1 f1;obtain ⟨A9,c9,rfl,hc9,hqq⟩:=ofb hown;clear hqq hown hgrow hat)
   | fail)
  all_goals
   have hgb:=HGB.out.1
   have hgb2:=Ne.symm HGB.out.1
   go_wp2_with fail
   go_ret
   exact HM.out
 ·have hT:pushT σ c i c2=none:=by unfold pushT;rw [hl,Option.bind_some,if_neg hroom]
  have hg0:decide ((1000:Int)≤l.length)=true:=decide_eq_true (by omega)
  rw [hT]
  clear h hp hl hcb hv hbx hrw hT hcap
  go_enter Tryz.func158,Tryz.ntmps158
  go_wp2_with fail
  go_ret
  exact ⟨5,by omega,rfl,Fr.refl _ _⟩
theorem setM_set2 {mem:List (List Int)} {c c2 i:Nat} {l':List Int} {y:Int} (hne:c≠c2):setM (mem.set c2 l') (c,i) y=(setM mem (c,i) y).set c2 l':=by
 unfold setM
 rw [List.getElem?_set_ne (Ne.symm hne),List.set_comm _ _ (Ne.symm hne)]
theorem pop_any (h:StO B w G σ) (hp:Plc w G σ c i g x) (hl:σ.mem[c2]?=some l) (hcb:G.cb[c2]?=some b) (hne:c≠c2) (hln:l.length≤1000) :
  Calls Tryz.prog 158 #[.int .u8 45,.pointer (some ⟨g,i,none⟩),.pointer (some ⟨b,0,none⟩)] w (DoP B w G (popT σ c i c2)):=by
 obtain ⟨b',v,hb',hv,hbx,hrw⟩:=h.slot hl
 obtain rfl:b'=b:=Option.some.inj (hb'.symm.trans hcb)
 obtain ⟨A,cap,e,hcap,hq⟩:=ofb hrw.1
 have y0:w.cell? ⟨b',0,none⟩=some (.slice A l.length cap):=by rw [← e];exact hbx.1.cell rfl
 have y1:=hp.cell
 have f0:=hbx.1.free 0
 have f1:=hp.free
 have hlb:=hbx.1.lt
 have hlg:=hp.block
 by_cases h0:l=[]
 ·subst h0
  have hT:popT σ c i c2=none:=by unfold popT;rw [hl];rfl
  rw [hT]
  rw [List.length_nil] at y0
  clear h hp hl hcb hv hbx hrw hT hcap hq
  go_enter Tryz.func158,Tryz.ntmps158
  go_wp2_with fail
  go_ret
  exact ⟨13,by omega,rfl,Fr.refl _ _⟩
 ·obtain ⟨n,hn⟩:∃ n,l.length=n+1:=⟨l.length - 1,by have:=List.length_pos_iff.2 h0;omega⟩
  obtain ⟨y,hy⟩:∃ y,l[n]?=some y:=⟨_,List.getElem?_eq_getElem (by omega)⟩
  have hT:popT σ c i c2=if x=0 then some ⟨setM (σ.mem.set c2 l.dropLast) (c,i) y,σ.inp,σ.out⟩ else none:=by unfold popT;rw [hl,Option.bind_some,List.getLast?_eq_getElem?,hn,Nat.add_sub_cancel,hy,Option.bind_some,hp.get]
  obtain ⟨g2,rfl,_⟩:=hq (by omega)
  have y2:w.cell? ⟨g2,n,none⟩=some (.int .i64 y):=by
   have:=hrw.1.cells (g:=g2) (by rw [e];rfl) n (.int .i64 y) (by rw [List.getElem?_map,hy];rfl)
   rw [add0] at this;exact this
  have hl2:=block_lt_of_cell y2
  rw [hn] at y0 hcap
  have r0:((n:Int)+1) - 1=n:=by omega
  have r1:(0:Int)≤n:=by omega
  have r2:(n:Int)<(n:Int)+1:=by omega
  have r3:((n:Int)+1 == 0)=false:=by simp;omega
  have r4:(((n+1:Nat):Int))=(n:Int)+1:=by omega
  have r5:(n:Int)≤cap:=by omega
  have r6:¬ ((n:Int)<0):=by omega
  by_cases hx:x=0
  ·rw [if_pos hx] at hT
   subst hx
   have hgb:g≠b':=fun e=>by have h1:=hp.role;rw [e,hbx.2] at h1;simp at h1
   have hHM:=kp (show DoP B w G (popT σ c i c2) (.returned (.int .i64 0)) ((w.setCell ⟨g,i,none⟩ (.int .i64 y)).setCell ⟨b',0,none⟩ (.slice (some ⟨g2,0,none⟩) n cap)) from by
    rw [hT]
    have hs:=hp.set h y
    have hit:G.it[c2]?=some v:=hv
    have hm2:(setM σ.mem (c,i) y)[c2]?=some l:=by unfold setM;rw [List.getElem?_set_ne hne];exact hl
    obtain ⟨b2,v2,hb2,hv2,hbx2,hrw2⟩:=hs.o.slot hm2
    obtain rfl:v2=v:=Option.some.inj (hv2.symm.trans hit)
    have hpre:(w.setCell ⟨g,i,none⟩ (.int .i64 y)).ownsRow B 3 1 (.slice (some ⟨g2,0,none⟩) n cap) l.dropLast.length (l.dropLast.map (.int .i64)):=by
     have h1:=hrw2.1
     rw [e,hn] at h1
     have h2:=own_prefix h1
     rw [List.length_dropLast,hn,Nat.add_sub_cancel,List.map_dropLast]
     exact h2
    obtain ⟨G',hs2⟩:=hs.o.cellStep (Below.refl _ _) hm2 hcb hit ⟨_,_,⟨hpre,Fr.refl _ _,.inl (by rw [e];rfl)⟩,rfl⟩
    rw [setM_set2 hne]
    exact ⟨rfl,G',hs.trans hs2 (fun r e=>by rw [e];exact ⟨by simp,by simp⟩) (fun r e=>by rcases e with e | e<;>(rw [e];exact ⟨by simp,by simp⟩))⟩)
   have hgb2:=Ne.symm hgb
   clear h hp hl hcb hv hbx hrw hT hcap hy hq e
   go_enter Tryz.func158,Tryz.ntmps158
   go_wp2_with fail
   go_ret
   exact hHM.out
  ·rw [if_neg hx] at hT
   have hx2:(x == 0)=false:=by simpa using hx
   rw [hT]
   clear h hp hl hcb hv hbx hrw hT hcap hy hq e
   go_enter Tryz.func158,Tryz.ntmps158
   go_wp2_with fail
   go_ret
   exact ⟨14,by omega,rfl,Fr.refl _ _⟩
end
end Go.Proofs.YtgbomnibedefoaaGreatDoor
