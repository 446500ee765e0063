import Derived.Test.YtgbomnibedefoaaGreatDoorQa38
set_option maxRecDepth 100000
set_option maxHeartbeats 8000000
namespace Go.Proofs.YtgbomnibedefoaaGreatDoor
open Go.ChangeShapes Go.WideShapes Go.ChangeAt Go.RowKit Go.Sort
theorem info_ints:(Tryz.prog.info? 30).map (fun i=>(i.zero,i.size,i.bytes))=some (some (.slice none 0 0),1,24):=by kernel_rfl
theorem make_cl (n:Nat) (hn:n≤1000000) (W:World):(Instr.makeSlice 29 (.int .i64 n) (.int .i64 n)).run Tryz.prog W=.ok (.slice (some ⟨W.heap.size,0,none⟩) n n) (W.alloc (.cells (madeCells #[.slice none 0 0] n) 30)):=by
 obtain ⟨i0,hi0,hz0,hz1,hz2⟩:=info_parts info_ints
 have h:=run_make (P:=Tryz.prog) W 29 30 i0 (.slice none 0 0) Tryz.underlying29 hi0 hz0 .i64 .i64 n n (by omega) (Int.le_refl _) (by rw [hz2];omega) (by omega)
 rw [hz1] at h
 rw [show (Value.slice none 0 0).cells=#[.slice none 0 0] from rfl,Nat.mul_one] at h
 simpa using h
def StR (RB n:Nat) (mem:List (List Int)) (k:Nat) (w:World):Prop:=∃ cs:Array Value,Bx w RB cs∧cs.size=n∧∀ (i:Nat) (l:List Int),i<k→mem[i]?=some l→∃ v,cs[i]?=some v∧w.ownsRow (RB+1) 3 1 v l.length (l.map (.int .i64))
theorem StR.below {RB n k:Nat} {mem:List (List Int)} {w w':World} (h:StR RB n mem k w) (hb:Below w.heap.size w w'):StR RB n mem k w':=by
 obtain ⟨cs,h1,h2,h3⟩:=h
 refine ⟨cs,h1.below hb,h2,fun i l hi hl=>?_⟩
 obtain ⟨v,e,ho⟩:=h3 i l hi hl
 exact ⟨v,e,obl ho hb⟩
theorem StR.set {RB n k:Nat} {mem:List (List Int)} {w:World} (h:StR RB n mem k w) (hk:k<n) {l:List Int} (hl:mem[k]?=some l) {v:Value} (hv:w.ownsRow (RB+1) 3 1 v l.length (l.map (.int .i64))):StR RB n mem (k+1) (w.setCell ⟨RB,k,none⟩ v):=by
 obtain ⟨cs,h1,h2,h3⟩:=h
 have hset:∀ {v':Value} {xs:List Value} {m:Nat},w.ownsRow (RB+1) 3 1 v' m xs→(w.setCell ⟨RB,k,none⟩ v).ownsRow (RB+1) 3 1 v' m xs:=fun ho=>(Fr.of_set w ⟨RB,k,none⟩ v).own ho fun g hg e=>by
  have:=obg ho g hg
  have e':g=RB:=e
  omega
 refine ⟨_,h1.set k v,by simpa using h2,fun i l' hi hl'=>?_⟩
 by_cases e:i=k
 ·subst e
  rw [hl] at hl'
  cases hl'
  exact ⟨v,by rw [Array.getElem?_setIfInBounds_self_of_lt (by omega)],hset hv⟩
 ·obtain ⟨v',e',ho⟩:=h3 i l' (by omega) hl'
  exact ⟨v',by rw [Array.getElem?_setIfInBounds_ne (Ne.symm e)];exact e',hset ho⟩
theorem StR.cls {RB:Nat} {mem:List (List Int)} {w:World} (h:StR RB mem.length mem mem.length w):ClsAt w (some ⟨RB,0,none⟩) mem:=fun k c hk=>by
 obtain ⟨cs,h1,_,h3⟩:=h
 obtain ⟨v,e,ho⟩:=h3 k c (List.getElem?_eq_some_iff.1 hk).1 hk
 obtain ⟨A,cap,rfl,hi⟩:=ints_of_own ho
 exact ⟨RB,0,A,cap,rfl,by rw [Nat.zero_add];exact h1.cell e,hi⟩
theorem StR.fr {RB n k:Nat} {mem:List (List Int)} {w w':World} (h:StR RB n mem k w) {m:Nat→Prop} (hf:Fr w w' m) (hm:∀ k,RB≤k→¬ m k):StR RB n mem k w':=by
 obtain ⟨cs,h1,h2,h3⟩:=h
 refine ⟨cs,h1.fr hf (hm RB (Nat.le_refl _)),h2,fun i l hi hl=>?_⟩
 obtain ⟨v,e,ho⟩:=h3 i l hi hl
 exact ⟨v,e,hf.own ho fun g hg=>hm g (by have:=obg ho g hg;omega)⟩
theorem glE_get (l:List Vd) (k:Nat):(glE l)[k]?=(l[k]?).map fun v=>⟨v,k⟩:=by unfold glE;rw [List.getElem?_map,List.getElem?_zipIdx];cases l[k]?<;>simp
def StaP (σ:Mt) (w:World) (e:Ending) (w':World):Prop:=∃ Ac Ai Ao ca ci co,e=.returned (.agg #[.slice Ac σ.mem.length ca,.slice Ai σ.inp.length ci,.slice Ao σ.out.length co])∧(∀ w'':World,Fr w' w'' (fun k=>k≤w.heap.size)→SgAt w'' Ac Ai Ao ⟨σ.mem,σ.inp,σ.out⟩)∧Below w.heap.size w w'
theorem sta_fin {σ:Mt} {w wr w8 w9 wf:World} {RB A8c A9c:Nat} {A8 A9:Option Addr} (hT:StR RB σ.mem.length σ.mem σ.mem.length wr) (hlt:w.heap.size<RB) (hR:Below w.heap.size w wr) (hb8:Below wr.heap.size wr w8) (h8:w8.ownsRow wr.heap.size 3 1 (.slice A8 σ.inp.length A8c) σ.inp.length (σ.inp.map (.int .i64))) (hb9:Below w8.heap.size w8 w9) (h9:w9.ownsRow w8.heap.size 3 1 (.slice A9 σ.out.length A9c) σ.out.length (σ.out.map (.int .i64))) (hf:Fr w9 wf (fun k=>k=w.heap.size)) :
  StaP σ w (.returned (.agg #[.slice (some ⟨RB,0,none⟩) σ.mem.length σ.mem.length,.slice A8 σ.inp.length A8c,.slice A9 σ.out.length A9c])) wf:=by
 have hlr:RB<wr.heap.size:=by obtain ⟨cs,q,_⟩:=hT;exact q.lt
 have hs8:=hb8.size
 have hT9:=(hT.below (bl2 hb8 hb9)).fr hf fun k hk e=>by omega
 have h8':=hf.own (obl h8 hb9) fun g hg e=>by have:=obg h8 g hg;omega
 have h9':=hf.own h9 fun g hg e=>by have:=obg h9 g hg;omega
 refine ⟨_,_,_,_,_,_,rfl,fun w'' h2=>?_,hf.toBelow (bl2 (bl2 hR hb8) hb9) ?_ fun k e=>by omega⟩
 ·have hT2:=hT9.fr h2 fun k hk e=>by omega
  have g8:=h2.own h8' fun g hg e=>by have:=obg h8 g hg;omega
  have g9:=h2.own h9' fun g hg e=>by have:=obg h9 g hg;omega
  obtain ⟨_,_,e8,i8⟩:=ints_of_own g8
  obtain ⟨_,_,e9,i9⟩:=ints_of_own g9
  cases e8
  cases e9
  exact ⟨hT2.cls,i8,i9⟩
 ·have:=hR.size;have:=hb9.size;omega
section
variable {B:Nat} {w:World} {G:Gs} {σ:Mt}
theorem state_any (h:StO B w G σ) {vars:List Vd} {vV cV:Value} (hfs:G.fs=[⟨glE vars,0,vV,cV⟩]) (hml:σ.mem.length=vars.length) (hn:vars.length≤1000) (hc:∀ c∈σ.mem,c.length≤100000) (hi:σ.inp.length≤4096) (ho:σ.out.length≤4096) :
  Calls Tryz.prog 43 #[.pointer (some ⟨G.SB,0,none⟩)] w (StaP σ w):=by
 obtain ⟨f0,hf0,hb0,_⟩:=h.sto
 obtain rfl:f0=⟨glE vars,0,vV,cV⟩:=by rw [hfs] at hf0;exact (Option.some.inj hf0).symm
 obtain ⟨_,_,_,_,_,A2,c2,ecv,hcs⟩:=h.flen hf0
 have ecv':cV=.slice A2 vars.length c2:=by rw [← glE_len vars];exact ecv
 subst ecv'
 have y1':w.cell? ⟨G.SB,1,none⟩=some (.slice A2 vars.length c2):=hb0.cell rfl
 have y2':w.cell? ⟨G.SB,2,none⟩=some (.int .i64 0):=hb0.cell rfl
 have y4':=h.tbv
 have hls:=h.slt
 have HS:=kp (fun (Y:World) (hY:Below w.heap.size w Y)=>And.intro (blc hY y1') (And.intro (blc hY y2') (And.intro (blc hY y4') (Nat.lt_of_lt_of_le hls hY.size))))
 have HK:=kp (fun (k:Nat) (l:List Int) (hl:σ.mem[k]?=some l) (Y:World) (hY:Below w.heap.size w Y)=>show ∃ bo oo b A cap,A2=some ⟨bo,oo,none⟩∧Y.cell? ⟨bo,oo+k,none⟩=some (.pointer (some ⟨b,0,none⟩))∧Y.cell? ⟨b,0,none⟩=some (.slice A l.length cap)∧IntsAt Y A l from by
  obtain ⟨b,v,hb,hv,hbx,hrw⟩:=h.slot hl
  obtain ⟨A,cap,rfl,hints⟩:=ints_of_own hrw.1
  have hkv:k<vars.length:=by rw [← hml];exact (List.getElem?_eq_some_iff.1 hl).1
  obtain ⟨bo,oo,e1,e2⟩:=hcs k (.pointer (some ⟨b,0,none⟩)) (by
   unfold ptrs
   rw [List.getElem?_map,glE_get,List.getElem?_eq_getElem hkv]
   simp [hb])
  exact ⟨bo,oo,b,A,cap,e1,blc hY e2,blc hY (hbx.1.cell rfl),hints.mono hY⟩)
 have HIN:=kp (fun (Y:World) (hY:Below w.heap.size w Y)=>tapeIn_any (h.below hY) hi)
 have HOU:=kp (fun (Y:World) (hY:Below w.heap.size w Y)=>tapeOut_any (h.below hY) ho)
 have hmk:=make_cl vars.length (by omega)
 have HB:=kp (blb w (Obj.cells #[.slice none 0 0,.slice none 0 0,.slice none 0 0] 32))
 have HRX:=kp (bxn w #[.slice none 0 0,.slice none 0 0,.slice none 0 0] 32)
 have HML:=kp (And.intro hml hc)
 clear hf0 hb0 hcs ecv y1' y2' y4' h hfs hml hc
 go_enter Tryz.func43,Tryz.ntmps43
 go_upto_region 3 with fail
 generalize w.alloc _=W at HB HRX ⊢
 obtain ⟨y1,y2,y4,hls⟩:=HS.out W HB.out
 go_quiet (fail)
 have HBQ:=kp (bdn HB.out nq)
 have HRQ:=kp (HRX.out.below (bdn (Below.refl _ _) nq))
 generalize W.drewN nq=W2 at *
 go_upto_region 5 with fail
 obtain ⟨RB,hRB⟩:∃ b,W2.heap.size=b:=⟨_,rfl⟩
 have hwb:w.heap.size<RB:=by rw [← hRB];exact HRQ.out.lt
 have HB0:=kp (bl2 HBQ.out (blb W2 (Obj.cells (madeCells #[.slice none 0 0] vars.length) 30)))
 have HR0:=kp (HRQ.out.below (blb W2 (Obj.cells (madeCells #[.slice none 0 0] vars.length) 30)))
 have HT0:=kp (show StR RB vars.length σ.mem 0 (W2.alloc (Obj.cells (madeCells #[.slice none 0 0] vars.length) 30)) from ⟨_,hRB▸bxn W2 _ _,(by first | exact size_madeCells _ _ | simp [madeCells]),fun i l hi=>by omega⟩)
 rw [hRB]
 generalize W2.alloc _=W3 at HB0 HR0 HT0 ⊢
 clear y1 y2 y4 hls hRB hmk
 go_wp2_with fail
 go_loopw [25] (fun i wr=>∃ k:Nat,k≤vars.length∧i=.int .i64 k∧Hid (StR RB vars.length σ.mem k wr)∧Hid (Below w.heap.size w wr)∧Hid (Bx wr w.heap.size #[.slice none 0 0,.slice none 0 0,.slice none 0 0])) (fun i _=>vars.length - (intOf i).toNat)
 case atStart=>exact ⟨0,by omega,rfl,HT0,HB0,HR0⟩
 case round=>
  obtain ⟨k,hk,rfl,HT,HR,HX⟩:=hrel
  by_cases hin:k<vars.length
  ·have hinm:k<σ.mem.length:=by rw [HML.out.1];exact hin
   have hl:=List.getElem?_eq_getElem hinm
   have hlc:=HML.out.2 _ (List.getElem_mem hinm)
   generalize σ.mem[k]=l at *
   obtain ⟨bo,oo,b,A,cap,rfl,p0,p1,hints⟩:=HK.out k l hl wr HR.out
   obtain ⟨y1,y2,y4,hls⟩:=HS.out wr HR.out
   have HCL:=kp (cla l (by omega) A cap wr hints)
   have HLK:=kp hl
   have hlp:=block_lt_of_cell p0
   have hlq:=block_lt_of_cell p1
   have r0:(0:Int)≤k:=by omega
   have r1:(k:Int)<vars.length:=by omega
   have hRlt:RB<wr.heap.size:=by obtain ⟨cs,q,_⟩:=HT.out;exact q.lt
   clear hints hl hinm
   go_wp2_with fail
   refine HCL.out.mono ?_
   rintro e8 w8 ⟨v8,rfl,hv8,hb8⟩
   have HT8:=kp (HT.out.below hb8)
   obtain ⟨u,hu,hz⟩:∃ u,w8.cell? ⟨RB,k,none⟩=some u∧w8.frozen? ⟨RB,k,none⟩=false:=by
    obtain ⟨cs,q1,q2,_⟩:=HT8.out
    exact ⟨_,q1.cell (Array.getElem?_eq_getElem (by omega)),q1.free k⟩
   have HS8:=kp (HT8.out.set hin HLK.out (own_base hv8 (by omega)))
   have HB8:=kp ((bl2 HR.out hb8).setCell (p:=⟨RB,k,none⟩) (show w.heap.size≤RB by omega) v8)
   have HX8:=kp ((HX.out.below hb8).fr (Fr.of_set w8 ⟨RB,k,none⟩ v8) (fun e=>by have e':w.heap.size=RB:=e;omega))
   have hlR:=block_lt_of_cell hu
   obtain ⟨A8,c8,rfl,_⟩:=ofb hv8
   clear hv8 hb8
   go_wp2_with fail
   exact ⟨⟨k+1,by omega,by go_num,HS8,HB8,HX8⟩,by simp [intOf];omega⟩
  ·obtain rfl:k=vars.length:=by omega
   obtain ⟨y1,y2,y4,hls⟩:=HS.out wr HR.out
   obtain ⟨x0,x1,x2,f0,f1,f2⟩:=HX.out.three
   have hlx:=HX.out.lt
   have HTM:=kp (show StR RB σ.mem.length σ.mem σ.mem.length wr from by have:=HT.out;rw [← HML.out.1] at this;exact this)
   have hbP:=Below.refl wr.heap.size wr
   rw [← HML.out.1]
   go_upto_region 10 with fail
   go_region_law (first
    | (go_simp;go_at_call 65;(with_reducible refine Calls.mono (HIN.out wr.drew (bl2 HR.out (bld hbP))) ?_);rintro e8 w8 ⟨v8,rfl,hv8,hb8⟩;have HB8:=kp (bl2 (W:=wr) (bld hbP) hb8);obtain ⟨A8,c8,rfl,_⟩:=ofb hv8;have HI8:=kp (And.intro hb8 hv8);obtain ⟨z1,z2,z4,zls⟩:=HS.out w8 (bl2 HR.out HB8.out);clear hv8 hb8;dsimp only)
    | (go_simp;go_at_call 66;(with_reducible refine Calls.mono (HOU.out w8 (bl2 HR.out HB8.out)) ?_);rintro e9 w9 ⟨v9,rfl,hv9,hb9⟩;have HB9:=kp (bl2 HB8.out hb9);obtain ⟨A9,c9,rfl,_⟩:=ofb hv9;have HI9:=kp (And.intro hb9 hv9);have HX9:=kp (HX.out.below HB9.out);obtain ⟨k0,k1,k2,k3,k4,k5⟩:=HX9.out.three;have hl9:=HX9.out.lt;clear hv9 hb9;dsimp only)
    | fail)
   all_goals
    have HFB:=kp (HX9.out.set3 (.slice (some ⟨RB,0,none⟩) σ.mem.length σ.mem.length) (.slice A8 σ.inp.length c8) (.slice A9 σ.out.length c9))
    have HFF:=kp (Fr.set3 w9 w.heap.size (.slice (some ⟨RB,0,none⟩) σ.mem.length σ.mem.length) (.slice A8 σ.inp.length c8) (.slice A9 σ.out.length c9))
    generalize ((w9.setCell _ _).setCell _ _).setCell _ _=WF at HFB HFF ⊢
    have HZ:=kp (sta_fin HTM.out hwb HR.out HB8.out HI8.out.2 HI9.out.1 HI9.out.2 HFF.out)
    obtain ⟨g0,g1,g2,_⟩:=HFB.out.three
    go_wp2_with fail
    exact bodyPost_ret (v:=.agg #[.slice (some ⟨RB,0,none⟩) σ.mem.length σ.mem.length,.slice A8 σ.inp.length c8,.slice A9 σ.out.length c9]) (by simp [results,Tryz.results43,go_sem,g0,g1,g2]) rfl HZ.out
end
structure SgRng (S:Sg):Prop where
 c:∀ c∈S.cells,∀ x∈c,InR x
 i:∀ x∈S.inp,InR x
 o:∀ x∈S.out,InR x
def tyL (l:List Vd):List (Nat × Int):=l.map fun v=>(v.kind,v.len)
theorem glE_vs (l:List Vd):(glE l).map (·.v)=l:=by
 apply List.ext_getElem?
 intro i
 rw [List.getElem?_map,glE_get]
 cases l[i]?<;>rfl
theorem glE_mem {l:List Vd} {e:Ev} (h:e∈glE l):l[e.c]?=some e.v:=by
 obtain ⟨i,hi⟩:=List.getElem?_of_mem h
 rw [glE_get] at hi
 cases hl:l[i]? with
 | none=>rw [hl] at hi;cases hi
 | some v=>rw [hl] at hi;cases hi;exact hl
theorem glE_cs (l:List Vd):(glE l).map (·.c)=List.range l.length:=by
 apply List.ext_getElem?
 intro i
 rw [List.getElem?_map,glE_get]
 by_cases hi:i<l.length
 ·rw [List.getElem?_eq_getElem hi,List.getElem?_range hi];rfl
 ·rw [List.getElem?_eq_none (by omega),List.getElem?_eq_none (by simp;omega)];rfl
structure FitH (vars:List Vd) (S:Sg):Prop where
 v:∀ v∈vars,vdK v=true
 lv:vars.length≤32
 l:S.cells.length=vars.length
 i:S.inp.length≤4096
 o:S.out.length≤4096
 c:∀ (k:Nat) (v:Vd) (c:List Int),vars[k]?=some v→S.cells[k]?=some c→fitB v c=true
theorem fit_h {vars:List Vd} {S:Sg} (h:fitsB vars S=true):FitH vars S:=by
 unfold fitsB svalB at h
 simp only [Bool.and_eq_true,decide_eq_true_eq] at h
 obtain ⟨⟨⟨⟨⟨h1,h2⟩,h3⟩,h4⟩,h5⟩,h6⟩:=h
 refine ⟨List.all_eq_true.1 h2,h1,h3,h4,h5,fun k v c hv hc=>?_⟩
 have:=List.all_eq_true.1 h6 (v,c) (List.mem_of_getElem? (i:=k) (by rw [List.getElem?_zip_eq_some];exact ⟨hv,hc⟩))
 exact this
theorem FitH.shape {vars:List Vd} {S:Sg} (h:FitH vars S) {k:Nat} {v:Vd} {c:List Int} (hv:vars[k]?=some v) (hc:S.cells[k]?=some c):Shape (v.kind,v.len) c∧c.length≤1000:=by
 have h1:=h.c k v c hv hc
 have h2:=h.v v (List.mem_of_getElem? hv)
 unfold fitB fixR at h1
 unfold vdK at h2
 by_cases h3:v.kind=3
 ·rw [if_pos h3,decide_eq_true_eq] at h1
  exact ⟨⟨fun e=>by have e:v.kind=1:=e;omega,fun e=>by have e:v.kind=2:=e;omega,fun _=>h1⟩,h1⟩
 rw [if_neg h3,decide_eq_true_eq] at h1
 by_cases h4:v.kind=1
 ·rw [if_pos h4] at h1
  exact ⟨⟨fun _=>by omega,fun e=>by have e:v.kind=2:=e;omega,fun e=>absurd e h3⟩,by omega⟩
 rw [if_neg h4] at h1
 rw [if_neg (by omega)] at h2
 by_cases h5:v.kind=2
 ·rw [if_pos h5,Bool.and_eq_true,decide_eq_true_eq,decide_eq_true_eq] at h2
  exact ⟨⟨fun e=>absurd e h4,fun _=>h1,fun e=>absurd e h3⟩,by omega⟩
 ·rw [if_neg h5] at h2;cases h2
theorem FitH.mok {vars:List Vd} {S:Sg} (h:FitH vars S) (hr:SgRng S):MOk (tyL vars) ⟨S.cells,S.inp,S.out⟩:=by
 refine ⟨by rw [tyL,List.length_map];exact h.l,fun k t c ht hc=>?_,hr.c,fun c hc=>?_,h.i,h.o,hr.i,hr.o⟩
 ·rw [tyL,List.getElem?_map] at ht
  obtain ⟨v,hv,rfl⟩:=Option.map_eq_some_iff.1 ht
  exact (h.shape hv hc).1
 ·obtain ⟨k,hk⟩:=List.getElem?_of_mem hc
  have hkl:=(List.getElem?_eq_some_iff.1 hk).1
  exact (h.shape (List.getElem?_eq_getElem (show k<vars.length by rw [← h.l];exact hkl)) hk).2
theorem glE_ok {vars:List Vd} (hn:(vars.map Vd.name).Nodup):EOk (tyL vars) (glE vars):=by
 refine ⟨?_,?_,fun e he=>?_⟩
 ·have:(glE vars).map (fun e=>e.v.name)=((glE vars).map (·.v)).map Vd.name:=by rw [List.map_map];rfl
  rw [this,glE_vs];exact hn
 ·rw [glE_cs];exact List.nodup_range
 ·rw [tyL,List.getElem?_map,glE_mem he];rfl
structure CsR (W:World) (B CB k:Nat) (u1 u2:Value) (w:World) (v:Value) (cs:List Value):Prop where
 bx:Bx w CB #[v,u1,u2]
 own:w.ownsRow B 30 1 v k cs
 lt:CB<B
 le:W.heap.size≤CB
 bw:Below W.heap.size W w
 sz:B≤w.heap.size
theorem CsR.below {W w w':World} {B CB k:Nat} {u1 u2 v:Value} {cs:List Value} (h:CsR W B CB k u1 u2 w v cs) (hb:Below w.heap.size w w'):CsR W B CB k u1 u2 w' v cs:=⟨h.bx.below hb,obl h.own hb,h.lt,h.le,bl2 h.bw hb,Nat.le_trans h.sz hb.size⟩
theorem CsR.made {W w8 w9:World} {B CB k:Nat} {u1 u2 v v':Value} {cs news:List Value} (h:CsR W B CB k u1 u2 w8 v cs) (hown:w9.ownsRow B 30 1 v' (k+1) (cs++news)) (hgrow:w8.grownBy w9 v.ownBlock):CsR W B CB (k+1) u1 u2 (w9.setCell ⟨CB,0,none⟩ v') v' (cs++news):=by
 have hf:=Fr.of_grown hgrow
 have hlt:=h.lt
 have hbx:=h.bx.fr hf fun e=>by have:=obg h.own CB e.symm;omega
 have hf2:=Fr.of_set w9 ⟨CB,0,none⟩ v'
 have hW:=hf.toBelow h.bw h.bw.size fun k e=>by have:=obg h.own k e.symm;have:=h.le;omega
 exact ⟨hbx.set 0 v',hf2.own hown fun g hg e=>by have:=obg hown g hg;have e':g=CB:=e;omega,hlt,h.le,hW.setCell (p:=⟨CB,0,none⟩) h.le v',Nat.le_trans h.sz (Nat.le_trans hf.size hf2.size)⟩
def CstP (w:World) (e:Ending) (w':World):Prop:=∃ A1 n1 c1 A2 n2 c2 A3 n3 c3,e=.returned (.agg #[.slice A1 n1 c1,.slice A2 n2 c2,.slice A3 n3 c3])∧Below w.heap.size w w'
theorem scl_any (S:Sg) (hn:S.cells.length≤1000) (hc:∀ c∈S.cells,c.length≤100000) (hi:S.inp.length≤100000) (ho:S.out.length≤100000) (Ac Ai Ao:Option Addr) (c1 c2 c3:Nat) (w:World) (hC:SgAt w Ac Ai Ao S) :
  Calls Tryz.prog 38 #[.agg #[.slice Ac S.cells.length c1,.slice Ai S.inp.length c2,.slice Ao S.out.length c3]] w (CstP w):=by
 have HT:=kp (tw2 w #[.slice Ac S.cells.length c1,.slice Ai S.inp.length c2,.slice Ao S.out.length c3] #[.slice none 0 0,.slice none 0 0,.slice none 0 0] 32 32)
 have HC:=kp (hC.mono HT.out.1)
 have HN:=kp (And.intro hn hc)
 have HL:=kp (And.intro hi ho)
 obtain ⟨i0,hi0,hz0,hz1,hz2⟩:=info_parts info_ints
 have HI:=kp (And.intro hi0 (And.intro hz0 (And.intro hz1 hz2)))
 clear hC hi ho hn hc hi0 hz0 hz1 hz2
 go_enter Tryz.func38,Tryz.ntmps38
 go_upto_region 1 with fail
 generalize (w.alloc _).alloc _=W at HT HC ⊢
 obtain ⟨a0,a1,a2,_⟩:=HT.out.2.1.three
 have hla:=HT.out.2.1.lt
 have hbP:=Below.refl W.heap.size W
 have HCI:=kp (fun (Y:World) (hY:Below W.heap.size W Y)=>cla S.inp (by have:=HL.out.1;omega) Ai c2 Y (HC.out.i.mono hY))
 have HCO:=kp (fun (Y:World) (hY:Below W.heap.size W Y)=>cla S.out (by have:=HL.out.2;omega) Ao c3 Y (HC.out.o.mono hY))
 have KS:=kp (fun (Y:World) (hY:Below W.heap.size W Y)=>show Y.cell? ⟨w.heap.size,1,none⟩=some (.slice Ai S.inp.length c2)∧Y.cell? ⟨w.heap.size,2,none⟩=some (.slice Ao S.out.length c3) from ⟨blc hY a1,blc hY a2⟩)
 go_cut [3] (fun v3 wc=>∃ CB A2 n2 c2 A3 n3 c3,v3=.pointer (some ⟨CB,0,none⟩)∧Hid (Bx wc CB #[.slice none 0 0,.slice A2 n2 c2,.slice A3 n3 c3]∧Below W.heap.size W wc∧W.heap.size≤CB))
 case first=>
  go_region_held3 (fun w'=>w'.cell? ⟨w.heap.size,1,none⟩=some (.slice Ai S.inp.length c2)∧w'.cell? ⟨w.heap.size,2,none⟩=some (.slice Ao S.out.length c3))
   ((refine KS.out _ ?_;(repeat first | exact hbP | exact H9.out | exact H8.out | refine bld ?_ | refine below_set3 ?_ (by first | exact Nat.le_refl _ | exact H8.out.size | exact H9.out.size | simp) _ _ _ | refine Below.alloc ?_ (by first | exact Nat.le_refl _ | exact H9.out.size | exact H8.out.size | simp) _);done))
   ((first
     | (go_simp;go_at_call 52;(with_reducible refine Calls.mono (HCI.out _ (by (repeat first | exact hbP | exact H9.out | refine bld ?_ | refine Below.alloc ?_ (by first | exact Nat.le_refl _ | exact H9.out.size | simp) _);done)) ?_);rintro e8 w8 ⟨v8,rfl,hv8,hb8⟩;have H8:=kp (bl2 (W:=W) (by (repeat first | exact hbP | exact H9.out | refine bld ?_ | refine Below.alloc ?_ (by first | exact Nat.le_refl _ | exact H9.out.size | simp) _);done) hb8);obtain ⟨A8,c8,rfl,_⟩:=ofb hv8;clear hv8;(first | (have Z8:=HZ9.out.below hb8;obtain ⟨z0,z1,z2,zf0,zf1,zf2⟩:=Z8.three;have zlt:=Z8.lt;have HZ8:=kp Z8;clear Z8) | (have Z8:=(bxn w9 #[.slice none 0 0,.slice none 0 0,.slice none 0 0] 32).below hb8;obtain ⟨z0,z1,z2,zf0,zf1,zf2⟩:=Z8.three;have zlt:=Z8.lt;have HZ8:=kp Z8;clear Z8) | (have Z8:=((bxn W #[.slice none 0 0,.slice none 0 0,.slice none 0 0] 32).below (bld (Below.refl _ _))).below hb8;obtain ⟨z0,z1,z2,zf0,zf1,zf2⟩:=Z8.three;have zlt:=Z8.lt;have HZ8:=kp Z8;clear Z8) | skip);clear hb8;dsimp only)
     | (go_simp;go_at_call 52;(with_reducible refine Calls.mono (HCO.out _ (by (repeat first | exact hbP | exact H8.out | refine bld ?_ | refine Below.alloc ?_ (by first | exact Nat.le_refl _ | exact H8.out.size | simp) _);done)) ?_);rintro e9 w9 ⟨v9,rfl,hv9,hb9⟩;have H9:=kp (bl2 (W:=W) (by (repeat first | exact hbP | exact H8.out | refine bld ?_ | refine Below.alloc ?_ (by first | exact Nat.le_refl _ | exact H8.out.size | simp) _);done) hb9);obtain ⟨A9,c9,rfl,_⟩:=ofb hv9;clear hv9;(first | (have Z9:=HZ8.out.below hb9;obtain ⟨z0,z1,z2,zf0,zf1,zf2⟩:=Z9.three;have zlt:=Z9.lt;have HZ9:=kp Z9;clear Z9) | (have Z9:=(bxn w8 #[.slice none 0 0,.slice none 0 0,.slice none 0 0] 32).below hb9;obtain ⟨z0,z1,z2,zf0,zf1,zf2⟩:=Z9.three;have zlt:=Z9.lt;have HZ9:=kp Z9;clear Z9) | (have Z9:=((bxn W #[.slice none 0 0,.slice none 0 0,.slice none 0 0] 32).below (bld (Below.refl _ _))).below hb9;obtain ⟨z0,z1,z2,zf0,zf1,zf2⟩:=Z9.three;have zlt:=Z9.lt;have HZ9:=kp Z9;clear Z9) | skip);clear hb9;dsimp only)
     | fail))
  all_goals
   go_wp2_with fail
   go_meet
   first
   | exact ⟨_,_,_,_,_,_,_,rfl,kp ⟨bxn w9 _ _,bl2 H9.out (blb w9 _),H9.out.size⟩⟩
   | exact ⟨_,_,_,_,_,_,_,rfl,kp ⟨bxn w8 _ _,bl2 H8.out (blb w8 _),H8.out.size⟩⟩
   | exact ⟨_,_,_,_,_,_,_,rfl,kp ⟨HZ9.out.set3 _ _ _,below_set3 H9.out (by first | exact Nat.le_refl _ | exact H8.out.size) _ _ _,by first | exact Nat.le_refl _ | exact H8.out.size⟩⟩
   | exact ⟨_,_,_,_,_,_,_,rfl,kp ⟨HZ8.out.set3 _ _ _,below_set3 H8.out (by first | exact Nat.le_refl _ | exact H9.out.size) _ _ _,by first | exact Nat.le_refl _ | exact H9.out.size⟩⟩
 case rest=>
  obtain ⟨CB,A2,n2,d2,A3,n3,d3,rfl,HCB⟩:=hcut
  have HX:=kp (HT.out.2.1.below HCB.out.2.1)
  have HIN:=kp (show CsR W wc.heap.size CB 0 (.slice A2 n2 d2) (.slice A3 n3 d3) wc (.slice none 0 0) [] from ⟨HCB.out.1,⟨rfl,.inl ⟨rfl,rfl⟩⟩,HCB.out.1.lt,HCB.out.2.2,HCB.out.2.1,Nat.le_refl _⟩)
  clear a0 a1 a2 hla
  obtain ⟨a0,a1,a2,_⟩:=HX.out.three
  have hla:=HX.out.lt
  go_wp2_with fail
  go_loopw [16] (fun i wr=>∃ k:Nat,k≤S.cells.length∧i=.int .i64 k∧∃ v cs,Hid (CsR W wc.heap.size CB k (.slice A2 n2 d2) (.slice A3 n3 d3) wr v cs)) (fun i _=>S.cells.length - (intOf i).toNat)
  case atStart=>exact ⟨0,by omega,rfl,_,_,HIN⟩
  case round=>
   obtain ⟨k,hk,rfl,v,cs,HR⟩:=hrel
   clear a0 a1 a2 hla
   by_cases hin:k<S.cells.length
   ·obtain ⟨bs,os,A',cap',rfl,_,s0,hints⟩:=(HC.out.mono HR.out.bw).c.at_ hin
    have HCL:=kp (fun (V:World) (hV:Below wr.heap.size wr V)=>cla S.cells[k] (by have:=HN.out.2 _ (List.getElem_mem hin);omega) A' cap' V (hints.mono hV))
    have r0:(0:Int)≤k:=by omega
    have r1:(k:Int)<S.cells.length:=by omega
    have hls:=block_lt_of_cell s0
    have hk2:=HN.out.1
    obtain ⟨Av,cv,rfl,hcv,hqq⟩:=ofb HR.out.own
    have y0:=HR.out.bx.cell (j:=0) rfl
    have f0:=HR.out.bx.free 0
    have hlc:=HR.out.bx.lt
    clear hints hqq
    generalize S.cells[k]=l at *
    go_upto_region 5 with fail
    have hbP:=Below.refl wr.heap.size wr
    have HC1:=kp (HCL.out wr.drew (bld hbP))
    go_region_law (first
     | (refine step_app _ (by rfl) (.tmp 21) (.tmp 24) 29 (by rfl) wc.heap.size 30 i0 (.slice none 0 0) 1 24 Tryz.underlying29 HI.out.1 HI.out.2.1 HI.out.2.2.1 HI.out.2.2.2 rfl (by decide) (.slice Av k cv) k cs (by first | (simp [Act.eval];done) | (simp [Act.eval,Act.put];done)) (HR8.out.own.alloc _) (some ⟨w8.heap.size,0,none⟩) 1 1 [.slice A8 l.length c8] (by first | (simp [Act.eval];done) | (simp [Act.eval,Act.put];done)) rfl (cnu w8 rfl [.slice A8 l.length c8] _) (fun u hu=>by simp at hu;subst hu;rfl) (by unfold maxLen;omega) (by omega) (by have:=HR8.out.sz;simp;omega) ?_;intro v' w9 hown' hgrow hat;have HM:=kp ((HR8.out.below (blb w8 _)).made hown' hgrow);have z0:=(((HR8.out.bx.below (blb _ _)).fr (Fr.of_grown hgrow) (fun e=>by have:=obg HR8.out.own _ e.symm;have:=HR8.out.lt;omega)).cell (j:=0) rfl);have z1:=(((HR8.out.bx.below (blb _ _)).fr (Fr.of_grown hgrow) (fun e=>by have:=obg HR8.out.own _ e.symm;have:=HR8.out.lt;omega)).free 0);have hlt9:=block_lt_of_cell z0;obtain ⟨A9,c9,rfl,hc9,hqq⟩:=ofb hown';clear hqq hown' hgrow hat)
     | (go_simp;go_at_call 52;(with_reducible refine Calls.mono HC1.out ?_);rintro e w8 ⟨v8,rfl,hv8,hb8⟩;obtain ⟨A8,c8,rfl,_,_⟩:=ofb hv8;have HB8:=kp (bl2 (W:=wr) (bld hbP) hb8);have HR8:=kp (HR.out.below HB8.out);clear hv8 hb8;have y8:=HR8.out.bx.cell (j:=0) rfl;have f8:=HR8.out.bx.free 0;have hlt8:=HR8.out.bx.lt;dsimp only)
     | fail)
    all_goals
     go_wp2_with fail
     exact ⟨⟨k+1,by omega,by go_num,_,_,HM⟩,by simp [intOf];omega⟩
   ·obtain rfl:k=S.cells.length:=by omega
    have HXR:=kp (HT.out.2.2.below HR.out.bw)
    obtain ⟨Av,cv,rfl,hcv,hqq⟩:=ofb HR.out.own
    obtain ⟨y0,y1,y2,_⟩:=HR.out.bx.three
    have hly:=HR.out.bx.lt
    obtain ⟨e0,e1,e2,f0,f1,f2⟩:=HXR.out.three
    have hle:=HXR.out.lt
    clear hqq
    have HFB:=kp (HXR.out.set3 (.slice Av S.cells.length cv) (.slice A2 n2 d2) (.slice A3 n3 d3))
    have HFF:=kp (below_set3 (bl2 HT.out.1 HR.out.bw) (show w.heap.size≤w.heap.size+1 by omega) (.slice Av S.cells.length cv) (.slice A2 n2 d2) (.slice A3 n3 d3))
    go_wp2_with fail
    generalize ((wr.setCell _ _).setCell _ _).setCell _ _=WF at HFB HFF ⊢
    obtain ⟨g0,g1,g2,_⟩:=HFB.out.three
    exact bodyPost_ret (v:=.agg #[.slice Av S.cells.length cv,.slice A2 n2 d2,.slice A3 n3 d3]) (by simp [results,Tryz.results38,go_sem,g0,g1,g2]) rfl ⟨_,_,_,_,_,_,_,_,_,rfl,HFF.out⟩
def failV (er:Int):Value:=.iface 119 (.agg #[.int .i64 er])
structure Rc where
 P:Pg
 Av:Option Addr
 Ap:Option Addr
 Am:Option Addr
 cv:Nat
 cp:Nat
 cm:Nat
 W0:World
 B:Nat
 RB:Nat
 EB:Nat
 F:Nat
 kp:List (Nat × Array Value)
abbrev rbV (C:Rc) (SB k:Nat):Array Value:=#[.slice C.Av C.P.vars.length C.cv,.slice C.Ap C.P.procs.length C.cp,.int .u8 C.P.main.kind,.int .i64 C.P.main.num,.string C.P.main.name,.slice C.Am C.P.main.kids.length C.cm,.pointer (some ⟨SB,0,none⟩),.int .i64 k,.int .i64 C.F,.slice (some ⟨C.EB,0,none⟩) C.P.procs.length C.P.procs.length]
structure Kep (C:Rc) (w:World):Prop where
 b:Below C.W0.heap.size C.W0 w
 k:∀ p∈C.kp,Bx w p.1 p.2
theorem Kep.fr {C:Rc} {w w':World} (h:Kep C w) {m:Nat→Prop} (hf:Fr w w' m) (hm:∀ k,m k→C.W0.heap.size≤k) (hk:∀ p∈C.kp,¬ m p.1):Kep C w':=⟨hf.toBelow h.b h.b.size hm,fun p hp=>(h.k p hp).fr hf (hk p hp)⟩
structure RuO (C:Rc) (w:World) (G:Gs) (s:St):Prop where
 o:StO C.B w G s.m
 rb:Bx w C.RB (rbV C G.SB s.k)
 eb:∃ xs:List Int,xs.length=C.P.procs.length∧Bx w C.EB (xs.map (Value.int .i64)).toArray
 ne:C.RB≠C.EB
 r0:G.R C.RB=(0,0)
 r1:G.R C.EB=(0,0)
 bw:Kep C w
 hB:C.W0.heap.size≤C.B∧C.B≤w.heap.size∧C.W0.heap.size≤C.RB∧C.W0.heap.size≤C.EB
 kr:∀ p∈C.kp,G.R p.1=(0,0)∧p.1≠C.RB∧p.1≠C.EB
def ruM (C:Rc) (G:Gs) (k:Nat):Prop:=anyS (G.R k)∨k=C.RB∨k=C.EB
def frS (f:Fm):List Ev × Nat:=(f.env,f.loc)
structure RuS (C:Rc) (w:World) (G:Gs) (w':World) (G':Gs) (s':St):Prop where
 o:RuO C w' G' s'
 fr:Fr w w' (ruM C G)
 old:∀ k,k<w.heap.size→G'.R k=G.R k
 sb:G'.SB=G.SB
 fs:G'.fs.map frS=G.fs.map frS
section
variable {C:Rc} {w w1 w2:World} {G G1 G2:Gs} {s s1 s2:St}
theorem RuO.fr (h:RuO C w G s) {w':World} (hf:Fr w w' fun _=>False):RuO C w' G s:=by
 obtain ⟨xs,h1,h2⟩:=h.eb
 exact ⟨h.o.fr hf fun _ _ _ _=>id,h.rb.fr hf id,⟨xs,h1,h2.fr hf id⟩,h.ne,h.r0,h.r1,h.bw.fr hf (fun _ e=>e.elim) (fun _ _=>id),⟨h.hB.1,Nat.le_trans h.hB.2.1 hf.size,h.hB.2.2⟩,h.kr⟩
theorem RuO.below (h:RuO C w G s) {w':World} (hb:Below w.heap.size w w'):RuO C w' G s:=h.fr (Fr.of_below hb _)
theorem RuS.refl (h:RuO C w G s) {w':World} (hb:Below w.heap.size w w'):RuS C w G w' G s:=⟨h.below hb,Fr.of_below hb _,fun _ _=>rfl,rfl,rfl⟩
theorem RuS.trans (h:RuS C w G w1 G1 s1) (h2:RuS C w1 G1 w2 G2 s2):RuS C w G w2 G2 s2:=
 ⟨h2.o,h.fr.trans h2.fr fun k hk e=>by
  rcases e with e | e
  ·rw [h.old k hk] at e;exact .inl e
  ·exact .inr e,fun k hk=>(h2.old k (Nat.lt_of_lt_of_le hk h.fr.size)).trans (h.old k hk),h2.sb.trans h.sb,h2.fs.trans h.fs⟩
theorem RuS.pre {w0:World} (hb:Below w0.heap.size w0 w) (h:RuS C w G w1 G1 s1):RuS C w0 G w1 G1 s1:=
 ⟨h.o,(Fr.of_below hb _).trans h.fr fun _ _ e=>e,fun k hk=>h.old k (Nat.lt_of_lt_of_le hk hb.size),h.sb,h.fs⟩
theorem RuS.post (h:RuS C w G w1 G1 s1) {w':World} (hb:Below w1.heap.size w1 w'):RuS C w G w' G1 s1:=h.trans (.refl h.o hb)
structure RuX (C:Rc) (w:World) (G:Gs) (b:Nat):Prop where
 r:G.R b=(0,0)
 n0:b≠C.RB
 n1:b≠C.EB
 lt:b<w.heap.size
theorem RuX.not {b:Nat} (h:RuX C w G b):¬ ruM C G b:=fun e=>by
 rcases e with e | e | e
 ·exact e.1 h.r
 ·exact h.n0 e
 ·exact h.n1 e
theorem RuX.step {b:Nat} (h:RuX C w G b) (hs:RuS C w G w1 G1 s1):RuX C w1 G1 b:=⟨(hs.old b h.lt).trans h.r,h.n0,h.n1,Nat.lt_of_lt_of_le h.lt hs.fr.size⟩
theorem RuO.newX (h:RuO C w G s) {b:Nat} (hb:w.heap.size≤b) {w':World} (hlt:b<w'.heap.size):RuX C w' G b:=by
 have h1:=h.rb.lt
 obtain ⟨_,_,h2⟩:=h.eb
 have h2:=h2.lt
 refine ⟨?_,by omega,by omega,hlt⟩
 by_cases e:G.R b=(0,0)
 ·exact e
 ·have:=(h.o.ge b e).2;omega
theorem RuS.bx (hs:RuS C w G w1 G1 s1) {b:Nat} {cs:Array Value} (h:Bx w b cs) (hx:RuX C w G b):Bx w1 b cs:=h.fr hs.fr hx.not
theorem RuO.cells (h:RuO C w G s):w.cell? ⟨C.RB,0,none⟩=some (.slice C.Av C.P.vars.length C.cv)∧w.cell? ⟨C.RB,1,none⟩=some (.slice C.Ap C.P.procs.length C.cp)∧w.cell? ⟨C.RB,6,none⟩=some (.pointer (some ⟨G.SB,0,none⟩))∧w.cell? ⟨C.RB,7,none⟩=some (.int .i64 s.k)∧w.cell? ⟨C.RB,8,none⟩=some (.int .i64 C.F)∧w.cell? ⟨C.RB,9,none⟩=some (.slice (some ⟨C.EB,0,none⟩) C.P.procs.length C.P.procs.length)∧w.frozen? ⟨C.RB,7,none⟩=false∧C.RB<w.heap.size:=
 ⟨h.rb.cell rfl,h.rb.cell rfl,h.rb.cell rfl,h.rb.cell rfl,h.rb.cell rfl,h.rb.cell rfl,h.rb.free 7,h.rb.lt⟩
theorem RuO.set7 (h:RuO C w G s) (k:Nat):RuS C w G (w.setCell ⟨C.RB,7,none⟩ (.int .i64 k)) G ⟨k,s.m⟩:=by
 have hf:=Fr.of_set w ⟨C.RB,7,none⟩ (.int .i64 k)
 obtain ⟨xs,h1,h2⟩:=h.eb
 refine ⟨⟨h.o.fr hf fun j hj h0 _ e=>h0 (by rw [show j=C.RB from e];exact h.r0),h.rb.set 7 _,⟨xs,h1,h2.fr hf fun e=>h.ne (show C.EB=C.RB from e).symm⟩,h.ne,h.r0,h.r1,h.bw.fr hf (fun j e=>by rw [show j=C.RB from e];exact h.hB.2.2.1) (fun p hp e=>(h.kr p hp).2.1 e),⟨h.hB.1,Nat.le_trans h.hB.2.1 hf.size,h.hB.2.2⟩,h.kr⟩,hf.mono fun j _ e=>.inr (.inl e),fun _ _=>rfl,rfl,rfl⟩
theorem RuS.of_sts (h:RuO C w G s) {m':Mt} (hs:StS C.B w G w1 G1 m' anyS):RuS C w G w1 G1 ⟨s.k,m'⟩:=by
 have n0:¬ anyS (G.R C.RB):=fun e=>e.1 h.r0
 have n1:¬ anyS (G.R C.EB):=fun e=>e.1 h.r1
 obtain ⟨xs,h1,h2⟩:=h.eb
 have hsz:=hs.fr.size
 refine ⟨⟨hs.o,by have:=h.rb.fr hs.fr n0;unfold rbV;rw [hs.sb];exact this,⟨xs,h1,h2.fr hs.fr n1⟩,h.ne,(hs.old _ h.rb.lt).trans h.r0,(hs.old _ h2.lt).trans h.r1,h.bw.fr hs.fr (fun k e=>by have:=(h.o.ge k e.1).1;have:=h.hB.1;omega) (fun p hp e=>e.1 (h.kr p hp).1),⟨h.hB.1,Nat.le_trans h.hB.2.1 hsz,h.hB.2.2⟩,fun p hp=>⟨(hs.old _ (h.bw.k p hp).lt).trans (h.kr p hp).1,(h.kr p hp).2⟩⟩,hs.fr.mono fun _ _ e=>.inl e,hs.old,hs.sb,by rw [hs.fs]⟩
theorem RuO.of_fss (h:RuO C w G s) {m':Mt} (hs:FsS C.B w G w1 G1 m'):RuO C w1 G1 ⟨s.k,m'⟩∧Fr w w1 (ruM C G):=by
 have n0:¬ anyS (G.R C.RB):=fun e=>e.1 h.r0
 have n1:¬ anyS (G.R C.EB):=fun e=>e.1 h.r1
 obtain ⟨xs,h1,h2⟩:=h.eb
 have hsz:=hs.fr.size
 exact ⟨⟨hs.o,by have:=h.rb.fr hs.fr n0;unfold rbV;rw [hs.sb];exact this,⟨xs,h1,h2.fr hs.fr n1⟩,h.ne,(hs.old _ h.rb.lt).trans h.r0,(hs.old _ h2.lt).trans h.r1,h.bw.fr hs.fr (fun k e=>by have:=(h.o.ge k e.1).1;have:=h.hB.1;omega) (fun p hp e=>e.1 (h.kr p hp).1),⟨h.hB.1,Nat.le_trans h.hB.2.1 hsz,h.hB.2.2⟩,fun p hp=>⟨(hs.old _ (h.bw.k p hp).lt).trans (h.kr p hp).1,(h.kr p hp).2⟩⟩,hs.fr.mono fun _ _ e=>.inl e⟩
end
def PanP (C:Rc) (e:Ending) (w':World):Prop:=∃ er:Int,er≠0∧e=.panicked [{ v:=failV er,recovered:=false }]∧Kep C w'
theorem RuO.pan {C:Rc} {w w1:World} {G:Gs} {s:St} (h:RuO C w G s) {m:Nat→Prop} (hf:Fr w w1 m) (hm:∀ k,m k→ruM C G k):Kep C w1:=h.bw.fr hf (fun k e=>by
 have h1:=h.hB
 rcases hm k e with q | q | q
 ·have:=(h.o.ge k q.1).1;omega
 ·rw [q];exact h1.2.2.1
 ·rw [q];exact h1.2.2.2) fun p hp e=>by
 rcases hm _ e with q | q | q
 ·exact q.1 (h.kr p hp).1
 ·exact (h.kr p hp).2.1 q
 ·exact (h.kr p hp).2.2 q
def RunP (C:Rc) (w:World) (G:Gs) (r:Rs) (e:Ending) (w':World):Prop:=match r with
 | .ok s'=>e=.returned (.tuple #[])∧∃ G',RuS C w G w' G' s'
 | .bad=>PanP C e w'
 | .deep=>False
theorem RunP.pre {C:Rc} {w0 w w':World} {G:Gs} {r:Rs} {e:Ending} (hb:Below w0.heap.size w0 w) (h:RunP C w G r e w'):RunP C w0 G r e w':=by
 cases r with
 | ok s'=>obtain ⟨h1,G',h2⟩:=h;exact ⟨h1,G',h2.pre hb⟩
 | bad=>exact h
 | deep=>exact h.elim
theorem fail_any (er:Int) (h:er≠0) (w:World):Calls Tryz.prog 133 #[.int .i64 er] w fun e w'=>e=.panicked [{ v:=failV er,recovered:=false }]∧w=w':=by
 have q0:(er == 0)=false:=by simpa using h
 go_enter Tryz.func133,Tryz.ntmps133
 go_wp2_with fail
 exact ⟨rfl,rfl,rfl⟩
theorem check_0 (p:Value) (w:World):Calls Tryz.prog 99 #[p,.int .i64 0] w fun e w'=>e=.returned (.tuple #[])∧w=w':=by
 go_enter Tryz.func99,Tryz.ntmps99
 go_wp2_with fail
 go_end0
 exact ⟨rfl,rfl⟩
theorem check_n (p:Value) (er:Int) (h:er≠0) (w:World):Calls Tryz.prog 99 #[p,.int .i64 er] w fun e w'=>e=.panicked [{ v:=failV er,recovered:=false }]∧w=w':=by
 have q0:(er != 0)=true:=by simpa using h
 have HF:=kp (fail_any er h w)
 clear h
 go_enter Tryz.func99,Tryz.ntmps99
 go_wp2_with fail
 refine HF.out.mono ?_
 rintro e w' ⟨rfl,rfl⟩
 exact ⟨rfl,rfl,rfl⟩
def CkP (er:Int) (w:World) (e:Ending) (w':World):Prop:=((er=0∧e=.returned (.tuple #[]))∨(er≠0∧e=.panicked [{ v:=failV er,recovered:=false }]))∧w=w'
theorem check_any (p:Value) (er:Int) (w:World):Calls Tryz.prog 99 #[p,.int .i64 er] w (CkP er w):=by
 by_cases h:er=0
 ·subst h
  exact (check_0 p w).mono fun e w' h=>⟨.inl ⟨rfl,h.1⟩,h.2⟩
 ·exact (check_n p er h w).mono fun e w' h'=>⟨.inr ⟨h,h'.1⟩,h'.2⟩
section
variable {C:Rc} {w:World} {G:Gs} {s:St}
def stepR (F:Nat) (s:St):Rs:=if s.k<F then .ok ⟨s.k+1,s.m⟩ else .bad
theorem step_any (h:RuO C w G s) (hF:C.F≤1000000):Calls Tryz.prog 98 #[.pointer (some ⟨C.RB,0,none⟩)] w (RunP C w G (stepR C.F s)):=by
 obtain ⟨_,_,_,y7,y8,_,f7,hlr⟩:=h.cells
 by_cases hk:s.k<C.F
 ·have HE:=kp (show stepR C.F s=.ok ⟨s.k+1,s.m⟩ from if_pos hk)
  have q0:¬ ((s.k:Int)≥(C.F:Int)):=by omega
  have q1:IntKind.i64.wrap ((s.k:Int)+1)=((s.k+1:Nat):Int):=by rw [IntKind.wrap_i64];omega
  have HO:=kp (fun (Y:World) (hY:Below w.heap.size w Y)=>((h.below hY).set7 (s.k+1)).pre hY)
  obtain ⟨k,hkk⟩:∃ k,s.k=k:=⟨_,rfl⟩
  obtain ⟨F,hFF⟩:∃ F,C.F=F:=⟨_,rfl⟩
  rw [hkk] at y7 q0 q1 HO HE
  rw [hFF] at y8 q0
  clear h hF hk hkk hFF
  go_enter Tryz.func98,Tryz.ntmps98
  go_wp2_with fail
  go_quiet (fail)
  have HR:=kp (HO.out _ (bdn (Below.refl _ w) nq))
  go_wp2_with fail
  go_end0
  rw [HE.out]
  exact ⟨rfl,_,HR.out⟩
 ·have HE:=kp (show stepR C.F s=.bad from if_neg hk)
  have q0:(s.k:Int)≥(C.F:Int):=by omega
  have HO:=kp (fun (Y:World) (hY:Below w.heap.size w Y)=>(h.below hY).bw)
  have HF:=kp (fun Y=>fail_any 18 (by omega) Y)
  obtain ⟨k,hkk⟩:∃ k,s.k=k:=⟨_,rfl⟩
  obtain ⟨F,hFF⟩:∃ F,C.F=F:=⟨_,rfl⟩
  rw [hkk] at y7 q0
  rw [hFF] at y8 q0
  clear h hF hk hkk hFF
  go_enter Tryz.func98,Tryz.ntmps98
  go_wp2_with fail
  go_quiet (fail)
  have HR:=kp (HO.out _ (bdn (Below.refl _ w) nq))
  go_wp2_with fail
  refine (HF.out _).mono ?_
  rintro e w' ⟨rfl,rfl⟩
  rw [HE.out]
  exact ⟨rfl,_,by omega,rfl,HR.out⟩
end
end Go.Proofs.YtgbomnibedefoaaGreatDoor
