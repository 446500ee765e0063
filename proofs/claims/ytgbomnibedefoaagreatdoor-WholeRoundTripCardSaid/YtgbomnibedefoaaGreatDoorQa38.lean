import Derived.Test.YtgbomnibedefoaaGreatDoorQa37
set_option maxRecDepth 100000
set_option maxHeartbeats 8000000
namespace Go.Proofs.YtgbomnibedefoaaGreatDoor
open Go.ChangeShapes Go.WideShapes Go.ChangeAt Go.RowKit Go.Sort
theorem info_fr:(Tryz.prog.info? 108).map (fun i=>(i.zero,i.size,i.bytes))=some (some (.agg #[.slice none 0 0,.slice none 0 0,.int .i64 0]),3,56):=by kernel_rfl
def EntP (B:Nat) (w:World) (G:Gs) (σ:Mt) (o:Option (List Ev)) (e:Ending) (w':World):Prop:=match o with
 | none=>∃ er:Int,er≠0∧e=.returned (.int .i64 er)∧Below w.heap.size w w'
 | some env2=>if 100≤G.fs.length - 1 then e=.returned (.int .i64 19)∧Below w.heap.size w w' else e=.returned (.int .i64 0)∧∃ G' vV cV,FsS B w G w' G' σ∧G'.fs=G.fs++[⟨env2,0,vV,cV⟩]∧G'.cb=G.cb∧G'.it=G.it
section
variable {B:Nat} {w:World} {G:Gs} {σ:Mt} {f:Fm}
structure CurV (w:World) (G:Gs) (f:Fm) (fb fo:Nat) (A:Option Addr) (c:Nat) (A2:Option Addr) (c2:Nat) (Y:World):Prop where
 c0:Y.cell? ⟨fb,fo,none⟩=some (.slice A f.env.length c)
 c1:Y.cell? ⟨fb,fo+1,none⟩=some (.slice A2 f.env.length c2)
 vs:VdsAt Y A (f.env.map (·.v))
 cs:CellsAt Y A2 (ptrs G.cb f.env)
theorem enter_any (h:StO B w G σ) (hB:B≤w.heap.size) (hf:G.fs[G.fs.length - 1]?=some f) (ps:List Vd) (al:List ByteArray) (hl:al.length=ps.length) (hn:ps.length≤1000) (Ap Aa:Option Addr) (cp ca:Nat) (hP:VdsAt w Ap ps) (hA:CellsAt w Aa (al.map .string)) :
  Calls Tryz.prog 136 #[.pointer (some ⟨G.SB,0,none⟩),.slice Ap ps.length cp,.slice Aa al.length ca] w (EntP B w G σ (enterN f.env ps al)):=by
 have HB:=kp (blb w (Obj.cells #[.slice none 0 0,.slice none 0 0,.int .i64 0] 108))
 have HFN:=kp (FnR.nil G.cb w)
 obtain ⟨fb,fo,f',hc⟩:=h.cur
 obtain rfl:f'=f:=Option.some.inj (hc.last.symm.trans hf)
 obtain ⟨A,c,evv,hv,hlen,A2,c2,evc,hcs⟩:=h.flen hf
 have HCV:=kp (fun (Y:World) (hY:Below w.heap.size w Y)=>show CurV w G f' fb fo A c A2 c2 Y from
  ⟨blc hY (by rw [← evv];exact hc.loc.c0),blc hY (by rw [← evc];exact hc.loc.c1),hv.mono hY,hcs.mono hY⟩)
 have HCU:=kp (show Calls Tryz.prog 134 #[.pointer (some ⟨G.SB,0,none⟩)] (w.alloc (Obj.cells #[.slice none 0 0,.slice none 0 0,.int .i64 0] 108)) fun e w'=>e=.returned (.pointer (some ⟨fb,fo,none⟩))∧w.alloc (Obj.cells #[.slice none 0 0,.slice none 0 0,.int .i64 0] 108)=w' from by
  obtain ⟨fb2,fo2,f2,hc2⟩:=(h.below HB.out).cur
  obtain ⟨rfl,rfl⟩:=hc.uniq hc2 rfl rfl rfl
  exact current_any (h.below HB.out) hc2)
 have HST:=kp h
 have HPA:=kp (And.intro hP hA)
 have HX:=kp (And.intro hf (And.intro hB hlen))
 have hlb:=hc.loc.lt
 have hls:=h.slt
 rw [hl]
 clear h hP hA hf hB hc evv hv evc hcs hlen
 go_enter Tryz.func136,Tryz.ntmps136
 go_upto_region 6 with fail
 generalize w.alloc _=W at HB HFN HCU ⊢
 go_wp2_with fail
 refine HCU.out.mono ?_
 rintro e1 w1 ⟨rfl,rfl⟩
 go_wp2_with fail
 go_loopw [23] (fun i wr=>∃ (k:Nat) (env2:List Ev),k≤ps.length∧i=.int .i64 k∧Hid (enterN f'.env (ps.take k) (al.take k)=some env2)∧Hid (FnR G.cb w.heap.size wr w.heap.size env2)∧Hid (Below w.heap.size w wr)∧Hid (env2.length=k∧∀ e∈env2,e.c<σ.mem.length)) (fun i _=>ps.length - (intOf i).toNat)
 case atStart=>exact ⟨0,[],by omega,rfl,kp (by simp [enterN]),HFN,HB,kp ⟨rfl,fun e he=>by cases he⟩⟩
 case round=>
  obtain ⟨k,env2,hk,rfl,HE,HF,HR,HL⟩:=hrel
  by_cases hin:k<ps.length
  ·obtain ⟨bp,op,rfl,_,p0,p1,p2⟩:=(HPA.out.1.mono HR.out).at_ hin
   have hina:k<al.length:=by omega
   obtain ⟨ba,oa,rfl,s0⟩:=(HPA.out.2.mono HR.out) k (.string al[k]) (by simp [hina])
   have hsn:=enterN_snoc f'.env (ps.take k) (al.take k) ps[k] al[k] env2 HE.out
   rw [← List.take_succ_eq_append_getElem hin,← List.take_succ_eq_append_getElem hina] at hsn
   have HSN:=kp hsn
   have HBX:=kp (blb wr (Obj.cells #[.string ps[k].name,.int .u8 ps[k].kind,.int .i64 ps[k].len] 62))
   have HRY:=kp (bxn wr #[.string ps[k].name,.int .u8 ps[k].kind,.int .i64 ps[k].len] 62)
   have r0:(0:Int)≤k:=by omega
   have r1:(k:Int)<ps.length:=by omega
   have hla:=block_lt_of_cell p0
   have hlz:=block_lt_of_cell s0
   clear hsn
   generalize ps[k]=v at *
   generalize al[k]=a at *
   go_upto_region 10 with fail
   generalize wr.alloc _=V at HBX HRY ⊢
   have HWV:=kp (bl2 HR.out HBX.out)
   have s1:=blc HBX.out s0
   have hlz2:=block_lt_of_cell s1
   have HFI:=kp (show Calls Tryz.prog 135 #[.pointer (some ⟨fb,fo,none⟩),.string a] V fun e w'=>e=.returned (.int .i64 (fidx (f'.env.map (·.v)) a))∧V=w' from by
    refine ffind_any (f'.env.map (·.v)) (by rw [List.length_map];exact HX.out.2.2) a fb fo A c V ?_ (HCV.out V HWV.out).vs
    rw [List.length_map];exact (HCV.out V HWV.out).c0)
   rcases fidx_E f'.env a with ⟨hx,hE⟩ | ⟨i,e,hx,hi,hE⟩
   ·have HN:=kp (show enterN f'.env ps al=none from enterN_stop _ _ _ (k+1) (by omega) (by omega) (by rw [HSN.out,hE];rfl))
    rw [hx] at HFI
    clear hx hE
    go_wp2_with fail
    refine HFI.out.mono ?_
    rintro e1 w1 ⟨rfl,rfl⟩
    go_wp2_with fail
    go_ret
    rw [HN.out]
    exact ⟨6,by omega,rfl,HWV.out⟩
   ·rw [hx] at HFI
    have hil:i<f'.env.length:=(List.getElem?_eq_some_iff.1 hi).1
    have hib:f'.env[i]=e:=(List.getElem?_eq_some_iff.1 hi).2
    obtain ⟨bv,ov,rfl,_,v0,v1,v2⟩:=(HCV.out V HWV.out).vs.at_ (k:=i) (by rw [List.length_map];exact hil)
    simp only [List.getElem_map,hib] at v0 v1 v2
    have hmem:=findE_mem2 hE
    have hel:=HST.out.env _ _ e HX.out.1 hmem
    obtain ⟨b,hb⟩:∃ b,G.cb[e.c]?=some b:=⟨_,List.getElem?_eq_getElem (by rw [HST.out.lcb];exact hel)⟩
    obtain ⟨bc,oc,rfl,g0⟩:=(HCV.out V HWV.out).cs i (.pointer (some ⟨b,0,none⟩)) (by unfold ptrs;rw [List.getElem?_map,hi];simp [hb])
    have y0:=(HCV.out V HWV.out).c0
    have y1:=(HCV.out V HWV.out).c1
    obtain ⟨x0,x1,x2,_⟩:=HRY.out.three
    have hlx:=HRY.out.lt
    have hlv:=block_lt_of_cell v0
    have hlg:=block_lt_of_cell g0
    have hlf:=block_lt_of_cell y0
    have r2:(0:Int)≤i:=by omega
    have r3:(i:Int)<f'.env.length:=by omega
    have r4:¬ ((i:Int)<0):=by omega
    have d4:decide ((i:Int)<0)=false:=decide_eq_false r4
    have q1:((e.v.kind:Int) != (v.kind:Int))=!decide (e.v.kind=v.kind):=by rw [bne,beqD]
    have q2:(e.v.len != v.len)=!decide (e.v.len=v.len):=by rw [bne];congr 1
    have HEB:=kp (And.intro hb hel)
    have HFE:=kp hE
    clear hx hi hib hmem hel hb hE
    by_cases h1:e.v.kind=v.kind
    ·by_cases h2:e.v.len=v.len
     ·have HE2:=kp (show enterN f'.env (ps.take (k+1)) (al.take (k+1))=some (env2++[⟨v,e.c⟩]) from by rw [HSN.out,HFE.out,Option.bind_some,if_pos ⟨h1,h2⟩])
      rw [decide_eq_true h1] at q1
      rw [decide_eq_true h2] at q2
      clear h1 h2
      have HG0:=kp (fun (Y:World) (hY:Below V.heap.size V Y)=>And.intro (blc hY g0) (And.intro (blc hY y1) (And.intro (HRY.out.below hY).three (And.intro (HF.out.below (bl2 HBX.out hY)) (bl2 HWV.out hY)))))
      go_wp2_with fail
      refine HFI.out.mono ?_
      rintro e1 w1 ⟨rfl,rfl⟩
      go_upto_region 13 with fail
      go_quiet (fail)
      obtain ⟨z0,z1,⟨x0,x1,x2,_⟩,_,_⟩:=HG0.out (V.drewN nq) (bdn (Below.refl _ _) nq)
      have HD2:=kp (bdn (Below.refl V.heap.size V) nq)
      generalize V.drewN nq=V2 at *
      go_upto_region 15 with fail
      go_still_tail 8,(by kernel_rfl)
      change wpList _ _ _ _ _ V2.drew
      have HD3:=kp (bl2 HD2.out (bld (Below.refl V2.heap.size V2)))
      generalize V2.drew=V3 at *
      obtain ⟨_,_,_,⟨vV,cV,b1,b2,b3,b4,b5,b6,b7⟩,hW3⟩:=HG0.out V3 HD3.out
      have HAD:=kp (add_any (B:=w.heap.size) (fb:=w.heap.size) (fo:=0) b2 b3 (b1.cell rfl) (b1.cell rfl) (b1.free 0) (b1.free 1) b4 b5 b6 hW3.size (by have:=HL.out.1;omega) v b)
      have HNX:=kp (fun (w9:World) (ha:AddP w.heap.size V3 w.heap.size 0 (env2.length+1) vV cV (vdCs (env2.map (·.v))++v.cs) (ptrs G.cb env2++[.pointer (some ⟨b,0,none⟩)]) w9)=>show FnR G.cb w.heap.size w9 w.heap.size (env2++[⟨v,e.c⟩])∧Below w.heap.size w w9 from by
       obtain ⟨q1,q2⟩:=FnR.add b1 b2 b3 b4 b5 b6 b7 HEB.out.1 ha
       exact ⟨q1,q2.below hW3 fun _ e=>e⟩)
      clear b1 b2 b3 b4 b5 b6 b7 hW3
      go_wp2_with fail
      unfold Vd.val at HAD
      refine HAD.out.mono ?_
      rintro e9 w9 ⟨rfl,ha⟩
      have HN9:=kp (HNX.out w9 ha)
      clear ha
      go_wp2_with fail
      exact ⟨⟨k+1,env2++[⟨v,e.c⟩],by omega,by go_num,HE2,kp HN9.out.1,kp HN9.out.2,kp ⟨by rw [List.length_append,HL.out.1];rfl,fun y hy=>by
       rcases List.mem_append.1 hy with hy | hy
       ·exact HL.out.2 y hy
       ·simp at hy;rw [hy];exact HEB.out.2⟩⟩,by simp [intOf];omega⟩
     ·have HN:=kp (show enterN f'.env ps al=none from enterN_stop _ _ _ (k+1) (by omega) (by omega) (by rw [HSN.out,HFE.out,Option.bind_some,if_neg (fun q=>h2 q.2)]))
      rw [decide_eq_true h1] at q1
      rw [decide_eq_false h2] at q2
      clear h1 h2
      go_wp2_with fail
      refine HFI.out.mono ?_
      rintro e1 w1 ⟨rfl,rfl⟩
      go_upto_region 13 with fail
      go_quiet (fail)
      go_wp2_with fail
      go_ret
      rw [HN.out]
      exact ⟨7,by omega,rfl,bdn HWV.out _⟩
    ·have HN:=kp (show enterN f'.env ps al=none from enterN_stop _ _ _ (k+1) (by omega) (by omega) (by rw [HSN.out,HFE.out,Option.bind_some,if_neg (fun q=>h1 q.1)]))
     rw [decide_eq_false h1] at q1
     clear h1 q2
     go_wp2_with fail
     refine HFI.out.mono ?_
     rintro e1 w1 ⟨rfl,rfl⟩
     go_upto_region 13 with fail
     go_quiet (fail)
     go_wp2_with fail
     go_ret
     rw [HN.out]
     exact ⟨7,by omega,rfl,bdn HWV.out _⟩
  ·obtain rfl:k=ps.length:=by omega
   have HO:=kp (show enterN f'.env ps al=some env2 from by
    have:=HE.out
    rw [List.take_length,List.take_of_length_le (by omega)] at this
    exact this)
   have hcal:=HST.out.cal.1
   obtain ⟨Ac,cc,ecv,hcc,_⟩:=ofb hcal
   obtain ⟨y0',z0'⟩:=HST.out.sbv
   rw [ecv] at y0'
   have y0:=blc HR.out y0'
   have z0:=frz_fr (Fr.of_below HR.out fun _=>False) hls id z0'
   have hls2:=Nat.lt_of_lt_of_le hls HR.out.size
   have HEP:=kp (fun (e:Ending) (w':World)=>show EntP B w G σ (some env2) e w'↔(if 100≤G.fs.length - 1 then e=.returned (.int .i64 19)∧Below w.heap.size w w' else e=.returned (.int .i64 0)∧∃ G' vV cV,FsS B w G w' G' σ∧G'.fs=G.fs++[⟨env2,0,vV,cV⟩]∧G'.cb=G.cb∧G'.it=G.it) from Iff.rfl)
   have HCAL:=kp (ecv▸hcal)
   have HECV:=kp ecv
   clear y0' z0' hcal hcc ecv
   generalize hnf:G.fs.length - 1=nf at *
   by_cases hdep:100≤nf
   ·have hd:decide ((100:Int)≤nf)=true:=decide_eq_true (by omega)
    have HEN:=kp (show EntP B w G σ (some env2) (.returned (.int .i64 19)) wr from (HEP.out _ _).2 (by rw [if_pos hdep];exact ⟨rfl,HR.out⟩))
    clear hdep
    go_wp2_with fail
    go_ret
    rw [HO.out]
    exact HEN.out
   ·have hd:decide ((100:Int)≤nf)=false:=decide_eq_false (by omega)
    obtain ⟨vV,cV,b1,b2,b3,b4,b5,b6,b7⟩:=HF.out
    obtain ⟨A5,c5,rfl,_,_⟩:=ofb b2
    obtain ⟨A6,c6,rfl,_,_⟩:=ofb b3
    obtain ⟨x0,x1,x2,_⟩:=b1.three
    have hlx:=b1.lt
    obtain ⟨i0,hi0,hz0,hz1,hz2⟩:=info_parts info_fr
    have HI:=kp (And.intro hi0 (And.intro hz0 (And.intro hz1 hz2)))
    have HFI:=kp (fun (w9:World) (cv':Value) (hx:RwX B 108 3 (wr.drew.alloc (Obj.cells #[.slice A5 env2.length c5,.slice A6 env2.length c6,.int .i64 0] 108)) G.cv (nf+1) (frCs (G.fs.drop 1)++[.slice A5 env2.length c5,.slice A6 env2.length c6,.int .i64 0]) w9 cv')=>show EntP B w G σ (some env2) (.returned (.int .i64 0)) (w9.setCell ⟨G.SB,3,none⟩ cv') from by
     have hbd:=below_da wr #[.slice A5 env2.length c5,.slice A6 env2.length c6,.int .i64 0] 108
     rw [← hnf] at hx
     obtain ⟨R',hF⟩:=HST.out.enterStep HX.out.2.1 (bl2 HR.out hbd) (obl b2 hbd) (obl b3 hbd) b6 HL.out.2 hx
     exact (HEP.out _ _).2 (by rw [if_neg hdep];exact ⟨rfl,_,_,_,hF,rfl,rfl,rfl⟩))
    have HSBN:=kp (show G.cv.ownBlock≠some G.SB from fun e=>by
     have:=HST.out.cal.2 _ e
     obtain ⟨_,_,_,q⟩:=HST.out.sto
     rw [q] at this;simp at this)
    clear b1 b2 b3 b4 b5 b6 b7 hi0 hz0 hz1 hz2
    have hBr:B≤wr.heap.size:=Nat.le_trans HX.out.2.1 HR.out.size
    have hnf2:nf<100:=by omega
    have hwlt:w.heap.size<wr.heap.size:=hlx
    clear hdep
    go_upto_region 19 with fail
    go_region_law (first
     | (refine step_app _ (by rfl) (.tmp 80) (.tmp 82) 109 (by rfl) B 108 i0 (.agg #[.slice none 0 0,.slice none 0 0,.int .i64 0]) 3 56 Tryz.underlying109 HI.out.1 HI.out.2.1 HI.out.2.2.1 HI.out.2.2.2 rfl (by decide) (.slice Ac nf cc) nf (frCs (G.fs.drop 1)) (by first | (simp [Act.eval];done) | (simp [Act.eval,Act.put];done)) (obl (obl HCAL.out HR.out) (below_da wr _ _)) (some ⟨wr.heap.size,0,none⟩) 1 1 [.slice A5 env2.length c5,.slice A6 env2.length c6,.int .i64 0] (by first | (simp [Act.eval];done) | (simp [Act.eval,Act.put];done)) rfl (cnu wr.drew rfl [.slice A5 env2.length c5,.slice A6 env2.length c6,.int .i64 0] _) (fun u hu=>by simp at hu;rcases hu with rfl | rfl | rfl<;>rfl) (by unfold maxLen;omega) (by omega) (by simp;omega) ?_;intro v' w9 hown hgrow hat;have HM:=kp (rwx_of (v:=G.cv) (Below.refl _ _) hown (HECV.out▸hgrow) (HECV.out▸hat));obtain ⟨k0,k1⟩:=rwx_keep HM.out HSBN.out (blc (below_da wr _ _) y0) (frz_fr (Fr.of_below (below_da wr _ _) fun _=>False) hls2 id z0);have hl9:=block_lt_of_cell k0;have HZ:=kp (HFI.out w9 v' HM.out);obtain ⟨A9,c9,rfl,hc9,hqq⟩:=ofb hown;clear hqq hown hgrow hat)
     | fail)
    all_goals
     go_wp2_with fail
     go_ret
     rw [HO.out]
     exact HZ.out
end
section
variable {B:Nat} {w:World} {G:Gs} {σ:Mt} {f:Fm}
theorem scell_any (h:StO B w G σ) (hf:G.fs[G.fs.length - 1]?=some f) (hl:∀ c∈σ.mem,c.length≤100000) (s:ByteArray) :
  Calls Tryz.prog 151 #[.pointer (some ⟨G.SB,0,none⟩),.string s] w (LkP (look f.env σ.mem s) w):=by
 have HLK:=kp (lookup_any h hf s)
 have hls:=h.slt
 have hlen:∀ l,look f.env σ.mem s=some l→l.length≤100000:=(lk_of (B:=B) hf hl).len s
 clear h hf hl
 generalize look f.env σ.mem s=o at *
 cases o with
 | none=>
   have HCL:=kp (cla [] (by simp) none 0 w (fun k x hk=>by simp at hk))
   rw [List.length_nil] at HCL
   go_enter Tryz.func151,Tryz.ntmps151
   go_wp2_with fail
   refine HLK.out.mono ?_
   rintro e1 w1 ⟨h1,rfl⟩
   obtain rfl:e1=.returned (.tuple #[.slice none 0 0,.bool false]):=h1
   go_wp2_with fail
   refine HCL.out.mono ?_
   rintro e2 w2 ⟨v,rfl,hv,hb⟩
   obtain ⟨A2,c2,rfl,_⟩:=ofb hv
   have HB:=kp hb
   go_wp2_with fail
   go_ret2
   exact ⟨⟨_,_,_,rfl⟩,HB.out⟩
 | some l=>
   have hll:=hlen l rfl
   go_enter Tryz.func151,Tryz.ntmps151
   go_wp2_with fail
   refine HLK.out.mono ?_
   rintro e1 w1 ⟨h1,rfl⟩
   obtain ⟨A,c,rfl,hints⟩:∃ A c,e1=.returned (.tuple #[.slice A l.length c,.bool true])∧IntsAt w A l:=h1
   have HCL:=kp (cla l (by omega) A c w hints)
   clear hints
   go_wp2_with fail
   refine HCL.out.mono ?_
   rintro e2 w2 ⟨v,rfl,hv,hb⟩
   obtain ⟨A2,c2,rfl,hi2⟩:=ints_of_own hv
   have HB:=kp (And.intro hb hi2)
   clear hv hb hi2
   go_wp2_with fail
   go_ret2
   exact ⟨⟨_,_,rfl,HB.out.2⟩,HB.out.1⟩
theorem lkc_of (hf:G.fs[G.fs.length - 1]?=some f) (hl:∀ c∈σ.mem,c.length≤100000):LookC 151 G.SB (look f.env σ.mem) (fun W=>StO B W G σ) where
 ent:=fun args w=>by kernel_rfl
 keep:=fun _ _ h hb=>h.below hb
 call:=fun s _ h=>scell_any h hf hl s
 len:=(lk_of (B:=B) hf hl).len
def TapN (w:World) (li lo:List Int) (e:Ending) (w':World):Prop:=∃ b iv ov,e=.returned (.tuple #[.pointer (some ⟨b,0,none⟩),.int .i64 0])∧Bx w' b #[iv,ov]∧w.heap.size≤b∧w'.ownsRow w.heap.size 3 1 iv li.length (li.map (.int .i64))∧w'.ownsRow w.heap.size 3 1 ov lo.length (lo.map (.int .i64))∧iv.ownBlock≠some b∧ov.ownBlock≠some b∧(∀ g,iv.ownBlock=some g→ov.ownBlock≠some g)∧Below w.heap.size w w'
theorem tapeNew_any (li lo:List Int) (h1:li.length≤4096) (h2:lo.length≤4096) (Ai Ao:Option Addr) (ci co:Nat) (w:World) (hi:IntsAt w Ai li) (ho:IntsAt w Ao lo) :
  Calls Tryz.prog 59 #[.slice Ai li.length ci,.slice Ao lo.length co] w (TapN w li lo):=by
 have HCL:=kp (cla li (by omega) Ai ci w hi)
 have HC2:=kp (fun (Y:World) (hY:Below w.heap.size w Y)=>cla lo (by omega) Ao co Y (ho.mono hY))
 have d1:decide ((4096:Int)<li.length)=false:=decide_eq_false (by omega)
 have d2:decide ((4096:Int)<lo.length)=false:=decide_eq_false (by omega)
 clear hi ho
 go_enter Tryz.func59,Tryz.ntmps59
 go_wp2_with fail
 refine HCL.out.mono ?_
 rintro e1 w1 ⟨v1,rfl,hv1,hb1⟩
 have HV1:=kp (And.intro hv1 hb1)
 go_wp2_with fail
 refine (HC2.out w1 hb1).mono ?_
 rintro e2 w2 ⟨v2,rfl,hv2,hb2⟩
 have HB:=blb w2 (Obj.cells #[v1,v2] 155)
 have HZ:=kp (show TapN w li lo (.returned (.tuple #[.pointer (some ⟨w2.heap.size,0,none⟩),.int .i64 0])) (w2.alloc (Obj.cells #[v1,v2] 155)) from by
  have hv1':=obl hv1 hb2
  have g1:∀ g,v1.ownBlock=some g→g<w1.heap.size:=fun g hg=>(hv1.lt g hg).2
  have g2:=obg hv2
  have g3:∀ g,v2.ownBlock=some g→g<w2.heap.size:=fun g hg=>(hv2.lt g hg).2
  have hs:=hb2.size
  exact ⟨w2.heap.size,v1,v2,rfl,bxn w2 _ _,Nat.le_trans hb1.size hs,obl hv1' HB,obl (own_base hv2 hb1.size) HB,fun e=>by have:=g1 _ e;omega,fun e=>by have:=g3 _ e;omega,fun g e1 e2=>by have:=g1 g e1;have:=g2 g e2;omega,bl2 (bl2 hb1 hb2) HB⟩)
 obtain ⟨A1,c1,rfl,_⟩:=ofb hv1
 obtain ⟨A2,c2,rfl,_⟩:=ofb hv2
 clear hv1 hb1 hv2 hb2 HB HV1
 go_wp2_with fail
 go_ret2
 exact HZ.out
end
def iniG (SB TB:Nat) (iv ov:Value):Gs:=⟨SB,TB,[],[⟨[],0,.slice none 0 0,.slice none 0 0⟩],[],iv,ov,.slice none 0 0,putRo (putRo (putRo (putRo (fun _=>(0,0)) (some SB) (1,0)) (some TB) (2,0)) iv.ownBlock (3,0)) ov.ownBlock (4,0)⟩
theorem row_nil {w:World} {R:Nat→Ro} {r:Ro} {B:Nat} {e:TypeId} {s:Nat}:RowR w R r B e s (.slice none 0 0) 0 []:=⟨⟨by simp,.inl ⟨rfl,rfl⟩⟩,fun g hg=>by simp [Value.ownBlock] at hg⟩
theorem StO.init {N SB TB:Nat} {w:World} {iv ov:Value} {li lo:List Int} (hS:Bx w SB #[.slice none 0 0,.slice none 0 0,.int .i64 0,.slice none 0 0,.pointer (some ⟨TB,0,none⟩)]) (hT:Bx w TB #[iv,ov]) (hi:w.ownsRow N 3 1 iv li.length (li.map (.int .i64))) (ho:w.ownsRow N 3 1 ov lo.length (lo.map (.int .i64)))
  (n1:SB≠TB) (n2:iv.ownBlock≠some SB) (n3:iv.ownBlock≠some TB) (n4:ov.ownBlock≠some SB) (n5:ov.ownBlock≠some TB) (n6:∀ g,iv.ownBlock=some g→ov.ownBlock≠some g) (g1:N≤SB) (g2:N≤TB):StO N w (iniG SB TB iv ov) ⟨[],li,lo⟩:=by
 have rS:(iniG SB TB iv ov).R SB=(1,0):=by
  show putRo (putRo (putRo (putRo (fun _=>(0,0)) (some SB) (1,0)) (some TB) (2,0)) iv.ownBlock (3,0)) ov.ownBlock (4,0) SB=_
  rw [pro n4,pro n2,pro (fun e=>n1 (Option.some.inj e).symm)]
  exact prs rfl
 have rT:(iniG SB TB iv ov).R TB=(2,0):=by
  show putRo (putRo (putRo (putRo (fun _=>(0,0)) (some SB) (1,0)) (some TB) (2,0)) iv.ownBlock (3,0)) ov.ownBlock (4,0) TB=_
  rw [pro n5,pro n3]
  exact prs rfl
 refine ⟨⟨_,rfl,hS,rS⟩,row_nil,⟨hT,rT⟩,⟨hi,fun g hg=>?_⟩,⟨ho,fun g hg=>prs hg⟩,?_,?_,rfl,rfl,?_,?_,?_,?_⟩
 ·show putRo _ ov.ownBlock (4,0) g=_
  rw [pro (n6 g hg)];exact prs hg
 ·intro i b hb;simp [iniG] at hb
 ·intro i c hc;simp at hc
 ·intro i f hf
  have:i=0∧f=⟨[],0,.slice none 0 0,.slice none 0 0⟩:=by
   cases i with
   | zero=>simp [iniG] at hf;exact ⟨rfl,hf.symm⟩
   | succ i=>simp [iniG] at hf
  rw [this.2];exact row_nil
 ·intro i f hf
  have:i=0∧f=⟨[],0,.slice none 0 0,.slice none 0 0⟩:=by
   cases i with
   | zero=>simp [iniG] at hf;exact ⟨rfl,hf.symm⟩
   | succ i=>simp [iniG] at hf
  rw [this.2];exact row_nil
 ·intro i f e hf he
  have:f.env=[]:=by
   cases i with
   | zero=>simp [iniG] at hf;rw [← hf]
   | succ i=>simp [iniG] at hf
  rw [this] at he;cases he
 ·refine putRo_ge (n:=w.heap.size) (putRo_ge (n:=w.heap.size) (putRo_ge (n:=w.heap.size) (putRo_ge (n:=w.heap.size) (fun k hk=>absurd rfl hk) (Nat.le_refl _) fun g e=>?_) (Nat.le_refl _) fun g e=>?_) (Nat.le_refl _) fun g e=>⟨obg hi g e,(hi.lt g e).2⟩) (Nat.le_refl _) fun g e=>⟨obg ho g e,(ho.lt g e).2⟩
  ·cases e;exact ⟨g1,hS.lt⟩
  ·cases e;exact ⟨g2,hT.lt⟩
section
variable {B:Nat} {w:World} {G:Gs} {σ:Mt}
theorem tapeIn_any (h:StO B w G σ) (hl:σ.inp.length≤4096):Calls Tryz.prog 65 #[.pointer (some ⟨G.TB,0,none⟩)] w (ClnP σ.inp w):=by
 obtain ⟨A,c,hv,hints⟩:=ints_of_own h.inn.1
 have y0:w.cell? ⟨G.TB,0,none⟩=some (.slice A σ.inp.length c):=by rw [← hv];exact h.tap.1.cell rfl
 have hlt:=h.tap.1.lt
 have HCL:=kp (cla σ.inp (by omega) A c w hints)
 clear h hv hints
 go_enter Tryz.func65,Tryz.ntmps65
 go_wp2_with fail
 refine HCL.out.mono ?_
 rintro e2 w2 ⟨v,rfl,hv,hb⟩
 have HZ:=kp (show ClnP σ.inp w (.returned v) w2 from ⟨v,rfl,hv,hb⟩)
 obtain ⟨A2,c2,rfl,_⟩:=ofb hv
 clear hv hb
 go_wp2_with fail
 go_ret
 exact HZ.out
theorem tapeOut_any (h:StO B w G σ) (hl:σ.out.length≤4096):Calls Tryz.prog 66 #[.pointer (some ⟨G.TB,0,none⟩)] w (ClnP σ.out w):=by
 obtain ⟨A,c,hv,hints⟩:=ints_of_own h.out.1
 have y0:w.cell? ⟨G.TB,1,none⟩=some (.slice A σ.out.length c):=by rw [← hv];exact h.tap.1.cell rfl
 have hlt:=h.tap.1.lt
 have HCL:=kp (cla σ.out (by omega) A c w hints)
 clear h hv hints
 go_enter Tryz.func66,Tryz.ntmps66
 go_wp2_with fail
 refine HCL.out.mono ?_
 rintro e2 w2 ⟨v,rfl,hv,hb⟩
 have HZ:=kp (show ClnP σ.out w (.returned v) w2 from ⟨v,rfl,hv,hb⟩)
 obtain ⟨A2,c2,rfl,_⟩:=ofb hv
 clear hv hb
 go_wp2_with fail
 go_ret
 exact HZ.out
end
def glE (l:List Vd):List Ev:=l.zipIdx.map fun p=>⟨p.1,p.2⟩
theorem glE_snoc (l:List Vd) (v:Vd):glE (l++[v])=glE l++[⟨v,l.length⟩]:=by unfold glE;rw [List.zipIdx_append,List.map_append];simp
theorem glE_len (l:List Vd):(glE l).length=l.length:=by unfold glE;simp
def NewR (N SB:Nat) (vars:List Vd) (σ:Mt) (wr:World):Prop:=∃ G vV cV,StO N wr G σ∧G.SB=SB∧G.fs=[⟨glE vars,0,vV,cV⟩]∧σ.mem.length=vars.length
theorem NewR.below {N SB:Nat} {vars:List Vd} {σ:Mt} {wr w':World} (h:NewR N SB vars σ wr) (hb:Below wr.heap.size wr w'):NewR N SB vars σ w':=by
 obtain ⟨G,vV,cV,h1,h2⟩:=h
 exact ⟨G,vV,cV,h1.below hb,h2⟩
theorem new_add {N SB:Nat} {vars:List Vd} {σ:Mt} {wr w8:World} (h:NewR N SB vars σ wr) (hN:N≤wr.heap.size) (hn:vars.length≤1000) {v8:Value} {l:List Int} (hb:Below wr.heap.size wr w8) (hv:w8.ownsRow wr.heap.size 3 1 v8 l.length (l.map (.int .i64))) (v:Vd) :
  Calls Tryz.prog 60 #[.pointer (some ⟨SB,0,none⟩),v.val,.pointer (some ⟨w8.heap.size,0,none⟩)] (w8.alloc (Obj.cells #[v8] 115)) fun e w'=>e=.returned (.tuple #[])∧NewR N SB (vars++[v]) { σ with mem:=σ.mem++[l] } w'∧Fr wr w' (fun k=>N≤k):=by
 obtain ⟨G,vV,cV,ho,rfl,hfs,hlm⟩:=h
 have hB:=blb w8 (Obj.cells #[v8] 115)
 have hbY:=bl2 hb hB
 have hlt:∀ g,v8.ownBlock=some g→g<w8.heap.size:=fun g hg=>(hv.lt g hg).2
 obtain ⟨R1,H1⟩:=ho.cellNew hN hbY (bxn w8 #[v8] 115) hb.size (obl hv hB) (fun e=>by have:=hlt _ e;omega)
 generalize hG1:({ G with cb:=G.cb++[w8.heap.size],it:=G.it++[v8],R:=R1 }:Gs)=G1 at H1
 have hfs1:G1.fs=[⟨glE vars,0,vV,cV⟩]:=by rw [← hG1];exact hfs
 have hcb1:G1.cb[σ.mem.length]?=some w8.heap.size:=by rw [← hG1,← ho.lcb];simp
 obtain ⟨fb1,fo1,f1,hc1⟩:=H1.o.cur
 have hf1:f1=⟨glE vars,0,vV,cV⟩:=by
  have h1:=hc1.last
  rw [hfs1] at h1
  exact (Option.some.inj h1).symm
 obtain ⟨rfl,rfl⟩:fb1=G.SB∧fo1=0:=by
  rcases hc1.at_ with ⟨_,a,b⟩ | ⟨a,_⟩
  ·exact ⟨a.trans H1.sb,b⟩
  ·rw [hfs1] at a;simp at a
 have hrv:=H1.o.frv _ f1 hc1.last
 have hrc:=H1.o.frc _ f1 hc1.last
 have hro:=CurL.role H1.o hc1
 have hsz:f1.env.length=vars.length:=by rw [hf1];exact glE_len vars
 refine (add_any hrv.1 hrc.1 hc1.loc.c0 hc1.loc.c1 hc1.loc.z0 hc1.loc.z1 (fun e=>by
  have:=hrv.2 _ e
  rcases hro with q | q<;>rw [q] at this<;>simp at this) (fun e=>by
  have:=hrc.2 _ e
  rcases hro with q | q<;>rw [q] at this<;>simp at this) (fun g hg e=>by
  have h1:=hrv.2 g hg
  rw [hrc.2 g e] at h1;simp at h1) (Nat.le_trans hN hbY.size) (by omega) v w8.heap.size).mono ?_
 rintro e w2 ⟨rfl,ha⟩
 obtain ⟨vV',cV',R',ho2,hR,hfr⟩:=H1.o.addStep hc1 (v:=v) hcb1 ha
 refine ⟨rfl,⟨_,vV',cV',ho2,H1.sb,?_,by simp [hlm]⟩,(H1.fr.trans hfr fun k hk e=>by rw [H1.old k hk] at e;exact e).mono fun k _ e=>(ho.ge k e.1).1⟩
 show G1.fs.set (G1.fs.length - 1) _=_
 rw [hfs1,hf1,glE_snoc,hlm]
 rfl
def NwP (fit:Bool) (vars:List Vd) (S:Sg) (w:World) (e:Ending) (w':World):Prop:=match fit with
 | true=>∃ SB N,w.heap.size≤N∧e=.returned (.tuple #[.pointer (some ⟨SB,0,none⟩),.int .i64 0])∧NewR N SB vars ⟨S.cells,S.inp,S.out⟩ w'∧Below w.heap.size w w'
 | false=>e=.returned (.tuple #[.pointer none,.int .i64 3])∧Below w.heap.size w w'
theorem new_init {w w1 w2:World} {li lo:List Int} {b:Nat} {iv ov:Value} (hb:Below w.heap.size w w1) (h1:Bx w2 b #[iv,ov]) (h2:w1.heap.size≤b) (h3:w2.ownsRow w1.heap.size 3 1 iv li.length (li.map (.int .i64))) (h4:w2.ownsRow w1.heap.size 3 1 ov lo.length (lo.map (.int .i64))) (h5:iv.ownBlock≠some b) (h6:ov.ownBlock≠some b) (h7:∀ g,iv.ownBlock=some g→ov.ownBlock≠some g) (hb2:Below w1.heap.size w1 w2) :
  NewR w.heap.size w2.heap.size [] ⟨[],li,lo⟩ (w2.alloc (Obj.cells #[.slice none 0 0,.slice none 0 0,.int .i64 0,.slice none 0 0,.pointer (some ⟨b,0,none⟩)] 111))∧Below w.heap.size w (w2.alloc (Obj.cells #[.slice none 0 0,.slice none 0 0,.int .i64 0,.slice none 0 0,.pointer (some ⟨b,0,none⟩)] 111)):=by
 have hB:=blb w2 (Obj.cells #[.slice none 0 0,.slice none 0 0,.int .i64 0,.slice none 0 0,.pointer (some ⟨b,0,none⟩)] 111)
 have hlt:=h1.lt
 have hi:∀ g,iv.ownBlock=some g→g<w2.heap.size:=fun g hg=>(h3.lt g hg).2
 have ho:∀ g,ov.ownBlock=some g→g<w2.heap.size:=fun g hg=>(h4.lt g hg).2
 have hs:=hb.size
 have hs2:=hb2.size
 refine ⟨⟨iniG w2.heap.size b iv ov,_,_,StO.init (bxn w2 _ _) (h1.below hB) (own_base (obl h3 hB) hs) (own_base (obl h4 hB) hs) (by omega) (fun e=>by have:=hi _ e;omega) h5 (fun e=>by have:=ho _ e;omega) h6 h7 (by omega) (by omega),rfl,rfl,rfl⟩,bl2 (bl2 hb hb2) hB⟩
theorem new_any (vars:List Vd) (S:Sg) (hn:vars.length≤1000) (hc:∀ c∈S.cells,c.length≤100000) (hS:SgFit S) (A:Option Addr) (cap:Nat) (Ac Ai Ao:Option Addr) (c1 c2 c3:Nat) (w:World) (hK:VdsAt w A vars) (hC:SgAt w Ac Ai Ao S) :
  Calls Tryz.prog 39 #[.slice A vars.length cap,.agg #[.slice Ac S.cells.length c1,.slice Ai S.inp.length c2,.slice Ao S.out.length c3]] w (NwP (fitsB vars S) vars S w):=by
 have HB:=kp (blb w (Obj.cells #[.slice Ac S.cells.length c1,.slice Ai S.inp.length c2,.slice Ao S.out.length c3] 32))
 have HRX:=kp (bxn w #[.slice Ac S.cells.length c1,.slice Ai S.inp.length c2,.slice Ao S.out.length c3] 32)
 have HFT:=kp (fun (Y:World) (hY:Below w.heap.size w Y)=>fits_any vars S (by omega) hS A cap Ac Ai Ao c1 c2 c3 Y (hK.mono hY) (hC.mono hY))
 have HKC:=kp (And.intro hK hC)
 have hfb:fitsB vars S=true→S.cells.length=vars.length∧S.inp.length≤4096∧S.out.length≤4096:=fun h=>by
  unfold fitsB at h
  simp only [Bool.and_eq_true,decide_eq_true_eq] at h
  exact ⟨h.1.1.1.2,h.1.1.2,h.1.2⟩
 generalize fitsB vars S=fit at *
 clear hK hC hS
 cases fit with
 | false=>
   clear hfb
   go_enter Tryz.func39,Tryz.ntmps39
   go_upto_region 1 with fail
   generalize w.alloc _=W at HB HRX ⊢
   obtain ⟨a0,a1,a2,_⟩:=HRX.out.three
   have hla:=HRX.out.lt
   go_wp2_with fail
   refine (HFT.out W HB.out).mono ?_
   rintro e1 w1 ⟨rfl,hb1⟩
   have HB1:=kp (bl2 HB.out hb1)
   clear hb1
   go_wp2_with fail
   go_ret2
   exact ⟨rfl,HB1.out⟩
 | true=>
   obtain ⟨hl1,hl2,hl3⟩:=hfb rfl
   have HL1:=kp hl1
   clear hl1
   have HTN:=kp (fun (Y:World) (hY:Below w.heap.size w Y)=>tapeNew_any S.inp S.out hl2 hl3 Ai Ao c2 c3 Y (HKC.out.2.mono hY).i (HKC.out.2.mono hY).o)
   clear hfb
   go_enter Tryz.func39,Tryz.ntmps39
   go_upto_region 1 with fail
   generalize w.alloc _=W at HB HRX ⊢
   obtain ⟨a0,a1,a2,_⟩:=HRX.out.three
   have hla:=HRX.out.lt
   go_wp2_with fail
   refine (HFT.out W HB.out).mono ?_
   rintro e1 w1 ⟨rfl,hb1⟩
   have HB1:=kp (bl2 HB.out hb1)
   have HBW:=kp hb1
   have HWS:=kp (And.intro HRX.out.lt HB.out.size)
   have HR1:=kp (HRX.out.below hb1)
   clear hb1 a0 a1 a2 hla
   obtain ⟨a0,a1,a2,_⟩:=HR1.out.three
   have hla:=HR1.out.lt
   go_wp2_with fail
   refine (HTN.out w1 HB1.out).mono ?_
   rintro e2 w2 ⟨b,iv,ov,rfl,t1,t2,t3,t4,t5,t6,t7,t8⟩
   have HBV:=kp (new_init HB1.out t1 t2 t3 t4 t5 t6 t7 t8).2
   have HIN:=kp (new_init HBW.out t1 t2 t3 t4 t5 t6 t7 t8)
   have HR2:=kp ((HR1.out.below t8).below (blb w2 (Obj.cells #[.slice none 0 0,.slice none 0 0,.int .i64 0,.slice none 0 0,.pointer (some ⟨b,0,none⟩)] 111)))
   clear a0 a1 a2 hla t1 t2 t3 t4 t5 t6 t7 t8
   go_upto_region 7 with fail
   generalize w2.alloc _=W3 at HIN HR2 HBV ⊢
   obtain ⟨a0,a1,a2,_⟩:=HR2.out.three
   have hla:=HR2.out.lt
   have hlS:w2.heap.size<W3.heap.size:=by
    obtain ⟨G,vV,cV,ho,hsb,_⟩:=HIN.out.1
    rw [← hsb];exact ho.slt
   go_wp2_with fail
   go_loopw [30] (fun i wr=>∃ k:Nat,k≤vars.length∧i=.int .i64 k∧Hid (NewR W.heap.size w2.heap.size (vars.take k) ⟨S.cells.take k,S.inp,S.out⟩ wr)∧Hid (Below w.heap.size w wr)∧Hid (Bx wr w.heap.size #[.slice Ac S.cells.length c1,.slice Ai S.inp.length c2,.slice Ao S.out.length c3])) (fun i _=>vars.length - (intOf i).toNat)
   case atStart=>exact ⟨0,by omega,rfl,kp HIN.out.1,kp HBV.out,HR2⟩
   case round=>
    obtain ⟨k,hk,rfl,HN,HR,HX⟩:=hrel
    clear a0 a1 a2 hla
    have hNW:W.heap.size≤wr.heap.size:=by
     obtain ⟨G,_,_,ho,_⟩:=HN.out
     have:=(ho.ge G.SB (by obtain ⟨_,_,_,q⟩:=ho.sto;rw [q];simp)).2
     have:=(ho.ge G.SB (by obtain ⟨_,_,_,q⟩:=ho.sto;rw [q];simp)).1
     omega
    by_cases hin:k<vars.length
    ·obtain ⟨bp,op,rfl,_,p0,p1,p2⟩:=(HKC.out.1.mono HR.out).at_ hin
     have hin2:k<S.cells.length:=by rw [HL1.out];exact hin
     obtain ⟨bs,os,A',cap',rfl,_,s0,hints⟩:=(HKC.out.2.mono HR.out).c.at_ hin2
     have hcl:=hc _ (List.getElem_mem hin2)
     have e1:=List.take_succ_eq_append_getElem hin
     have e2:=List.take_succ_eq_append_getElem hin2
     have HE:=kp (And.intro e1 e2)
     have HBX:=kp (blb wr (Obj.cells #[.string vars[k].name,.int .u8 vars[k].kind,.int .i64 vars[k].len] 62))
     have HRY:=kp (bxn wr #[.string vars[k].name,.int .u8 vars[k].kind,.int .i64 vars[k].len] 62)
     have r0:(0:Int)≤k:=by omega
     have r1:(k:Int)<vars.length:=by omega
     have r2:(k:Int)<S.cells.length:=by omega
     have r3:¬ (k:Int)<0:=by omega
     have hla:=block_lt_of_cell p0
     clear e1 e2
     generalize vars[k]=v at *
     generalize S.cells[k]=cl at *
     go_upto_region 10 with fail
     generalize wr.alloc _=V at HBX HRY ⊢
     have HVX:=kp (HX.out.below HBX.out)
     have s1:=blc HBX.out s0
     obtain ⟨a0,a1,a2,_⟩:=HVX.out.three
     obtain ⟨x0,x1,x2,_⟩:=HRY.out.three
     have hla:=HVX.out.lt
     have hlx:=HRY.out.lt
     have hls:=block_lt_of_cell s1
     have hbP:=Below.refl V.heap.size V
     have HFS:=kp (fun (Y:World) (hY:Below V.heap.size V Y)=>And.intro (HVX.out.below hY).three (And.intro (HRY.out.below hY).three (And.intro (blc hY s1) (Nat.lt_of_lt_of_le hla hY.size))))
     have HCL:=kp (fun (Y:World) (hY:Below V.heap.size V Y)=>cla cl (by omega) A' cap' Y (hints.mono (bl2 HBX.out hY)))
     have HAD:=kp (fun (w8:World) (v8:Value) (hb8:Below wr.heap.size wr w8) (hv8:w8.ownsRow wr.heap.size 3 1 v8 cl.length (cl.map (.int .i64)))=>new_add HN.out hNW (by rw [List.length_take];omega) hb8 hv8 v)
     clear hints
     unfold Vd.val at HAD
     go_region_law (first
      | (go_simp;go_at_call 52;(with_reducible refine Calls.mono (HCL.out V.drew (bld hbP)) ?_);rintro e8 w8 ⟨v8,rfl,hv8,hb8⟩;have HB8:=kp (bl2 (W:=V) (bld hbP) hb8);have HV8:=kp (own_base (b:=wr.heap.size) hv8 HBX.out.size);obtain ⟨⟨z0,z1,z2,_⟩,⟨z3,z4,z5,_⟩,z6,z7⟩:=HFS.out w8 HB8.out;have zl1:=block_lt_of_cell z3;have zl2:=block_lt_of_cell z6;obtain ⟨A8,c8,rfl,_⟩:=ofb hv8;have HD8:=kp (HAD.out w8 _ (bl2 HBX.out HB8.out) HV8.out);clear hv8 hb8;dsimp only)
      | (go_simp;go_at_call 60;(with_reducible refine Calls.mono HD8.out ?_);rintro e9 w9 ⟨rfl,hn9,hf9⟩;have HN9:=kp (And.intro hn9 hf9);clear hn9 hf9;dsimp only)
      | fail)
     all_goals
      have HX9:=kp (HX.out.fr HN9.out.2 (fun e=>by have:=HWS.out.1;omega))
      have HR9:=kp (HN9.out.2.below HR.out (fun k e=>by have:=HWS.out.2;omega))
      have HM9:=kp HN9.out.1
      rw [← HE.out.1,show (⟨S.cells.take k++[cl],S.inp,S.out⟩:Mt)=⟨S.cells.take (k+1),S.inp,S.out⟩ by rw [HE.out.2]] at HM9
      go_wp2_with fail
      exact ⟨⟨k+1,by omega,by go_num,HM9,HR9,HX9⟩,by simp [intOf];omega⟩
    ·obtain rfl:k=vars.length:=by omega
     have HZ:=kp (show NwP true vars S w (.returned (.tuple #[.pointer (some ⟨w2.heap.size,0,none⟩),.int .i64 0])) wr from
      ⟨_,_,HWS.out.2,rfl,by have:=HN.out;rw [List.take_length,List.take_of_length_le (by rw [HL1.out];exact Nat.le_refl _)] at this;exact this,HR.out⟩)
     go_wp2_with fail
     go_ret2
     exact HZ.out
end Go.Proofs.YtgbomnibedefoaaGreatDoor
