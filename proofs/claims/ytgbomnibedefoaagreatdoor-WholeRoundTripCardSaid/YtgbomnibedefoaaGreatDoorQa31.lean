import Derived.Test.YtgbomnibedefoaaGreatDoorQa30
set_option maxRecDepth 100000
set_option maxHeartbeats 8000000
namespace Go.Proofs.YtgbomnibedefoaaGreatDoor
open Go.ChangeShapes Go.WideShapes Go.ChangeAt Go.RowKit Go.Sort
theorem two_cells (w:World) (c1 c2:Array Value) (T1 T2:TypeId):Below w.heap.size w ((w.alloc (.cells c1 T1)).alloc (.cells c2 T2))∧Bx ((w.alloc (.cells c1 T1)).alloc (.cells c2 T2)) w.heap.size c1∧Bx ((w.alloc (.cells c1 T1)).alloc (.cells c2 T2)) (w.heap.size+1) c2:=by
 have b1:=blb w (.cells c1 T1)
 have x1:=bxn w c1 T1
 have z1:(w.alloc (.cells c1 T1)).heap.size=w.heap.size+1:=by simp
 generalize w.alloc (.cells c1 T1)=w1 at *
 have b2:=blb w1 (.cells c2 T2)
 have x2:=bxn w1 c2 T2
 rw [z1] at x2
 exact ⟨bls b1 b1.size b2,x1.below b2,x2⟩
theorem fold1_any (k nu:Int) (nm:ByteArray) (A:Option Addr) (n c:Nat) (x:Int) (b:Bool) (w:World):Calls Tryz.prog 189 #[.agg #[.int .u8 k,.int .i64 nu,.string nm,.slice A n c,.int .i64 x,.bool b]] w (NdP w):=by
 have HT:=kp (two_cells w #[.int .u8 k,.int .i64 nu,.string nm,.slice A n c,.int .i64 x,.bool b] #[.int .u8 k,.int .i64 nu,.string nm,.slice A n c] 205 26)
 go_enter Tryz.func189,Tryz.ntmps189
 go_wp2_with fail
 generalize World.alloc _ _=V at HT ⊢
 obtain ⟨g0,g1,g2,g3,_⟩:=HT.out.2.2.four
 exact bodyPost_ret (v:=.agg #[.int .u8 k,.int .i64 nu,.string nm,.slice A n c]) (by simp [results,Tryz.results189,go_sem,g0,g1,g2,g3]) rfl ⟨_,_,_,_,_,_,rfl,HT.out.1⟩
def Ea2R (W:World) (k:Nat) (v:Value) (wr:World):Prop:=∃ cs,wr.ownsRow W.heap.size 26 4 v k cs∧Below W.heap.size W wr
theorem each2_any {l:List Fd} (hl:l.length≤100000) {A:Option Addr} {cap:Nat} {W:World} (hK:FdsAt W A l) :
  Calls Tryz.prog 188 #[.slice A l.length cap,.func (.func 189) #[] #[]] W (fun e w'=>∃ A n c,e=.returned (.slice A n c)∧Below W.heap.size W w'):=by
 have HK:=kp hK
 obtain ⟨i0,hi0,hz0,hz1,hz2⟩:=info_parts info_nd
 have HI:=kp (And.intro hi0 (And.intro hz0 (And.intro hz1 hz2)))
 clear hi0 hz0 hz1 hz2 hK
 go_enter Tryz.func188,Tryz.ntmps188
 go_upto_region 3 with fail
 go_loopw [5,10] (fun v i wr=>∃ k:Nat,k≤l.length∧i=.int .i64 k∧Hid (Ea2R W k v wr)) (fun _ i _=>l.length - (intOf i).toNat)
 case atStart=>exact ⟨0,by omega,rfl,kp ⟨[],⟨rfl,.inl ⟨rfl,rfl⟩⟩,Below.refl _ _⟩⟩
 case round=>
  obtain ⟨k,hk,rfl,HR⟩:=hrel
  by_cases hin:k<l.length
  ·obtain ⟨cs,hown,hbw⟩:=HR.out
   have HR2:=kp (And.intro hown hbw)
   obtain ⟨bk,ok,hA,hcell⟩:=HK.out k _ (List.getElem?_eq_getElem hin)
   have k0:=blc hbw (hcell 0 _ rfl)
   have k1:=blc hbw (hcell 1 _ rfl)
   have k2:=blc hbw (hcell 2 _ rfl)
   have k3:=blc hbw (hcell 3 _ rfl)
   have k4:=blc hbw (hcell 4 _ rfl)
   have k5:=blc hbw (hcell 5 _ rfl)
   have hbk:=block_lt_of_cell k0
   have r0:(0:Int)≤k:=by omega
   have r1:(k:Int)<l.length:=by omega
   clear hown hbw hcell
   subst hA
   generalize l[k]=f at *
   obtain ⟨fk,fnu,fnm,fA,fn,fc,fx,fb⟩:=f
   rw [Nat.add_zero] at k0
   have HBX:=kp (blb wr (Obj.cells #[.int .u8 fk,.int .i64 fnu,.string fnm,.slice fA fn fc,.int .i64 fx,.bool fb] 205))
   have HRX:=kp (bxn wr #[.int .u8 fk,.int .i64 fnu,.string fnm,.slice fA fn fc,.int .i64 fx,.bool fb] 205)
   dsimp only at k0 k1 k2 k3 k4 k5
   go_upto_region 5 with fail
   generalize wr.alloc _=V at HBX HRX ⊢
   have HC1:=kp (fold1_any fk fnu fnm fA fn fc fx fb V)
   obtain ⟨⟨b0,b1,b2,b3,b4,b5⟩,_⟩:=HRX.out.six
   have hlb:=HRX.out.lt
   have HZB:=kp (show W.heap.size≤wr.heap.size from HR2.out.2.size)
   go_wp2_with fail
   refine HC1.out.mono ?_
   rintro e w8 ⟨nk,nnu,nnm,nA,nn,nc,rfl,hb8⟩
   have HB8:=kp (bls HBX.out HBX.out.size hb8)
   have HO8:=kp (obl HR2.out.1 HB8.out)
   obtain ⟨Av,cv,rfl,hcv,_⟩:=ofb HO8.out
   have HZ8:=kp hb8.size
   clear hb8
   go_wp2_with (at_builtin;go_loud (refine wpList_app _ rfl _ _ 24 rfl W.heap.size 26 i0 (.agg #[.int .u8 0,.int .i64 0,.string ⟨#[]⟩,.slice none 0 0]) 4 56 Tryz.underlying24 HI.out.1 HI.out.2.1 HI.out.2.2.1 HI.out.2.2.2 rfl (by decide) (.slice Av k cv) k cs rfl (obl HO8.out (blb _ _)) (some ⟨w8.heap.size,0,none⟩) 1 1 [.int .u8 nk,.int .i64 nnu,.string nnm,.slice nA nn nc] rfl rfl (cnu w8 rfl [.int .u8 nk,.int .i64 nnu,.string nnm,.slice nA nn nc] 26) (fun u hu=>by simp at hu;rcases hu with rfl | rfl | rfl | rfl<;>rfl) (by unfold maxLen;omega) (by omega) (by have:=HZB.out;have:=HZ8.out;simp;omega) ?_;intro v' w9 hown' hgrow hat))
   have HN:=kp (show Ea2R W (k+1) v' w9 from ⟨_,hown',(Fr.of_grown hgrow).toBelow (bls (bls HR2.out.2 HZB.out HB8.out) (by have:=HB8.out.size;have:=HZB.out;omega) (blb w8 _)) (by have:=HB8.out.size;have:=HZB.out;simp;omega) fun g hg=>obg HO8.out g hg.symm⟩)
   clear hown' hgrow hat
   go_wp2_with fail
   exact ⟨⟨k+1,by omega,by go_num,HN⟩,by simp [intOf];omega⟩
  ·obtain rfl:k=l.length:=by omega
   obtain ⟨cs,hown,hbw⟩:=HR.out
   obtain ⟨Av,cv,rfl,_,_⟩:=ofb hown
   have HX:=kp hbw
   clear hown hbw
   go_wp2_with fail
   go_ret
   exact ⟨_,_,_,rfl,HX.out⟩
def ArP (w:World) (e:Ending) (w':World):Prop:=∃ v er:Int,e=.returned (.tuple #[.int .i64 v,.int .i64 er])∧(er=0→InR v)∧w=w'
theorem unary_ar {k:Nat} (hk:k=6∨k=7) (x:Int) (w:World):Calls Tryz.prog 191 #[.int .u8 k,.int .i64 x] w (ArP w):=by
 refine (unary_any k hk x w).mono ?_
 rintro e w' ⟨h,rfl⟩
 rcases hk with rfl | rfl
 ·exact ⟨_,0,h,fun _=>wrap64_inR _,rfl⟩
 ·exact ⟨_,0,h,fun _=>numB_inR _,rfl⟩
theorem apply_ar {k:Nat} (h:8≤k) (h':k≤23) {x:Int} (hx:InR x) (y:Int) (w:World):Calls Tryz.prog 192 #[.int .u8 k,.int .i64 x,.int .i64 y] w (ArP w):=by
 refine (apply_any k h h' x y w).mono ?_
 rintro e w' ⟨rfl,rfl⟩
 exact ⟨_,_,rfl,fun _=>apR_inR k hx y,rfl⟩
def VaP (w:World) (e:Ending) (w':World):Prop:=∃ (v:Int) (b:Bool),e=.returned (.tuple #[.int .i64 v,.bool b])∧(b=true→InR v)∧Below w.heap.size w w'
theorem ex_kinds {x:Nd} (h:isExT x=true):x.kind=1∨(x.kind=2∨x.kind=3∨x.kind=4∨x.kind=5)∨((x.kind=6∨x.kind=7)∧x.kids.length=1)∨(8≤x.kind∧x.kind≤23∧x.kids.length=2):=by
 rw [isExT_eq] at h
 unfold isExK at h
 by_cases c1:x.kind=1
 ·exact .inl c1
 rw [if_neg c1] at h
 by_cases c2:x.kind=2∨x.kind=4∨x.kind=5
 ·exact .inr (.inl (by omega))
 rw [if_neg c2] at h
 by_cases c3:x.kind=3
 ·exact .inr (.inl (by omega))
 rw [if_neg c3] at h
 by_cases c4:x.kind=6∨x.kind=7
 ·rw [if_pos c4] at h
  simp only [Bool.and_eq_true,decide_eq_true_eq] at h
  exact .inr (.inr (.inl ⟨c4,h.2.1⟩))
 rw [if_neg c4] at h
 by_cases c5:8≤x.kind∧x.kind≤23
 ·rw [if_pos c5] at h
  simp only [Bool.and_eq_true,decide_eq_true_eq] at h
  exact .inr (.inr (.inr ⟨c5.1,c5.2,h.2.1⟩))
 rw [if_neg c5] at h
 cases h
theorem fvalue_any {x:Nd} (hx:isExT x=true) (hf:NdFit x) {fs:List Fd} (hl:fs.length=x.kids.length) (hr:∀ f∈fs,f.b=true→InR f.x) (hn:x.kids.length≤100000) {A B:Option Addr} {ca cb:Nat} {w:World} (hB:FdsAt w B fs) :
  Calls Tryz.prog 186 #[.agg (ndC x A ca),.slice B fs.length cb] w (VaP w):=by
 have HK:=kp (ex_kinds hx)
 have HR:=kp hr
 have HN:=kp (show InR x.num from hf.facts.2.1)
 have HBX:=kp (blb w (Obj.cells (ndC x A ca) 26))
 have HRX:=kp (bxn w (ndC x A ca) 26)
 have HF:=kp (hB.mono HBX.out)
 clear hB hr hf hx
 go_enter Tryz.func186,Tryz.ntmps186
 go_upto_region 2 with fail
 generalize w.alloc _=V at HBX HRX HF ⊢
 go_loopw [12] (fun i wr=>∃ k:Nat,k≤fs.length∧i=.int .i64 k∧Hid ((∀ f∈fs.take k,f.b=true)∧Below V.heap.size V wr)) (fun i _=>fs.length - (intOf i).toNat)
 case atStart=>exact ⟨0,by omega,rfl,kp ⟨fun f h=>by simp at h,Below.refl _ _⟩⟩
 case round=>
  obtain ⟨k,hk,rfl,HL⟩:=hrel
  by_cases hin:k<fs.length
  ·obtain ⟨bk,ok,hA,hcell⟩:=HF.out k _ (List.getElem?_eq_getElem hin)
   have hbw:=HL.out.2
   have k0:=blc hbw (hcell 0 _ rfl)
   have k1:=blc hbw (hcell 1 _ rfl)
   have k2:=blc hbw (hcell 2 _ rfl)
   have k3:=blc hbw (hcell 3 _ rfl)
   have k4:=blc hbw (hcell 4 _ rfl)
   have k5:=blc hbw (hcell 5 _ rfl)
   have hbk:=block_lt_of_cell k0
   have r0:(0:Int)≤k:=by omega
   have r1:(k:Int)<fs.length:=by omega
   have HTK:=kp (fun (q:fs[k].b=true)=>show ∀ f∈fs.take (k+1),f.b=true from fun f hf=>by
    rw [List.take_succ_eq_append_getElem hin,List.mem_append,List.mem_singleton] at hf
    rcases hf with hf | rfl
    ·exact HL.out.1 f hf
    ·exact q)
   clear hbw hcell
   subst hA
   generalize fs[k]=f at *
   obtain ⟨fk,fnu,fnm,fA,fn,fc,fx,fb⟩:=f
   rw [Nat.add_zero] at k0
   have HB2:=kp (blb wr (Obj.cells #[.int .u8 fk,.int .i64 fnu,.string fnm,.slice fA fn fc,.int .i64 fx,.bool fb] 205))
   have HX2:=kp (bxn wr #[.int .u8 fk,.int .i64 fnu,.string fnm,.slice fA fn fc,.int .i64 fx,.bool fb] 205)
   dsimp only at k0 k1 k2 k3 k4 k5 HTK
   go_upto_region 4 with fail
   generalize wr.alloc _=V2 at HB2 HX2 ⊢
   obtain ⟨⟨b0,b1,b2,b3,b4,b5⟩,_⟩:=HX2.out.six
   have hlb:=HX2.out.lt
   have HB3:=kp (bls HL.out.2 HL.out.2.size HB2.out)
   cases fb with
   | false=>
     have HX:=kp (bls HBX.out HBX.out.size HB3.out)
     go_wp2_with fail
     go_ret2
     exact ⟨_,_,rfl,(fun h=>by cases h),HX.out⟩
   | true=>
     have HX:=kp (And.intro (HTK.out rfl) HB3.out)
     go_wp2_with fail
     exact ⟨⟨k+1,by omega,by go_num,HX⟩,by simp [intOf];omega⟩
  ·obtain rfl:k=fs.length:=by omega
   have HALL:=kp (show ∀ f∈fs,InR f.x from fun f hf=>HR.out f hf (HL.out.1 f (by rw [List.take_length];exact hf)))
   have HW:=kp (bls HBX.out HBX.out.size HL.out.2)
   obtain ⟨a0,a1,a2,a3,_⟩:=(HRX.out.below HL.out.2).four
   have hla:=(HRX.out.below HL.out.2).lt
   rcases HK.out with h | h | ⟨h,hl1⟩ | ⟨h1,h2,hl2⟩
   ·have e1:((x.kind:Int) == 1)=true:=by rw [h];rfl
    clear h
    go_wp2_with fail
    go_ret2
    exact ⟨_,_,rfl,fun _=>HN.out,HW.out⟩
   ·rcases h with h | h | h | h
    ·have e1:((x.kind:Int) == 1)=false:=beqF (show x.kind≠1 by omega)
     have e2:((x.kind:Int) == 2)=true:=by rw [h];rfl
     clear h
     go_wp2_with fail
     go_ret2
     exact ⟨_,_,rfl,(fun h=>by cases h),HW.out⟩
    ·have e1:((x.kind:Int) == 1)=false:=beqF (show x.kind≠1 by omega)
     have e2:((x.kind:Int) == 2)=false:=beqF (show x.kind≠2 by omega)
     have e3:((x.kind:Int) == 3)=true:=by rw [h];rfl
     clear h
     go_wp2_with fail
     go_ret2
     exact ⟨_,_,rfl,(fun h=>by cases h),HW.out⟩
    ·have e1:((x.kind:Int) == 1)=false:=beqF (show x.kind≠1 by omega)
     have e2:((x.kind:Int) == 2)=false:=beqF (show x.kind≠2 by omega)
     have e3:((x.kind:Int) == 3)=false:=beqF (show x.kind≠3 by omega)
     have e4:((x.kind:Int) == 4)=true:=by rw [h];rfl
     clear h
     go_wp2_with fail
     go_ret2
     exact ⟨_,_,rfl,(fun h=>by cases h),HW.out⟩
    ·have e1:((x.kind:Int) == 1)=false:=beqF (show x.kind≠1 by omega)
     have e2:((x.kind:Int) == 2)=false:=beqF (show x.kind≠2 by omega)
     have e3:((x.kind:Int) == 3)=false:=beqF (show x.kind≠3 by omega)
     have e4:((x.kind:Int) == 4)=false:=beqF (show x.kind≠4 by omega)
     have e5:((x.kind:Int) == 5)=true:=by rw [h];rfl
     clear h
     go_wp2_with fail
     go_ret2
     exact ⟨_,_,rfl,(fun h=>by cases h),HW.out⟩
   ·obtain ⟨b0,o0,hB0,hcell⟩:=HF.out 0 _ (List.getElem?_eq_getElem (by omega))
    have k4:=blc HL.out.2 (hcell 4 _ rfl)
    have hbk:=block_lt_of_cell k4
    rw [Nat.zero_mul,Nat.add_zero] at k4
    have r1:(0:Int)<fs.length:=by omega
    have r2:(0:Int)<x.kids.length:=by omega
    have HC:=kp (fun (w:World)=>unary_ar h fs[0].x w)
    have e1:((x.kind:Int) == 1)=false:=beqF (show x.kind≠1 by omega)
    have e2:((x.kind:Int) == 2)=false:=beqF (show x.kind≠2 by omega)
    have e3:((x.kind:Int) == 3)=false:=beqF (show x.kind≠3 by omega)
    have e4:((x.kind:Int) == 4)=false:=beqF (show x.kind≠4 by omega)
    have e5:((x.kind:Int) == 5)=false:=beqF (show x.kind≠5 by omega)
    clear hcell
    subst hB0
    generalize fs[0]=f at *
    have HW2:=kp (show Below w.heap.size w wr.drew from bld HW.out)
    rcases h with h | h
    ·have e6:((x.kind:Int) == 6)=true:=by rw [h];rfl
     clear h
     go_upto_region 20 with fail
     go_region_law (first
      | (go_simp;go_at_call 191;(with_reducible refine Calls.mono (HC.out wr.drew) ?_);rintro e w8 ⟨v,er,rfl,her,rfl⟩;dsimp only)
      | fail)
     all_goals
      go_wp2_with fail
      go_ret2
      exact ⟨_,_,rfl,fun h=>her (by simpa using h),HW2.out⟩
    ·have e6:((x.kind:Int) == 6)=false:=by rw [h];rfl
     have e7:((x.kind:Int) == 7)=true:=by rw [h];rfl
     clear h
     go_upto_region 20 with fail
     go_region_law (first
      | (go_simp;go_at_call 191;(with_reducible refine Calls.mono (HC.out wr.drew) ?_);rintro e w8 ⟨v,er,rfl,her,rfl⟩;dsimp only)
      | fail)
     all_goals
      go_wp2_with fail
      go_ret2
      exact ⟨_,_,rfl,fun h=>her (by simpa using h),HW2.out⟩
   ·obtain ⟨b0,o0,hB0,hcell⟩:=HF.out 0 _ (List.getElem?_eq_getElem (by omega))
    obtain ⟨b1,o1,hB1,hcell1⟩:=HF.out 1 _ (List.getElem?_eq_getElem (by omega))
    have hbo:b1=b0∧o1=o0:=by
     rw [hB0] at hB1
     injection hB1 with hB1
     injection hB1 with q1 q2
     exact ⟨q1.symm,q2.symm⟩
    obtain ⟨rfl,rfl⟩:=hbo
    have k4:=blc HL.out.2 (hcell 4 _ rfl)
    have m4:=blc HL.out.2 (hcell1 4 _ rfl)
    have hbk:=block_lt_of_cell k4
    rw [Nat.zero_mul,Nat.add_zero] at k4
    rw [Nat.one_mul] at m4
    have r1:(0:Int)<fs.length:=by omega
    have r2:(0:Int)<x.kids.length:=by omega
    have r3:(1:Int)<fs.length:=by omega
    have r4:(1:Int)<x.kids.length:=by omega
    have HC:=kp (fun (w:World)=>apply_ar h1 h2 (HALL.out fs[0] (List.getElem_mem _)) fs[1].x w)
    have HW2:=kp (show Below w.heap.size w wr.drew from bld HW.out)
    have e1:((x.kind:Int) == 1)=false:=beqF (show x.kind≠1 by omega)
    have e2:((x.kind:Int) == 2)=false:=beqF (show x.kind≠2 by omega)
    have e3:((x.kind:Int) == 3)=false:=beqF (show x.kind≠3 by omega)
    have e4:((x.kind:Int) == 4)=false:=beqF (show x.kind≠4 by omega)
    have e5:((x.kind:Int) == 5)=false:=beqF (show x.kind≠5 by omega)
    have e6:((x.kind:Int) == 6)=false:=beqF (show x.kind≠6 by omega)
    have e7:((x.kind:Int) == 7)=false:=beqF (show x.kind≠7 by omega)
    clear hcell hcell1 hB1
    subst hB0
    generalize fs[0]=f at *
    generalize fs[1]=f2 at *
    go_upto_region 10 with fail
    go_region_law (first
     | (go_simp;go_at_call 192;(with_reducible refine Calls.mono (HC.out wr.drew) ?_);rintro e w8 ⟨v,er,rfl,her,rfl⟩;dsimp only)
     | fail)
    all_goals
     go_wp2_with fail
     go_ret2
     exact ⟨_,_,rfl,fun h=>her (by simpa using h),HW2.out⟩
theorem ex_kid {x y:Nd} (h:isExT x=true) (hy:y∈x.kids):isExT y=true:=by
 rw [isExT_eq] at h
 unfold isExK at h
 have hall:(x.kids.map isExT).all id=true→isExT y=true:=fun h=>by
  rw [List.all_eq_true] at h
  exact h _ (List.mem_map_of_mem hy)
 have hno:decide (x.kids.length=0)=true→isExT y=true:=fun h=>by
  have:=List.eq_nil_of_length_eq_zero (of_decide_eq_true h)
  rw [this] at hy;simp at hy
 by_cases c1:x.kind=1
 ·rw [if_pos c1] at h
  simp only [Bool.and_eq_true] at h
  exact hno h.2
 rw [if_neg c1] at h
 by_cases c2:x.kind=2∨x.kind=4∨x.kind=5
 ·rw [if_pos c2] at h
  simp only [Bool.and_eq_true] at h
  exact hno h.2
 rw [if_neg c2] at h
 by_cases c3:x.kind=3
 ·rw [if_pos c3] at h
  simp only [Bool.and_eq_true] at h
  exact hall h.2.2
 rw [if_neg c3] at h
 by_cases c4:x.kind=6∨x.kind=7
 ·rw [if_pos c4] at h
  simp only [Bool.and_eq_true] at h
  exact hall h.2.2
 rw [if_neg c4] at h
 by_cases c5:8≤x.kind∧x.kind≤23
 ·rw [if_pos c5] at h
  simp only [Bool.and_eq_true] at h
  exact hall h.2.2
 rw [if_neg c5] at h
 cases h
theorem six_end {w V:World} {g:Nat} {u0 u1 u2 u3 u4 u5:Value} (hb:Below w.heap.size w V) (hx:Bx V g #[u0,u1,u2,u3,u4,u5]) (hg:w.heap.size≤g) (v0 v1 v2 v3 v4 v5:Value):Bx ((((((V.setCell ⟨g,0,none⟩ v0).setCell ⟨g,1,none⟩ v1).setCell ⟨g,2,none⟩ v2).setCell ⟨g,3,none⟩ v3).setCell ⟨g,4,none⟩ v4).setCell ⟨g,5,none⟩ v5) g #[v0,v1,v2,v3,v4,v5]∧Below w.heap.size w ((((((V.setCell ⟨g,0,none⟩ v0).setCell ⟨g,1,none⟩ v1).setCell ⟨g,2,none⟩ v2).setCell ⟨g,3,none⟩ v3).setCell ⟨g,4,none⟩ v4).setCell ⟨g,5,none⟩ v5):=by
 refine ⟨(((((hx.set 0 v0).set 1 v1).set 2 v2).set 3 v3).set 4 v4).set 5 v5,?_⟩
 have h4:=(Fr.set4 V g v0 v1 v2 v3).trans (Fr.of_set _ ⟨g,4,none⟩ v4) fun k _ e=>e
 exact (h4.trans (Fr.of_set _ ⟨g,5,none⟩ v5) fun k _ e=>e).toBelow hb hb.size fun k e=>by omega
theorem fold_any:∀ (N:Nat) (x:Nd),szT x≤N→N≤100000→isExT x=true→NdFit x→∀ (A:Option Addr) (ca:Nat) (w:World),NdsAt w A x.kids→Calls Tryz.prog 170 #[.agg (ndC x A ca)] w (FoP w):=by
 intro N
 induction N with
 | zero=>intro x hx;have:=szT_pos x;omega
 | succ N ih=>
   intro x hx hN hex hfit A ca w hK
   have hl:x.kids.length≤100000:=by have:=szL_len x.kids;have:=szT_eq x;omega
   have HT:=kp (two_cells w (ndC x A ca) #[.int .u8 0,.int .i64 0,.string ⟨#[]⟩,.slice none 0 0,.int .i64 0,.bool false] 26 205)
   have HEX:=kp (And.intro hex (And.intro hfit hK))
   have HIH:=kp (fun (y:Nd) (hy:y∈x.kids) (A:Option Addr) (c:Nat) (w:World) (hk:NdsAt w A y.kids)=>ih y (by have:=szT_kid hy;omega) (by omega) (ex_kid hex hy) (by obtain ⟨i,hi⟩:=List.getElem?_of_mem hy;exact hfit.kid hi) A c w hk)
   clear ih hK hex hfit
   go_enter Tryz.func170,Tryz.ntmps170
   go_upto_region 1 with fail
   generalize World.alloc _ _=V at HT ⊢
   have HC:=kp (each_any (cap:=ca) hl HIH.out (HEX.out.2.2.mono HT.out.1))
   obtain ⟨a0,a1,a2,a3,_⟩:=HT.out.2.1.four
   have hla:=HT.out.2.1.lt
   go_wp2_with fail
   (with_reducible refine Calls.mono HC.out ?_)
   rintro e w1 ⟨v1,fs,rfl,hfl,hown,hinr,hb1⟩
   obtain ⟨A1,c1,rfl,hfds⟩:=fds_own hown
   have HW1:=kp (bls HT.out.1 HT.out.1.size hb1)
   have HX1:=kp (HT.out.2.1.below hb1)
   have HR1:=kp (HT.out.2.2.below hb1)
   have HC2:=kp (fvalue_any (A:=A) (ca:=ca) (cb:=c1) HEX.out.1 HEX.out.2.1 hfl hinr hl hfds)
   have HFD:=kp hfds
   have HFL:=kp (show fs.length≤100000 by omega)
   clear a0 a1 a2 a3 hla hb1 hown hfds hinr hfl
   obtain ⟨a0,a1,a2,a3,_⟩:=HX1.out.four
   have hla:=HX1.out.lt
   go_wp2_with fail
   (with_reducible refine Calls.mono HC2.out ?_)
   rintro e w2 ⟨v,b,rfl,hv,hb2⟩
   have HW2:=kp (bls HW1.out HW1.out.size hb2)
   have HX2:=kp (HX1.out.below hb2)
   have HR2:=kp (HR1.out.below hb2)
   have HB2:=kp hb2
   clear a0 a1 a2 a3 hla hb2
   cases b with
   | true=>
     have HC3:=kp (literal_any v (hv rfl) w2)
     have HV:=kp (hv rfl)
     clear hv
     go_wp2_with fail
     (with_reducible refine Calls.mono HC3.out ?_)
     rintro e w3 ⟨k,nu,nm,A3,n3,c3,rfl,hb3⟩
     have HW3:=kp (bls HW2.out HW2.out.size hb3)
     have HR3:=kp (HR2.out.below hb3)
     clear hb3
     obtain ⟨⟨g0,g1,g2,g3,g4,g5⟩,f0,f1,f2,f3,f4,f5⟩:=HR3.out.six
     have hlg:=HR3.out.lt
     have HE:=kp (six_end HW3.out HR3.out (by omega) (.int .u8 k) (.int .i64 nu) (.string nm) (.slice A3 n3 c3) (.int .i64 v) (.bool true))
     go_wp2_with fail
     generalize World.setCell _ _ _=WF at HE ⊢
     obtain ⟨⟨d0,d1,d2,d3,d4,d5⟩,_⟩:=HE.out.1.six
     exact bodyPost_ret (v:=.agg #[.int .u8 k,.int .i64 nu,.string nm,.slice A3 n3 c3,.int .i64 v,.bool true]) (by simp [results,Tryz.results170,go_sem,d0,d1,d2,d3,d4,d5]) rfl ⟨_,_,_,_,_,_,_,_,rfl,fun _=>HV.out,HE.out.2⟩
   | false=>
     have HC3:=kp (each2_any (cap:=c1) HFL.out (HFD.out.mono HB2.out))
     clear hv
     go_wp2_with fail
     (with_reducible refine Calls.mono HC3.out ?_)
     rintro e w3 ⟨A3,n3,c3,rfl,hb3⟩
     have HW3:=kp (bls HW2.out HW2.out.size hb3)
     have HX3:=kp (HX2.out.below hb3)
     have HR3:=kp (HR2.out.below hb3)
     clear hb3
     obtain ⟨⟨g0,g1,g2,g3,g4,g5⟩,f0,f1,f2,f3,f4,f5⟩:=HR3.out.six
     have hlg:=HR3.out.lt
     obtain ⟨a0,a1,a2,a3,q0,q1,q2,q3⟩:=HX3.out.four
     have hla:=HX3.out.lt
     have hs:=Fr.of_set w3 ⟨w.heap.size,3,none⟩ (.slice A3 n3 c3)
     have HX4:=kp (show Bx (w3.setCell ⟨w.heap.size,3,none⟩ (.slice A3 n3 c3)) w.heap.size #[.int .u8 x.kind,.int .i64 x.num,.string x.name,.slice A3 n3 c3]∧Bx (w3.setCell ⟨w.heap.size,3,none⟩ (.slice A3 n3 c3)) (w.heap.size+1) #[.int .u8 0,.int .i64 0,.string ⟨#[]⟩,.slice none 0 0,.int .i64 0,.bool false]∧Below w.heap.size w (w3.setCell ⟨w.heap.size,3,none⟩ (.slice A3 n3 c3)) from ⟨HX3.out.set 3 _,HR3.out.fr hs (fun e=>by have e':w.heap.size+1=w.heap.size:=e;omega),hs.toBelow HW3.out HW3.out.size fun k e=>by have e':k=w.heap.size:=e;omega⟩)
     clear hs
     go_upto_region 6 with fail
     clear g0 g1 g2 g3 g4 g5 f0 f1 f2 f3 f4 f5 hlg a0 a1 a2 a3 q0 q1 q2 q3 hla
     generalize World.setCell _ _ _=W4 at HX4 ⊢
     obtain ⟨a0,a1,a2,a3,_⟩:=HX4.out.1.four
     have hla:=HX4.out.1.lt
     obtain ⟨⟨g0,g1,g2,g3,g4,g5⟩,f0,f1,f2,f3,f4,f5⟩:=HX4.out.2.1.six
     have hlg:=HX4.out.2.1.lt
     have HE:=kp (six_end HX4.out.2.2 HX4.out.2.1 (by omega) (.int .u8 x.kind) (.int .i64 x.num) (.string x.name) (.slice A3 n3 c3) (.int .i64 0) (.bool false))
     go_wp2_with fail
     generalize World.setCell _ _ _=WF at HE ⊢
     obtain ⟨⟨d0,d1,d2,d3,d4,d5⟩,_⟩:=HE.out.1.six
     exact bodyPost_ret (v:=.agg #[.int .u8 x.kind,.int .i64 x.num,.string x.name,.slice A3 n3 c3,.int .i64 0,.bool false]) (by simp [results,Tryz.results170,go_sem,d0,d1,d2,d3,d4,d5]) rfl ⟨_,_,_,_,_,_,_,_,rfl,(fun h=>by cases h),HE.out.2⟩
theorem const_any {x:Nd} (hx:szT x≤100000) (hfit:NdFit x) {A:Option Addr} {ca:Nat} {w:World} (hK:NdsAt w A x.kids):Calls Tryz.prog 149 #[.agg (ndC x A ca)] w (fun e w'=>∃ (v:Int) (b:Bool),e=.returned (.tuple #[.int .i64 v,.bool b])∧Below w.heap.size w w'):=by
 have HB:=kp (blb w (Obj.cells (ndC x A ca) 26))
 have HX:=kp (bxn w (ndC x A ca) 26)
 have HH:=kp (And.intro hx (And.intro hfit hK))
 clear hK hfit hx
 go_enter Tryz.func149,Tryz.ntmps149
 go_upto_region 1 with fail
 generalize w.alloc _=V at HB HX ⊢
 have HC:=kp (isExpr_any x HH.out.2.1 A ca V (HH.out.2.2.mono HB.out))
 obtain ⟨a0,a1,a2,a3,_⟩:=HX.out.four
 have hla:=HX.out.lt
 go_wp2_with fail
 (with_reducible refine Calls.mono HC.out ?_)
 rintro e w1 ⟨rfl,hb1⟩
 have HW1:=kp (bls HB.out HB.out.size hb1)
 have HX1:=kp (HX.out.below hb1)
 have HK1:=kp ((HH.out.2.2.mono HB.out).mono hb1)
 clear a0 a1 a2 a3 hla hb1
 generalize hb:isExT x=b
 cases b with
 | false=>
   clear hb
   go_wp2_with fail
   go_ret2
   exact ⟨_,_,rfl,HW1.out⟩
 | true=>
   have HC2:=kp (fold_any 100000 x HH.out.1 (Nat.le_refl _) hb HH.out.2.1 A ca w1 HK1.out)
   clear hb
   obtain ⟨a0,a1,a2,a3,_⟩:=HX1.out.four
   have hla:=HX1.out.lt
   go_wp2_with fail
   (with_reducible refine Calls.mono HC2.out ?_)
   rintro e w2 ⟨k,nu,nm,A2,n2,c2,v,b2,rfl,_,hb2⟩
   have HB3:=kp (bls (bls HW1.out HW1.out.size hb2) (Nat.le_trans HW1.out.size hb2.size) (blb w2 (Obj.cells #[.int .u8 k,.int .i64 nu,.string nm,.slice A2 n2 c2,.int .i64 v,.bool b2] 205)))
   have HX3:=kp (bxn w2 #[.int .u8 k,.int .i64 nu,.string nm,.slice A2 n2 c2,.int .i64 v,.bool b2] 205)
   clear a0 a1 a2 a3 hla hb2
   go_upto_region 4 with fail
   generalize w2.alloc _=V2 at HB3 HX3 ⊢
   obtain ⟨⟨d0,d1,d2,d3,d4,d5⟩,_⟩:=HX3.out.six
   have hlb:=HX3.out.lt
   have HW2:=kp (show Below w.heap.size w V2.drew from bld HB3.out)
   go_region_law fail
   all_goals
    go_wp2_with fail
    go_ret2
    exact ⟨_,_,rfl,HW2.out⟩
theorem constant_any {x:Nd} (hx:szT x≤100000) (hfit:NdFit x) {A:Option Addr} {ca:Nat} {w:World} (hK:NdsAt w A x.kids):Calls Tryz.prog 128 #[.agg (ndC x A ca)] w (fun e w'=>∃ b:Bool,e=.returned (.bool b)∧Below w.heap.size w w'):=by
 have HB:=kp (blb w (Obj.cells (ndC x A ca) 26))
 have HX:=kp (bxn w (ndC x A ca) 26)
 have HH:=kp hK
 clear hK
 go_enter Tryz.func128,Tryz.ntmps128
 go_upto_region 1 with fail
 generalize w.alloc _=V at HB HX ⊢
 have HC:=kp (const_any (ca:=ca) hx hfit (HH.out.mono HB.out))
 obtain ⟨a0,a1,a2,a3,_⟩:=HX.out.four
 have hla:=HX.out.lt
 go_wp2_with fail
 (with_reducible refine Calls.mono HC.out ?_)
 rintro e w1 ⟨v,b,rfl,hb1⟩
 have HW:=kp (bls HB.out HB.out.size hb1)
 clear hb1
 go_wp2_with fail
 go_ret
 exact ⟨_,rfl,HW.out⟩
theorem rej1_any (y:Nd) (A:Option Addr) (c b:Nat) (s:ByteArray) (w:World) (hb:w.cell? ⟨b,2,none⟩=some (.string s)):Calls Tryz.prog 127 #[.agg (ndC y A c),.pointer (some ⟨b,0,none⟩)] w (fun e w'=>e=.returned (.bool (decide (y.name=s)))∧Below w.heap.size w w'):=by
 have HB:=kp (blb w (Obj.cells (ndC y A c) 26))
 have HX:=kp (bxn w (ndC y A c) 26)
 have hs:=blc HB.out hb
 have hq:(y.name.toList == s.toList)=decide (y.name=s):=eqS_eq _ _
 clear hb
 go_enter Tryz.func127,Tryz.ntmps127
 go_upto_region 1 with fail
 generalize w.alloc _=V at HB HX hs ⊢
 obtain ⟨a0,a1,a2,a3,_⟩:=HX.out.four
 have hla:=HX.out.lt
 have hlb:=block_lt_of_cell hs
 go_wp2_with fail
 go_ret
 exact ⟨rfl,HB.out⟩
theorem indexF_any {l:List Nd} (hl:l.length≤1000000) {A:Option Addr} {cap b:Nat} {s:ByteArray} {w:World} (hK:NdsAt w A l) (hb:w.cell? ⟨b,2,none⟩=some (.string s)) :
  Calls Tryz.prog 148 #[.slice A l.length cap,.func (.func 127) #[] #[.pointer (some ⟨b,0,none⟩)]] w (fun e w'=>∃ r:Int,e=.returned (.int .i64 r)∧(r<0→∀ y∈l,y.name≠s)∧Below w.heap.size w w'):=by
 have HK:=kp (And.intro hK hb)
 clear hK hb
 go_enter Tryz.func148,Tryz.ntmps148
 go_upto_region 2 with fail
 go_loopw [8] (fun i wr=>∃ k:Nat,k≤l.length∧i=.int .i64 k∧Hid ((∀ y∈l.take k,y.name≠s)∧Below w.heap.size w wr)) (fun i _=>l.length - (intOf i).toNat)
 case atStart=>exact ⟨0,by omega,rfl,kp ⟨fun f h=>by simp at h,Below.refl _ _⟩⟩
 case round=>
  obtain ⟨k,hk,rfl,HR⟩:=hrel
  by_cases hin:k<l.length
  ·obtain ⟨bk,ok,A',cap',rfl,hbk,k0,k1,k2,k3,hKK⟩:=(HK.out.1.mono HR.out.2).kid hin
   have r0:(0:Int)≤k:=by omega
   have r1:(k:Int)<l.length:=by omega
   have HTK:=kp (fun (q:l[k].name≠s)=>show ∀ y∈l.take (k+1),y.name≠s from fun f hf=>by
    rw [List.take_succ_eq_append_getElem hin,List.mem_append,List.mem_singleton] at hf
    rcases hf with hf | rfl
    ·exact HR.out.1 f hf
    ·exact q)
   have HC:=kp (rej1_any l[k] A' cap' b s wr (blc HR.out.2 HK.out.2))
   clear hKK
   generalize l[k]=y at *
   go_wp2_with fail
   (with_reducible refine Calls.mono HC.out ?_)
   rintro e w1 ⟨rfl,hb1⟩
   have HW:=kp (bls HR.out.2 HR.out.2.size hb1)
   clear hb1
   by_cases hn:y.name=s
   ·rw [decide_eq_true hn]
    have HX:=kp (show ∃ r:Int,Ending.returned (.int .i64 (k:Int))=.returned (.int .i64 r)∧(r<0→∀ y∈l,y.name≠s)∧Below w.heap.size w w1 from ⟨k,rfl,fun h=>by omega,HW.out⟩)
    clear hn
    go_wp2_with fail
    go_ret
    exact HX.out
   ·rw [decide_eq_false hn]
    have HX:=kp (And.intro (HTK.out hn) HW.out)
    clear hn
    go_wp2_with fail
    exact ⟨⟨k+1,by omega,by go_num,HX⟩,by simp [intOf];omega⟩
  ·obtain rfl:k=l.length:=by omega
   have HX:=kp (show ∃ r:Int,Ending.returned (.int .i64 (-1))=.returned (.int .i64 r)∧(r<0→∀ y∈l,y.name≠s)∧Below w.heap.size w wr from ⟨-1,rfl,fun _=>by have:=HR.out.1;rw [List.take_length] at this;exact this,HR.out.2⟩)
   go_wp2_with fail
   go_ret
   exact HX.out
theorem containsF_any {l:List Nd} (hl:l.length≤1000000) {A:Option Addr} {cap b:Nat} {s:ByteArray} {w:World} (hK:NdsAt w A l) (hb:w.cell? ⟨b,2,none⟩=some (.string s)) :
  Calls Tryz.prog 126 #[.slice A l.length cap,.func (.func 127) #[] #[.pointer (some ⟨b,0,none⟩)]] w (fun e w'=>∃ r:Bool,e=.returned (.bool r)∧(r=false→∀ y∈l,y.name≠s)∧Below w.heap.size w w'):=by
 have HC:=kp (indexF_any (cap:=cap) hl hK hb)
 clear hK hb
 go_enter Tryz.func126,Tryz.ntmps126
 go_wp2_with fail
 (with_reducible refine Calls.mono HC.out ?_)
 rintro e w1 ⟨r,rfl,h1,h2⟩
 have HX:=kp (And.intro h1 h2)
 clear h1 h2
 go_wp2_with fail
 go_ret
 exact ⟨_,rfl,fun h=>HX.out.1 (by simpa using h),HX.out.2⟩
structure RjPre (x:Nd):Prop where
 sz:szT x≤100000
 dp:dpT x≤1000
 fit:NdFit x
 one:x.kind=56∨(40≤x.kind∧x.kind≤49)∨x.kind=53→0<x.kids.length
 two:40≤x.kind∧x.kind≤43→2≤x.kids.length
 four:x.kind=52→4≤x.kids.length
 ix:∀ y∈x.kids,y.kind=3→1≤y.kids.length
theorem RjPre.kid {x y:Nd} (h:RjPre x) (hy:y∈x.kids):szT y≤100000∧dpT y≤1000∧(y.kind=3→1≤y.kids.length):=⟨by have:=szT_kid hy;have:=h.sz;omega,by have:=dpT_kid hy;have:=h.dp;omega,h.ix y hy⟩
def RejP (x:Nd) (w:World) (e:Ending) (w':World):Prop:=∃ (s:ByteArray) (er:Int),e=.returned (.tuple #[.string s,.int .i64 er])∧(er=0→rjB x=true)∧Below w.heap.size w w'
theorem two_kids {w:World} {A:Option Addr} {l:List Nd} (h:NdsAt w A l) (hl:2≤l.length):∃ b o A0 c0 A1 c1,A=some ⟨b,o,none⟩∧b<w.heap.size∧w.cell? ⟨b,o,none⟩=some (.int .u8 l[0].kind)∧w.cell? ⟨b,o+1,none⟩=some (.int .i64 l[0].num)∧w.cell? ⟨b,o+2,none⟩=some (.string l[0].name)∧w.cell? ⟨b,o+3,none⟩=some (.slice A0 l[0].kids.length c0)∧NdsAt w A0 l[0].kids∧w.cell? ⟨b,o+4,none⟩=some (.int .u8 l[1].kind)∧w.cell? ⟨b,o+4+1,none⟩=some (.int .i64 l[1].num)∧w.cell? ⟨b,o+4+2,none⟩=some (.string l[1].name)∧w.cell? ⟨b,o+4+3,none⟩=some (.slice A1 l[1].kids.length c1)∧NdsAt w A1 l[1].kids:=by
 obtain ⟨b,o,A0,c0,e,hb,k0,k1,k2,k3,hk⟩:=h.kid (show 0<l.length by omega)
 obtain ⟨b',o',A1,c1,e',hb',m0,m1,m2,m3,hm⟩:=h.kid (show 1<l.length by omega)
 rw [e] at e'
 injection e' with e'
 injection e' with q1 q2
 subst q1 q2
 rw [Nat.zero_mul,Nat.add_zero] at k0 k1 k2 k3
 rw [Nat.one_mul] at m0 m1 m2 m3
 exact ⟨b,o,A0,c0,A1,c1,e,hb,k0,k1,k2,k3,hk,m0,m1,m2,m3,hm⟩
theorem rej_56 {x:Nd} (hk:x.kind=56) (hp:RjPre x) {A:Option Addr} {ca:Nat} {w:World} (hK:NdsAt w A x.kids):Calls Tryz.prog 91 #[.agg (ndC x A ca)] w (RejP x w):=by
 have HP:=kp hp
 have HB:=kp (blb w (Obj.cells (ndC x A ca) 26))
 have HX:=kp (bxn w (ndC x A ca) 26)
 have HK:=kp (hK.mono HB.out)
 have e56:((x.kind:Int) == 56)=true:=by rw [hk];rfl
 have h0:=hp.one (by omega)
 clear hk
 clear hK hp
 go_enter Tryz.func91,Tryz.ntmps91
 go_upto_region 1 with fail
 generalize w.alloc _=V at HB HX HK ⊢
 obtain ⟨a0,a1,a2,a3,_⟩:=HX.out.four
 have hla:=HX.out.lt
 obtain ⟨bk,ok,A',c',rfl,hbk,k0,k1,k2,k3,hKK⟩:=HK.out.kid h0
 rw [Nat.zero_mul,Nat.add_zero] at k0 k1 k2 k3
 have r1:(0:Int)<x.kids.length:=by omega
 clear hKK
 generalize x.kids[0]=y at *
 go_wp2_with fail
 go_ret2
 exact ⟨_,_,rfl,by omega,HB.out⟩
theorem rej_40 {x:Nd} (hk:x.kind=40) (hp:RjPre x) {A:Option Addr} {ca:Nat} {w:World} (hK:NdsAt w A x.kids):Calls Tryz.prog 91 #[.agg (ndC x A ca)] w (RejP x w):=by
 have HP:=kp hp
 have HB:=kp (blb w (Obj.cells (ndC x A ca) 26))
 have HX:=kp (bxn w (ndC x A ca) 26)
 have HK:=kp (hK.mono HB.out)
 have e56:((x.kind:Int) == 56)=false:=by rw [hk];rfl
 have e40:((x.kind:Int) == 40)=true:=by rw [hk];rfl
 have h2:=hp.two (by omega)
 have HRJ:=kp (show rjB x=!(idxT x.kids[0] x.kids[0].name||mentT x.kids[0].name x.kids[1]) by rw [rjB,if_neg (by omega),if_pos (by omega),kid_eq (List.getElem?_eq_getElem (by omega:0<x.kids.length)),kid_eq (List.getElem?_eq_getElem (by omega:1<x.kids.length))])
 clear hk
 clear hK hp
 go_enter Tryz.func91,Tryz.ntmps91
 go_upto_region 1 with fail
 generalize w.alloc _=V at HB HX HK ⊢
 obtain ⟨a0,a1,a2,a3,_⟩:=HX.out.four
 have hla:=HX.out.lt
 obtain ⟨bk,ok,A0,c0,A1,c1,rfl,hbk,k0,k1,k2,k3,hK0,m0,m1,m2,m3,hK1⟩:=two_kids HK.out h2
 have r1:(0:Int)<x.kids.length:=by omega
 have r2:(1:Int)<x.kids.length:=by omega
 have HS0:=kp (HP.out.kid (List.getElem_mem (by omega:0<x.kids.length)))
 have HS1:=kp (HP.out.kid (List.getElem_mem (by omega:1<x.kids.length)))
 have HC:=kp (indexed_any (s:=x.kids[0].name) (cap:=c0) HS0.out.1 HS0.out.2.1 HS0.out.2.2 hK0)
 have HC2:=kp (fun (w1:World) (hb:Below V.heap.size V w1)=>mentions_any (s:=x.kids[0].name) (cap:=c1) HS1.out.1 HS1.out.2.1 (hK1.mono hb))
 clear hK0 hK1
 generalize x.kids[0]=y0 at *
 generalize x.kids[1]=y1 at *
 go_wp2_with fail
 (with_reducible refine Calls.mono HC.out ?_)
 rintro e w1 ⟨rfl,hb1⟩
 have HW:=kp (bls HB.out HB.out.size hb1)
 have HC3:=kp (HC2.out w1 hb1)
 have a0:=blc hb1 a0
 have a1:=blc hb1 a1
 have a2:=blc hb1 a2
 have a3:=blc hb1 a3
 have k0:=blc hb1 k0
 have k1:=blc hb1 k1
 have k2:=blc hb1 k2
 have k3:=blc hb1 k3
 have m0:=blc hb1 m0
 have m1:=blc hb1 m1
 have m2:=blc hb1 m2
 have m3:=blc hb1 m3
 have hla:=block_lt_of_cell a0
 have hbk:=block_lt_of_cell k0
 clear hb1
 generalize idxT y0 y0.name=b1 at HRJ ⊢
 cases b1 with
 | true=>
   go_wp2_with fail
   go_ret2
   exact ⟨_,_,rfl,by omega,HW.out⟩
 | false=>
   go_wp2_with fail
   (with_reducible refine Calls.mono HC3.out ?_)
   rintro e w2 ⟨rfl,hb2⟩
   have HW2:=kp (bls HW.out HW.out.size hb2)
   clear hb2
   generalize mentT y0.name y1=b2 at HRJ ⊢
   cases b2 with
   | true=>
     go_wp2_with fail
     go_ret2
     exact ⟨_,_,rfl,by omega,HW2.out⟩
   | false=>
     go_wp2_with fail
     go_ret2
     exact ⟨_,_,rfl,fun _=>HRJ.out,HW2.out⟩
theorem rej_41 {x:Nd} (hk:x.kind=41) (hp:RjPre x) {A:Option Addr} {ca:Nat} {w:World} (hK:NdsAt w A x.kids):Calls Tryz.prog 91 #[.agg (ndC x A ca)] w (RejP x w):=by
 have HP:=kp hp
 have HB:=kp (blb w (Obj.cells (ndC x A ca) 26))
 have HX:=kp (bxn w (ndC x A ca) 26)
 have HK:=kp (hK.mono HB.out)
 have e56:((x.kind:Int) == 56)=false:=by rw [hk];rfl
 have e40:((x.kind:Int) == 40)=false:=by rw [hk];rfl
 have e41:((x.kind:Int) == 41)=true:=by rw [hk];rfl
 have h2:=hp.two (by omega)
 have HRJ:=kp (show rjB x=!(idxT x.kids[0] x.kids[0].name||mentT x.kids[0].name x.kids[1]) by rw [rjB,if_neg (by omega),if_pos (by omega),kid_eq (List.getElem?_eq_getElem (by omega:0<x.kids.length)),kid_eq (List.getElem?_eq_getElem (by omega:1<x.kids.length))])
 clear hk
 clear hK hp
 go_enter Tryz.func91,Tryz.ntmps91
 go_upto_region 1 with fail
 generalize w.alloc _=V at HB HX HK ⊢
 obtain ⟨a0,a1,a2,a3,_⟩:=HX.out.four
 have hla:=HX.out.lt
 obtain ⟨bk,ok,A0,c0,A1,c1,rfl,hbk,k0,k1,k2,k3,hK0,m0,m1,m2,m3,hK1⟩:=two_kids HK.out h2
 have r1:(0:Int)<x.kids.length:=by omega
 have r2:(1:Int)<x.kids.length:=by omega
 have HS0:=kp (HP.out.kid (List.getElem_mem (by omega:0<x.kids.length)))
 have HS1:=kp (HP.out.kid (List.getElem_mem (by omega:1<x.kids.length)))
 have HC:=kp (indexed_any (s:=x.kids[0].name) (cap:=c0) HS0.out.1 HS0.out.2.1 HS0.out.2.2 hK0)
 have HC2:=kp (fun (w1:World) (hb:Below V.heap.size V w1)=>mentions_any (s:=x.kids[0].name) (cap:=c1) HS1.out.1 HS1.out.2.1 (hK1.mono hb))
 clear hK0 hK1
 generalize x.kids[0]=y0 at *
 generalize x.kids[1]=y1 at *
 go_wp2_with fail
 (with_reducible refine Calls.mono HC.out ?_)
 rintro e w1 ⟨rfl,hb1⟩
 have HW:=kp (bls HB.out HB.out.size hb1)
 have HC3:=kp (HC2.out w1 hb1)
 have a0:=blc hb1 a0
 have a1:=blc hb1 a1
 have a2:=blc hb1 a2
 have a3:=blc hb1 a3
 have k0:=blc hb1 k0
 have k1:=blc hb1 k1
 have k2:=blc hb1 k2
 have k3:=blc hb1 k3
 have m0:=blc hb1 m0
 have m1:=blc hb1 m1
 have m2:=blc hb1 m2
 have m3:=blc hb1 m3
 have hla:=block_lt_of_cell a0
 have hbk:=block_lt_of_cell k0
 clear hb1
 generalize idxT y0 y0.name=b1 at HRJ ⊢
 cases b1 with
 | true=>
   go_wp2_with fail
   go_ret2
   exact ⟨_,_,rfl,by omega,HW.out⟩
 | false=>
   go_wp2_with fail
   (with_reducible refine Calls.mono HC3.out ?_)
   rintro e w2 ⟨rfl,hb2⟩
   have HW2:=kp (bls HW.out HW.out.size hb2)
   clear hb2
   generalize mentT y0.name y1=b2 at HRJ ⊢
   cases b2 with
   | true=>
     go_wp2_with fail
     go_ret2
     exact ⟨_,_,rfl,by omega,HW2.out⟩
   | false=>
     go_wp2_with fail
     go_ret2
     exact ⟨_,_,rfl,fun _=>HRJ.out,HW2.out⟩
theorem rej_42 {x:Nd} (hk:x.kind=42) (hp:RjPre x) {A:Option Addr} {ca:Nat} {w:World} (hK:NdsAt w A x.kids):Calls Tryz.prog 91 #[.agg (ndC x A ca)] w (RejP x w):=by
 have HP:=kp hp
 have HB:=kp (blb w (Obj.cells (ndC x A ca) 26))
 have HX:=kp (bxn w (ndC x A ca) 26)
 have HK:=kp (hK.mono HB.out)
 have e56:((x.kind:Int) == 56)=false:=by rw [hk];rfl
 have e40:((x.kind:Int) == 40)=false:=by rw [hk];rfl
 have e41:((x.kind:Int) == 41)=false:=by rw [hk];rfl
 have e42:((x.kind:Int) == 42)=true:=by rw [hk];rfl
 have h2:=hp.two (by omega)
 have HRJ:=kp (show rjB x=!(idxT x.kids[0] x.kids[0].name||mentT x.kids[0].name x.kids[1]) by rw [rjB,if_neg (by omega),if_pos (by omega),kid_eq (List.getElem?_eq_getElem (by omega:0<x.kids.length)),kid_eq (List.getElem?_eq_getElem (by omega:1<x.kids.length))])
 clear hk
 clear hK hp
 go_enter Tryz.func91,Tryz.ntmps91
 go_upto_region 1 with fail
 generalize w.alloc _=V at HB HX HK ⊢
 obtain ⟨a0,a1,a2,a3,_⟩:=HX.out.four
 have hla:=HX.out.lt
 obtain ⟨bk,ok,A0,c0,A1,c1,rfl,hbk,k0,k1,k2,k3,hK0,m0,m1,m2,m3,hK1⟩:=two_kids HK.out h2
 have r1:(0:Int)<x.kids.length:=by omega
 have r2:(1:Int)<x.kids.length:=by omega
 have HS0:=kp (HP.out.kid (List.getElem_mem (by omega:0<x.kids.length)))
 have HS1:=kp (HP.out.kid (List.getElem_mem (by omega:1<x.kids.length)))
 have HC:=kp (indexed_any (s:=x.kids[0].name) (cap:=c0) HS0.out.1 HS0.out.2.1 HS0.out.2.2 hK0)
 have HC2:=kp (fun (w1:World) (hb:Below V.heap.size V w1)=>mentions_any (s:=x.kids[0].name) (cap:=c1) HS1.out.1 HS1.out.2.1 (hK1.mono hb))
 clear hK0 hK1
 generalize x.kids[0]=y0 at *
 generalize x.kids[1]=y1 at *
 go_wp2_with fail
 (with_reducible refine Calls.mono HC.out ?_)
 rintro e w1 ⟨rfl,hb1⟩
 have HW:=kp (bls HB.out HB.out.size hb1)
 have HC3:=kp (HC2.out w1 hb1)
 have a0:=blc hb1 a0
 have a1:=blc hb1 a1
 have a2:=blc hb1 a2
 have a3:=blc hb1 a3
 have k0:=blc hb1 k0
 have k1:=blc hb1 k1
 have k2:=blc hb1 k2
 have k3:=blc hb1 k3
 have m0:=blc hb1 m0
 have m1:=blc hb1 m1
 have m2:=blc hb1 m2
 have m3:=blc hb1 m3
 have hla:=block_lt_of_cell a0
 have hbk:=block_lt_of_cell k0
 clear hb1
 generalize idxT y0 y0.name=b1 at HRJ ⊢
 cases b1 with
 | true=>
   go_wp2_with fail
   go_ret2
   exact ⟨_,_,rfl,by omega,HW.out⟩
 | false=>
   go_wp2_with fail
   (with_reducible refine Calls.mono HC3.out ?_)
   rintro e w2 ⟨rfl,hb2⟩
   have HW2:=kp (bls HW.out HW.out.size hb2)
   clear hb2
   generalize mentT y0.name y1=b2 at HRJ ⊢
   cases b2 with
   | true=>
     go_wp2_with fail
     go_ret2
     exact ⟨_,_,rfl,by omega,HW2.out⟩
   | false=>
     go_wp2_with fail
     go_ret2
     exact ⟨_,_,rfl,fun _=>HRJ.out,HW2.out⟩
end Go.Proofs.YtgbomnibedefoaaGreatDoor
