import Derived.Test.YtgbomnibedefoaaGreatDoorQa17
set_option maxRecDepth 100000
set_option maxHeartbeats 8000000
namespace Go.Proofs.YtgbomnibedefoaaGreatDoor
open Go.ChangeShapes Go.WideShapes Go.ChangeAt Go.RowKit Go.Sort
abbrev zNd:Value:=.agg #[.int .u8 0,.int .i64 0,.string ⟨#[]⟩,.slice none 0 0]
theorem make_nd (n:Nat) (hn:n≤1000000) (W:World):(Instr.makeSlice 24 (.int .i64 n) (.int .i64 n)).run Tryz.prog W=.ok (.slice (some ⟨W.heap.size,0,none⟩) n n) (W.alloc (.cells (madeCells zNd.cells (n*4)) 26)):=by
 obtain ⟨i0,hi0,hz0,hz1,hz2⟩:=info_parts info_nd
 have h:=run_make (P:=Tryz.prog) W 24 26 i0 zNd Tryz.underlying24 hi0 hz0 .i64 .i64 n n (by omega) (Int.le_refl _) (by rw [hz2];omega) (by omega)
 rw [hz1] at h
 simpa using h
structure IvR (w W1:World) (x:Nd) (A:Option Addr) (cap g mb:Nat):Prop where
 b:Below w.heap.size w W1
 bx:Bx W1 w.heap.size (ndC x A cap)
 br:Bx W1 (w.heap.size+1) #[.int .u8 0,.int .i64 0,.string ⟨#[]⟩,.slice none 0 0]
 bm:Bx W1 mb #[.int .u8 x.kind,.int .i64 x.num,.string x.name,.slice (some ⟨g,0,none⟩) x.kids.length x.kids.length]
 row:RowN W1 g W1.heap.size (List.replicate x.kids.length zeroNd)
 lg:w.heap.size+2≤g
 lm:w.heap.size+2≤mb
 ne:g≠mb
theorem ivr_one {w W:World} {x:Nd} {A:Option Addr} {cap:Nat} (HT:Below w.heap.size w W∧Bx W w.heap.size (ndC x A cap)∧Bx W (w.heap.size+1) #[.int .u8 0,.int .i64 0,.string ⟨#[]⟩,.slice none 0 0]) (hsz:W.heap.size=w.heap.size+2):IvR w ((W.alloc (Obj.cells (madeCells #[.int .u8 0,.int .i64 0,.string ⟨#[]⟩,.slice none 0 0] (x.kids.length*4)) 26)).alloc (Obj.cells #[.int .u8 x.kind,.int .i64 x.num,.string x.name,.slice (some ⟨w.heap.size+2,0,none⟩) x.kids.length x.kids.length] 26)).drew x A cap (w.heap.size+2) (w.heap.size+2+1):=by
 have h:=tw2 W (madeCells #[.int .u8 0,.int .i64 0,.string ⟨#[]⟩,.slice none 0 0] (x.kids.length*4)) #[.int .u8 x.kind,.int .i64 x.num,.string x.name,.slice (some ⟨w.heap.size+2,0,none⟩) x.kids.length x.kids.length] 26 26
 rw [hsz] at h
 obtain ⟨h1,h2,h3⟩:=h
 have h1':=h1.mono (Nat.le_of_eq hsz)
 exact ⟨bls HT.1 HT.1.size (bld h1'),HT.2.1.below (bld h1'),HT.2.2.below (bld h1'),h3.below (bld (Below.refl _ _)),RowN.made (h2.below (bld (Below.refl _ _))) rfl (by simp;omega) rfl,by omega,by omega,by omega⟩
theorem ivr_two {w W:World} {x:Nd} {A:Option Addr} {cap:Nat} (HT:Below w.heap.size w W∧Bx W w.heap.size (ndC x A cap)∧Bx W (w.heap.size+1) #[.int .u8 0,.int .i64 0,.string ⟨#[]⟩,.slice none 0 0]) (hsz:W.heap.size=w.heap.size+2):IvR w ((W.alloc (Obj.cells #[.int .u8 x.kind,.int .i64 x.num,.string x.name,.slice (some ⟨w.heap.size+2+1,0,none⟩) x.kids.length x.kids.length] 26)).alloc (Obj.cells (madeCells #[.int .u8 0,.int .i64 0,.string ⟨#[]⟩,.slice none 0 0] (x.kids.length*4)) 26)).drew x A cap (w.heap.size+2+1) (w.heap.size+2):=by
 have h:=tw2 W #[.int .u8 x.kind,.int .i64 x.num,.string x.name,.slice (some ⟨w.heap.size+2+1,0,none⟩) x.kids.length x.kids.length] (madeCells #[.int .u8 0,.int .i64 0,.string ⟨#[]⟩,.slice none 0 0] (x.kids.length*4)) 26 26
 rw [hsz] at h
 obtain ⟨h1,h2,h3⟩:=h
 have h1':=h1.mono (Nat.le_of_eq hsz)
 exact ⟨bls HT.1 HT.1.size (bld h1'),HT.2.1.below (bld h1'),HT.2.2.below (bld h1'),h2.below (bld (Below.refl _ _)),RowN.made (h3.below (bld (Below.refl _ _))) rfl (by simp;omega) rfl,by omega,by omega,by omega⟩
theorem inv_fin {w W1 Z:World} {x:Nd} {A:Option Addr} {cap g mb kd:Nat} {ys:List Nd} (h:IvR w W1 x A cap g mb) (hR:RowN Z g W1.heap.size ys) (hf:Fr W1 Z (fun j=>j=g∨j=mb)) (he:Bx Z (w.heap.size+1) #[.int .u8 0,.int .i64 0,.string ⟨#[]⟩,.slice none 0 0]) (hq:invT x=.mk kd x.num x.name ys∧ys.length=x.kids.length) :
  ∃ ZF,ZF=((((Z.setCell ⟨w.heap.size+1,0,none⟩ (.int .u8 kd)).setCell ⟨w.heap.size+1,1,none⟩ (.int .i64 x.num)).setCell ⟨w.heap.size+1,2,none⟩ (.string x.name)).setCell ⟨w.heap.size+1,3,none⟩ (.slice (some ⟨g,0,none⟩) x.kids.length x.kids.length))∧Bx ZF (w.heap.size+1) #[.int .u8 kd,.int .i64 x.num,.string x.name,.slice (some ⟨g,0,none⟩) x.kids.length x.kids.length]∧ClP (invT x) w (.returned (.agg #[.int .u8 kd,.int .i64 x.num,.string x.name,.slice (some ⟨g,0,none⟩) x.kids.length x.kids.length])) ZF:=by
 refine ⟨_,rfl,he.set4 _ _ _ _,?_⟩
 have hf4:=Fr.set4 Z (w.heap.size+1) (.int .u8 kd) (.int .i64 x.num) (.string x.name) (.slice (some ⟨g,0,none⟩) x.kids.length x.kids.length)
 have hb1:=h.br.lt
 have hlg:=h.lg
 have hlm:=h.lm
 have hR4:=hR.fr hf4 (fun k h1 h2 e=>by omega) (fun e=>by omega)
 obtain ⟨q1,q2⟩:=hq
 rw [q1]
 refine ⟨some ⟨g,0,none⟩,x.kids.length,?_,hR4.nds (by omega),⟨by show ys.length≤_;omega,fun e=>by cases e⟩,?_⟩
 ·show Ending.returned (.agg #[.int .u8 kd,.int .i64 x.num,.string x.name,.slice (some ⟨g,0,none⟩) x.kids.length x.kids.length])=.returned (.agg #[.int .u8 kd,.int .i64 x.num,.string x.name,.slice (some ⟨g,0,none⟩) ys.length x.kids.length])
  rw [q2]
 ·refine ((hf.mono (m':=fun j=>j=g∨j=mb∨j=w.heap.size+1) fun k _ e=>e.imp id .inl).trans hf4 ?_).toBelow h.b h.b.size fun k e=>?_
  ·intro k _ e;exact .inr (.inr e)
  ·rcases e with e | e | e<;>omega
def ivK (b:Bool) (x:Nd) (k:Nat):List Nd:=(x.kids.take k).map (invK1 b)++List.replicate (x.kids.length - k) zeroNd
theorem ivK_len (b:Bool) (x:Nd) {k:Nat} (h:k≤x.kids.length):(ivK b x k).length=x.kids.length:=by
 unfold ivK;rw [List.length_append,List.length_map,List.length_take,List.length_replicate];omega
theorem ivK_zero (b:Bool) (x:Nd):ivK b x 0=List.replicate x.kids.length zeroNd:=by unfold ivK;simp
theorem ivK_full (b:Bool) (x:Nd):ivK b x x.kids.length=x.kids.map (invK1 b):=by unfold ivK;simp
theorem ivK_step (b:Bool) (x:Nd) {k:Nat} (h:k<x.kids.length):(ivK b x k).set k (invK1 b x.kids[k])=ivK b x (k+1):=by
 unfold ivK
 have e1:x.kids.length - k=(x.kids.length - (k+1))+1:=by omega
 rw [e1,List.replicate_succ,List.set_append_right _ _ (by rw [List.length_map,List.length_take];omega),List.length_map,List.length_take,Nat.min_eq_left (by omega),Nat.sub_self,List.set_cons_zero,List.take_succ_eq_append_getElem h,List.map_append,List.append_assoc]
 rfl
theorem invert_any:∀ (N:Nat) (x:Nd),szT x≤N→N≤1000000→InvOk x→∀ (A:Option Addr) (cap:Nat) (w:World),NdsAt w A x.kids→Calls Tryz.prog 17 #[.agg (ndC x A cap),.bool false] w (ClP (invT x) w):=by
 intro N
 induction N with
 | zero=>intro x hx;have:=szT_pos x;omega
 | succ N ih=>
   intro x hx hN hok A cap w hK
   have hl:x.kids.length≤1000000:=by have:=szL_len x.kids;have:=szT_eq x;omega
   have HT:=kp (tw2 w (ndC x A cap) #[.int .u8 0,.int .i64 0,.string ⟨#[]⟩,.slice none 0 0] 26 26)
   have hsz:((w.alloc (Obj.cells (ndC x A cap) 26)).alloc (Obj.cells #[.int .u8 0,.int .i64 0,.string ⟨#[]⟩,.slice none 0 0] 26)).heap.size=w.heap.size+2:=by simp
   have HK:=kp (hK.mono HT.out.1)
   have HK0:=kp hK
   obtain ⟨b57,HB57⟩:∃ b,Hid (b=decide (x.kind=57)):=⟨_,kp rfl⟩
   have q57:((x.kind:Int) == 57)=b57:=by rw [HB57.out];exact beqD x.kind 57
   have HIH:=kp (fun (y:Nd) (hy:y∈x.kids)=>ih y (by have:=szT_kid hy;omega) (by omega))
   have HCL:=kp (fun (y:Nd) (hy:y∈x.kids)=>clone_any N y (by have:=szT_kid hy;omega) (by omega))
   have HOK:=kp hok
   have hmk:=make_nd x.kids.length hl
   clear hK ih hok
   go_enter Tryz.func17,Tryz.ntmps17
   go_upto_region 1 with fail
   generalize (w.alloc _).alloc _=W at HT HK hsz ⊢
   obtain ⟨a0,a1,a2,a3,_⟩:=HT.out.2.1.four
   have hla:=HT.out.2.1.lt
   go_cut [5,18,19] (fun p q r wc=>∃ g mb:Nat,p=.pointer (some ⟨mb,0,none⟩)∧q=.slice (some ⟨g,0,none⟩) x.kids.length x.kids.length∧r=.agg #[.int .u8 x.kind,.int .i64 x.num,.string x.name,.slice (some ⟨g,0,none⟩) x.kids.length x.kids.length]∧Hid (IvR w wc x A cap g mb))
   case first=>
    have H1:=kp (ivr_one HT.out hsz)
    have H2:=kp (ivr_two HT.out hsz)
    go_region
    all_goals
     go_simp
     go_wp2_with fail
     go_meet
     first
     | with_reducible exact ⟨_,_,rfl,rfl,rfl,H1⟩
     | with_reducible exact ⟨_,_,rfl,rfl,rfl,H2⟩
   case rest=>
    obtain ⟨g,mb,rfl,rfl,rfl,HI⟩:=hcut
    obtain ⟨W1,rfl⟩:∃ y,y=wc:=⟨_,rfl⟩
    have HKW:=kp (show NdsAt w A x.kids from HK0.out)
    clear HT HK hsz hmk
    obtain ⟨a0,a1,a2,a3,_⟩:=HI.out.bx.four
    have hla:=HI.out.bx.lt
    obtain ⟨m0,m1,m2,m3,_⟩:=HI.out.bm.four
    have hlm:=HI.out.bm.lt
    go_wp2_with fail
    go_loopw [23] (fun i wr=>∃ k:Nat,k≤x.kids.length∧i=.int .i64 k∧Hid (RowN wr g W1.heap.size (ivK b57 x k)∧Fr W1 wr (fun j=>j=g))) (fun i _=>x.kids.length - (intOf i).toNat)
    case atStart=>exact ⟨0,by omega,rfl,kp ⟨by rw [ivK_zero];exact HI.out.row,Fr.refl _ _⟩⟩
    case round=>
     obtain ⟨k,hk,rfl,HR⟩:=hrel
     clear a0 a1 a2 a3 hla m0 m1 m2 m3 hlm
     have HXW:=kp (HI.out.bx.fr HR.out.2 (fun e=>by have:=HI.out.lg;have e':w.heap.size=g:=e;omega))
     have HMW:=kp (HI.out.bm.fr HR.out.2 (fun e=>HI.out.ne e.symm))
     have HBW:=kp (show Below w.heap.size w wr from HR.out.2.toBelow HI.out.b HI.out.b.size fun j e=>by have:=HI.out.lg;omega)
     obtain ⟨a0,a1,a2,a3,_⟩:=HXW.out.four
     have hla:=HXW.out.lt
     obtain ⟨m0,m1,m2,m3,_,_,_,_⟩:=HMW.out.four
     have hlm:=HMW.out.lt
     by_cases hin:k<x.kids.length
     ·obtain ⟨bk,ok,A',cap',rfl,hbk,k0,k1,k2,k3,hKK⟩:=(HKW.out.mono HBW.out).kid hin
      have HST:=kp (ivK_step b57 x hin)
      have HY:=kp (List.getElem_mem hin)
      have r0:(0:Int)≤k:=by omega
      have r1:(k:Int)<x.kids.length:=by omega
      have HBX:=kp (blb wr (Obj.cells (ndC x.kids[k] A' cap') 26))
      have HRX:=kp (bxn wr (ndC x.kids[k] A' cap') 26)
      have HKK:=kp hKK
      clear hKK
      generalize x.kids[k]=y at *
      obtain ⟨by57,HY57⟩:∃ b,Hid (b=decide (y.kind=57)):=⟨_,kp rfl⟩
      have qy57:((y.kind:Int) == 57)=by57:=by rw [HY57.out];exact beqD y.kind 57
      obtain ⟨cb,HCB⟩:∃ b,Hid (b=(b57||by57)):=⟨_,kp rfl⟩
      go_upto_region 5 with fail
      generalize wr.alloc _=V at HBX HRX ⊢
      obtain ⟨b0,b1,b2,b3,_⟩:=HRX.out.four
      have hlb:=HRX.out.lt
      have HRV:=kp (HR.out.1.below HBX.out)
      have HXV:=kp (HXW.out.below HBX.out)
      have HMV:=kp (HMW.out.below HBX.out)
      clear a0 a1 a2 a3 hla m0 m1 m2 m3 hlm k0 k1 k2 k3 hbk
      obtain ⟨a0,a1,a2,a3,_⟩:=HXV.out.four
      have hla:=HXV.out.lt
      obtain ⟨m0,m1,m2,m3,_⟩:=HMV.out.four
      have hlm:=HMV.out.lt
      go_cut [35] (fun v wc=>v=.bool cb∧wc=V)
      case first=>
       cases b57<;>cases by57
       all_goals
        go_wp2_with fail
        go_meet
        exact ⟨by rw [HCB.out];rfl,rfl⟩
      obtain ⟨rfl,rfl⟩:=hcut
      have hbP:=Below.refl wc.heap.size wc
      have hVD:wc.heap.size≤wc.drew.heap.size:=(bld hbP).size
      have HZW:=kp (show W1.heap.size≤wc.heap.size from Nat.le_trans HR.out.2.size HBX.out.size)
      have HKV:=kp (fun (Y:World) (hY:Below wc.heap.size wc Y)=>HKK.out.mono (bls HBX.out HBX.out.size hY))
      have hlk:k<(ivK b57 x k).length:=by rw [ivK_len _ _ hk];exact hin
      obtain ⟨yo,HGK⟩:∃ yo,Hid ((ivK b57 x k)[k]?=some yo):=⟨_,kp (List.getElem?_eq_getElem hlk)⟩
      have hlgv:=HRV.out.glt
      have HNG:=kp (show mb≠g∧wr.heap.size≠g from ⟨fun e=>HI.out.ne e.symm,fun e=>by have:=HR.out.1.glt;omega⟩)
      have KS:=kp (fun (Y Z:World) (hY:Below wc.heap.size wc Y) (hf:Fr Y Z (fun j=>j=g))=>show Z.cell? ⟨mb,3,none⟩=some (.slice (some ⟨g,0,none⟩) x.kids.length x.kids.length)∧Z.cell? ⟨wr.heap.size,0,none⟩=some (.int .u8 y.kind)∧Z.cell? ⟨wr.heap.size,1,none⟩=some (.int .i64 y.num)∧Z.cell? ⟨wr.heap.size,2,none⟩=some (.string y.name)∧Z.cell? ⟨wr.heap.size,3,none⟩=some (.slice A' y.kids.length cap') from by
       have h1:=(HMV.out.below hY).fr hf HNG.out.1
       have h2:=(HRX.out.below hY).fr hf HNG.out.2
       exact ⟨h1.cell rfl,h2.cell rfl,h2.cell rfl,h2.cell rfl,h2.cell rfl⟩)
      have S9:=kp (KS.out wc.drew wc.drew (bld hbP) (Fr.refl _ _))
      obtain ⟨z,HZ⟩:∃ z,Hid (z=invK1 b57 y):=⟨_,kp rfl⟩
      have HST2:=kp (show (ivK b57 x k).set k z=ivK b57 x (k+1) from by rw [HZ.out];exact HST.out)
      have HGO:=kp (fun (Y:World) (A8:Option Addr) (c8:Nat) (hY:Below wc.heap.size wc Y) (hR:RowN Y g W1.heap.size (ivK b57 x k)) (hD:NdsD Y W1.heap.size Y.heap.size A8 z.kids)=>show RowN (setN Y g k z A8 c8) g W1.heap.size (ivK b57 x (k+1))∧Fr W1 (setN Y g k z A8 c8) (fun j=>j=g) from
        ⟨by rw [← HST2.out];exact hR.set hlk _ hD,((HR.out.2.trans (Fr.of_below (bls HBX.out HBX.out.size hY) _) fun _ _ e=>e).trans (Fr.setN Y g k _ A8 c8) fun _ _ e=>e)⟩)
      generalize hL1:ivK b57 x (k+1)=L1 at *
      have HL1:=kp hL1
      clear hL1
      generalize ivK b57 x k=L0 at *
      cases cb
      ·have hx57:¬ x.kind=57:=fun e=>by have h1:=HCB.out;rw [HB57.out,decide_eq_true e] at h1;simp at h1
       have hy57:¬ y.kind=57:=fun e=>by have h1:=HCB.out;rw [HY57.out,decide_eq_true e] at h1;simp at h1
       have HC:=kp (fun (Y:World) (hY:Below wc.heap.size wc Y)=>show Calls Tryz.prog 35 #[.agg (ndC y A' cap')] Y (ClP z Y) from by
        rw [HZ.out,show invK1 b57 y=y from if_neg (by rw [HB57.out];intro h;rcases h with h | h;exact hx57 (of_decide_eq_true h);exact hy57 h)]
        exact HCL.out y HY.out A' cap' Y (HKV.out Y hY))
       clear hx57 hy57
       go_upto_region 7 with fail
       go_region_held3 (fun w'=>w'.cell? ⟨mb,3,none⟩=some (.slice (some ⟨g,0,none⟩) x.kids.length x.kids.length)∧w'.cell? ⟨wr.heap.size,0,none⟩=some (.int .u8 y.kind)∧w'.cell? ⟨wr.heap.size,1,none⟩=some (.int .i64 y.num)∧w'.cell? ⟨wr.heap.size,2,none⟩=some (.string y.name)∧w'.cell? ⟨wr.heap.size,3,none⟩=some (.slice A' y.kids.length cap'))
        (first | exact S9.out | exact S8.out | exact S7.out | trivial)
        (first
        | (go_simp;go_at_call 35;(with_reducible refine Calls.mono (HC.out wc.drew (bld hbP)) ?_);rintro e w8 ⟨A8,c8,rfl,hd8,hs8,hb8⟩;have HB8:=kp (bls (bld hbP) hVD hb8);have HR8:=kp (HRV.out.below HB8.out);have HD8:=kp (hd8.wide (lo':=W1.heap.size) (Nat.le_trans HZW.out hVD) (Nat.le_refl _));obtain ⟨Ao,co,z0,z1,z2,z3,_,zf⟩:=HR8.out.get HGK.out;have hlg8:=HR8.out.glt;have S8:=kp (KS.out w8 w8 HB8.out (Fr.refl _ _));have S7:=kp (KS.out w8 _ HB8.out (Fr.setN w8 g k z A8 c8));unfold setN at S7;clear hd8 hs8 hb8;dsimp only)
        | fail)
       have HN:=kp (HGO.out w8 A8 c8 HB8.out HR8.out HD8.out)
       unfold setN at HN
       clear z0 z1 z2 z3 zf S7 S8 S9
       generalize World.setCell _ _ _=WN at HN ⊢
       go_wp2_with fail
       exact ⟨⟨k+1,by omega,by go_num,by rw [HL1.out];exact HN⟩,by simp [intOf];omega⟩
      ·have hor:x.kind=57∨y.kind=57:=by
        have h1:=HCB.out
        rw [HB57.out,HY57.out] at h1
        by_cases h2:x.kind=57
        ·exact .inl h2
        ·by_cases h3:y.kind=57
         ·exact .inr h3
         ·rw [decide_eq_false h2,decide_eq_false h3] at h1;cases h1
       have HC:=kp (fun (Y:World) (hY:Below wc.heap.size wc Y)=>show Calls Tryz.prog 17 #[.agg (ndC y A' cap'),.bool false] Y (ClP z Y) from by
        rw [HZ.out,show invK1 b57 y=invT y from if_pos (by rw [HB57.out];exact hor.imp (fun h=>decide_eq_true h) id)]
        exact HIH.out y HY.out (HOK.out.kid HY.out hor) A' cap' Y (HKV.out Y hY))
       clear hor
       go_upto_region 6 with fail
       go_region_held3 (fun w'=>w'.cell? ⟨mb,3,none⟩=some (.slice (some ⟨g,0,none⟩) x.kids.length x.kids.length)∧w'.cell? ⟨wr.heap.size,0,none⟩=some (.int .u8 y.kind)∧w'.cell? ⟨wr.heap.size,1,none⟩=some (.int .i64 y.num)∧w'.cell? ⟨wr.heap.size,2,none⟩=some (.string y.name)∧w'.cell? ⟨wr.heap.size,3,none⟩=some (.slice A' y.kids.length cap'))
        (first | exact S9.out | exact S8.out | exact S7.out | trivial)
        (first
        | (go_simp;go_at_call 17;(with_reducible refine Calls.mono (HC.out wc.drew (bld hbP)) ?_);rintro e w8 ⟨A8,c8,rfl,hd8,hs8,hb8⟩;have HB8:=kp (bls (bld hbP) hVD hb8);have HR8:=kp (HRV.out.below HB8.out);have HD8:=kp (hd8.wide (lo':=W1.heap.size) (Nat.le_trans HZW.out hVD) (Nat.le_refl _));obtain ⟨Ao,co,z0,z1,z2,z3,_,zf⟩:=HR8.out.get HGK.out;have hlg8:=HR8.out.glt;have S8:=kp (KS.out w8 w8 HB8.out (Fr.refl _ _));have S7:=kp (KS.out w8 _ HB8.out (Fr.setN w8 g k z A8 c8));unfold setN at S7;clear hd8 hs8 hb8;dsimp only)
        | fail)
       have HN:=kp (HGO.out w8 A8 c8 HB8.out HR8.out HD8.out)
       unfold setN at HN
       clear z0 z1 z2 z3 zf S7 S8 S9
       generalize World.setCell _ _ _=WN at HN ⊢
       go_wp2_with fail
       exact ⟨⟨k+1,by omega,by go_num,by rw [HL1.out];exact HN⟩,by simp [intOf];omega⟩
     ·obtain rfl:k=x.kids.length:=by omega
      have HRL:=kp (show RowN wr g W1.heap.size (x.kids.map (invK1 b57)) from by rw [← ivK_full];exact HR.out.1)
      have HFL:=kp HR.out.2
      clear HR
      have HXW:=kp (HI.out.bx.fr HFL.out (fun e=>by have:=HI.out.lg;have e':w.heap.size=g:=e;omega))
      have HMW:=kp (HI.out.bm.fr HFL.out (fun e=>HI.out.ne e.symm))
      have HEW:=kp (HI.out.br.fr HFL.out (fun e=>by have:=HI.out.lg;have e':w.heap.size+1=g:=e;omega))
      clear a0 a1 a2 a3 hla m0 m1 m2 m3 hlm
      obtain ⟨a0,a1,a2,a3,_⟩:=HXW.out.four
      have hla:=HXW.out.lt
      obtain ⟨m0,m1,m2,m3,mf0,mf1,mf2,mf3⟩:=HMW.out.four
      have hlm:=HMW.out.lt
      rcases (show x.kind=57∨x.kind=52∨x.kind=53∨x.kind=54∨x.kind=50∨x.kind=51∨(x.kind≠57∧x.kind≠52∧x.kind≠53∧x.kind≠54∧x.kind≠50∧x.kind≠51) by omega) with hk | hk | hk | hk | hk | hk | hk
      ·have HKD:=kp hk
       obtain rfl:b57=true:=by rw [HB57.out];exact decide_eq_true hk
       clear hk
       have HRV:=kp (show Calls Tryz.prog 36 #[.slice (some ⟨g,0,none⟩) x.kids.length x.kids.length] wr fun e w'=>e=.returned (.tuple #[])∧RowN w' g W1.heap.size (x.kids.map (invK1 true)).reverse∧Fr wr w' (fun k=>k=g) from by
        have h:=rev_any (x.kids.map (invK1 true)) (by rw [List.length_map];exact hl) g W1.heap.size x.kids.length wr HRL.out
        rw [List.length_map] at h
        exact h)
       go_wp2_with fail
       refine HRV.out.mono ?_
       rintro e w5 ⟨rfl,hr5,hf5⟩
       have HZR:=kp hr5
       have HZF:=kp ((HFL.out.trans hf5 fun _ _ e=>e).mono (m':=fun j=>j=g∨j=mb) fun _ _ e=>.inl e)
       have HZM:=kp (HMW.out.fr hf5 (fun e=>HI.out.ne e.symm))
       have HZE:=kp (HEW.out.fr hf5 (fun e=>by have:=HI.out.lg;have e':w.heap.size+1=g:=e;omega))
       have HQ:=kp (show invT x=.mk x.kind x.num x.name (x.kids.map (invK1 true)).reverse∧((x.kids.map (invK1 true)).reverse).length=x.kids.length from ⟨by rw [invT_eq,if_pos HKD.out],by simp⟩)
       clear hr5 hf5 a0 a1 a2 a3 hla m0 m1 m2 m3 mf0 mf1 mf2 mf3 hlm
       obtain ⟨m0,m1,m2,m3,_⟩:=HZM.out.four
       have hlm:=HZM.out.lt
       obtain ⟨e0,e1,e2,e3,ef0,ef1,ef2,ef3⟩:=HZE.out.four
       have hle:=HZE.out.lt
       have HF:=kp (inv_fin HI.out HZR.out HZF.out HZE.out HQ.out)
       go_wp2_with fail
       obtain ⟨ZF,hz,hb,hret⟩:=HF.out
       rw [← hz]
       obtain ⟨g0,g1,g2,g3,_⟩:=hb.four
       exact bodyPost_ret (v:=.agg #[.int .u8 x.kind,.int .i64 x.num,.string x.name,.slice (some ⟨g,0,none⟩) x.kids.length x.kids.length]) (by simp [results,Tryz.results17,go_sem,g0,g1,g2,g3]) rfl hret
      ·have HKD:=kp hk
       obtain rfl:b57=false:=by rw [HB57.out];exact decide_eq_false (by omega)
       have q52:((x.kind:Int) == 52)=true:=by rw [HKD.out];rfl
       have q53:((x.kind:Int) == 53)=false:=beqF (b:=53) (by have:=HKD.out;omega)
       have q54:((x.kind:Int) == 54)=false:=beqF (b:=54) (by have:=HKD.out;omega)
       have q50:((x.kind:Int) == 50)=false:=beqF (b:=50) (by have:=HKD.out;omega)
       have q51:((x.kind:Int) == 51)=false:=beqF (b:=51) (by have:=HKD.out;omega)
       have HL3:=kp (HOK.out.two (by omega))
       clear hk
       obtain ⟨m,hm⟩:∃ m:Nat,(x.kids.length:Int) - 1=(m:Int):=⟨x.kids.length - 1,by have:=HL3.out;omega⟩
       have HM:=kp hm
       have hml:m<(x.kids.map (invK1 false)).length:=by rw [List.length_map];have:=HL3.out;omega
       have h0l:0<(x.kids.map (invK1 false)).length:=by rw [List.length_map];have:=HL3.out;omega
       obtain ⟨a,HA⟩:∃ a,Hid ((x.kids.map (invK1 false))[0]?=some a):=⟨_,kp (List.getElem?_eq_getElem h0l)⟩
       obtain ⟨b,HB⟩:∃ b,Hid ((x.kids.map (invK1 false))[m]?=some b):=⟨_,kp (List.getElem?_eq_getElem hml)⟩
       obtain ⟨Aa,ca,x0,x1,x2,x3,xd,hfz⟩:=HRL.out.get HA.out
       obtain ⟨Ab,cb,y0,y1,y2,y3,yd,_⟩:=HRL.out.get HB.out
       rw [Nat.zero_mul] at x0 x1 x2 x3
       rw [Nat.zero_add] at x1 x2 x3
       have HD:=kp (And.intro xd yd)
       have hlg:=HRL.out.glt
       have r2:(0:Int)≤m:=by omega
       have r3:(m:Int)<x.kids.length:=by omega
       have r5:(0:Int)<x.kids.length:=by omega
       have r6:0<m:=by have:=HL3.out;omega
       have r7:m≠0:=by omega
       have hgm:g≠mb:=HI.out.ne
       have hmg:mb≠g:=fun e=>HI.out.ne e.symm
       have HSW:=kp (show swapFL (x.kids.map (invK1 false))=((x.kids.map (invK1 false)).set 0 b).set m a from by
        unfold swapFL
        rw [List.head?_eq_getElem?,HA.out,List.getLast?_eq_getElem?,show (x.kids.map (invK1 false)).length - 1=m by rw [List.length_map];have:=HM.out;omega,HB.out])
       go_upto_region 10 with fail
       clear hm xd yd
       go_upto_region 17 with fail
       go_region
       all_goals
        have HN:=kp (show RowN (setN (setN wr g 0 b Ab cb) g m a Aa ca).drew g W1.heap.size (swapFL (x.kids.map (invK1 false)))∧Fr wr (setN (setN wr g 0 b Ab cb) g m a Aa ca).drew (fun k=>k=g) from by
         have h1:=HRL.out.set h0l b (c:=cb) HD.out.2
         have hf:=Fr.setN wr g 0 b Ab cb
         have hlt:=HRL.out.lt
         have h2:=h1.set (i:=m) (c:=ca) (by rw [List.length_set];exact hml) a ((HD.out.1.move fun j hj hj2=>hf.block j hj2 (by omega)).wide (Nat.le_refl _) hf.size)
         rw [← HSW.out] at h2
         exact ⟨h2.below (bld (Below.refl _ _)),(hf.trans (Fr.setN _ g m a Aa ca) fun _ _ e=>e).trans (Fr.of_below (bld (Below.refl _ _)) _) fun _ _ e=>e⟩)
        unfold setN at HN
        rw [Nat.zero_mul,Nat.zero_add,Nat.zero_add,Nat.zero_add] at HN
        clear x0 x1 x2 x3 y0 y1 y2 y3 hfz
        generalize World.drew _=w5 at HN ⊢
        have HZR:=kp HN.out.1
        have HZF:=kp ((HFL.out.trans HN.out.2 fun _ _ e=>e).mono (m':=fun j=>j=g∨j=mb) fun _ _ e=>.inl e)
        have HZM:=kp (HMW.out.fr HN.out.2 (fun e=>HI.out.ne e.symm))
        have HZE:=kp (HEW.out.fr HN.out.2 (fun e=>by have:=HI.out.lg;have e':w.heap.size+1=g:=e;omega))
        have HQ:=kp (show invT x=.mk x.kind x.num x.name (swapFL (x.kids.map (invK1 false)))∧(swapFL (x.kids.map (invK1 false))).length=x.kids.length from ⟨by rw [invT_eq,if_neg (by have:=HKD.out;omega),if_pos (by have:=HKD.out;omega)],by rw [HSW.out];simp⟩)
        clear a0 a1 a2 a3 hla m0 m1 m2 m3 mf0 mf1 mf2 mf3 hlm
        obtain ⟨m0,m1,m2,m3,_⟩:=HZM.out.four
        have hlm:=HZM.out.lt
        obtain ⟨e0,e1,e2,e3,ef0,ef1,ef2,ef3⟩:=HZE.out.four
        have hle:=HZE.out.lt
        have HF:=kp (inv_fin HI.out HZR.out HZF.out HZE.out HQ.out)
        go_wp2_with fail
        obtain ⟨ZF,hz,hb,hret⟩:=HF.out
        rw [← hz]
        obtain ⟨g0,g1,g2,g3,_⟩:=hb.four
        exact bodyPost_ret (v:=.agg #[.int .u8 x.kind,.int .i64 x.num,.string x.name,.slice (some ⟨g,0,none⟩) x.kids.length x.kids.length]) (by simp [results,Tryz.results17,go_sem,g0,g1,g2,g3]) rfl hret
      ·have HKD:=kp hk
       obtain rfl:b57=false:=by rw [HB57.out];exact decide_eq_false (by omega)
       have q52:((x.kind:Int) == 52)=false:=beqF (b:=52) (by have:=HKD.out;omega)
       have q53:((x.kind:Int) == 53)=true:=by rw [HKD.out];rfl
       have q54:((x.kind:Int) == 54)=false:=beqF (b:=54) (by have:=HKD.out;omega)
       have q50:((x.kind:Int) == 50)=false:=beqF (b:=50) (by have:=HKD.out;omega)
       have q51:((x.kind:Int) == 51)=false:=beqF (b:=51) (by have:=HKD.out;omega)
       have HL3:=kp (HOK.out.two (by omega))
       clear hk
       obtain ⟨m,hm⟩:∃ m:Nat,(x.kids.length:Int) - 1=(m:Int):=⟨x.kids.length - 1,by have:=HL3.out;omega⟩
       have HM:=kp hm
       have hml:m<(x.kids.map (invK1 false)).length:=by rw [List.length_map];have:=HL3.out;omega
       have h0l:0<(x.kids.map (invK1 false)).length:=by rw [List.length_map];have:=HL3.out;omega
       obtain ⟨a,HA⟩:∃ a,Hid ((x.kids.map (invK1 false))[0]?=some a):=⟨_,kp (List.getElem?_eq_getElem h0l)⟩
       obtain ⟨b,HB⟩:∃ b,Hid ((x.kids.map (invK1 false))[m]?=some b):=⟨_,kp (List.getElem?_eq_getElem hml)⟩
       obtain ⟨Aa,ca,x0,x1,x2,x3,xd,hfz⟩:=HRL.out.get HA.out
       obtain ⟨Ab,cb,y0,y1,y2,y3,yd,_⟩:=HRL.out.get HB.out
       rw [Nat.zero_mul] at x0 x1 x2 x3
       rw [Nat.zero_add] at x1 x2 x3
       have HD:=kp (And.intro xd yd)
       have hlg:=HRL.out.glt
       have r2:(0:Int)≤m:=by omega
       have r3:(m:Int)<x.kids.length:=by omega
       have r5:(0:Int)<x.kids.length:=by omega
       have r6:0<m:=by have:=HL3.out;omega
       have r7:m≠0:=by omega
       have hgm:g≠mb:=HI.out.ne
       have hmg:mb≠g:=fun e=>HI.out.ne e.symm
       have HSW:=kp (show swapFL (x.kids.map (invK1 false))=((x.kids.map (invK1 false)).set 0 b).set m a from by
        unfold swapFL
        rw [List.head?_eq_getElem?,HA.out,List.getLast?_eq_getElem?,show (x.kids.map (invK1 false)).length - 1=m by rw [List.length_map];have:=HM.out;omega,HB.out])
       go_upto_region 10 with fail
       clear hm xd yd
       go_upto_region 17 with fail
       go_region
       all_goals
        have HN:=kp (show RowN (setN (setN wr g 0 b Ab cb) g m a Aa ca).drew g W1.heap.size (swapFL (x.kids.map (invK1 false)))∧Fr wr (setN (setN wr g 0 b Ab cb) g m a Aa ca).drew (fun k=>k=g) from by
         have h1:=HRL.out.set h0l b (c:=cb) HD.out.2
         have hf:=Fr.setN wr g 0 b Ab cb
         have hlt:=HRL.out.lt
         have h2:=h1.set (i:=m) (c:=ca) (by rw [List.length_set];exact hml) a ((HD.out.1.move fun j hj hj2=>hf.block j hj2 (by omega)).wide (Nat.le_refl _) hf.size)
         rw [← HSW.out] at h2
         exact ⟨h2.below (bld (Below.refl _ _)),(hf.trans (Fr.setN _ g m a Aa ca) fun _ _ e=>e).trans (Fr.of_below (bld (Below.refl _ _)) _) fun _ _ e=>e⟩)
        unfold setN at HN
        rw [Nat.zero_mul,Nat.zero_add,Nat.zero_add,Nat.zero_add] at HN
        clear x0 x1 x2 x3 y0 y1 y2 y3 hfz
        generalize World.drew _=w5 at HN ⊢
        have HZR:=kp HN.out.1
        have HZF:=kp ((HFL.out.trans HN.out.2 fun _ _ e=>e).mono (m':=fun j=>j=g∨j=mb) fun _ _ e=>.inl e)
        have HZM:=kp (HMW.out.fr HN.out.2 (fun e=>HI.out.ne e.symm))
        have HZE:=kp (HEW.out.fr HN.out.2 (fun e=>by have:=HI.out.lg;have e':w.heap.size+1=g:=e;omega))
        have HQ:=kp (show invT x=.mk x.kind x.num x.name (swapFL (x.kids.map (invK1 false)))∧(swapFL (x.kids.map (invK1 false))).length=x.kids.length from ⟨by rw [invT_eq,if_neg (by have:=HKD.out;omega),if_pos (by have:=HKD.out;omega)],by rw [HSW.out];simp⟩)
        clear a0 a1 a2 a3 hla m0 m1 m2 m3 mf0 mf1 mf2 mf3 hlm
        obtain ⟨m0,m1,m2,m3,_⟩:=HZM.out.four
        have hlm:=HZM.out.lt
        obtain ⟨e0,e1,e2,e3,ef0,ef1,ef2,ef3⟩:=HZE.out.four
        have hle:=HZE.out.lt
        have HF:=kp (inv_fin HI.out HZR.out HZF.out HZE.out HQ.out)
        go_wp2_with fail
        obtain ⟨ZF,hz,hb,hret⟩:=HF.out
        rw [← hz]
        obtain ⟨g0,g1,g2,g3,_⟩:=hb.four
        exact bodyPost_ret (v:=.agg #[.int .u8 x.kind,.int .i64 x.num,.string x.name,.slice (some ⟨g,0,none⟩) x.kids.length x.kids.length]) (by simp [results,Tryz.results17,go_sem,g0,g1,g2,g3]) rfl hret
      ·have HKD:=kp hk
       obtain rfl:b57=false:=by rw [HB57.out];exact decide_eq_false (by omega)
       have q52:((x.kind:Int) == 52)=false:=beqF (b:=52) (by have:=HKD.out;omega)
       have q53:((x.kind:Int) == 53)=false:=beqF (b:=53) (by have:=HKD.out;omega)
       have q54:((x.kind:Int) == 54)=true:=by rw [HKD.out];rfl
       have q50:((x.kind:Int) == 50)=false:=beqF (b:=50) (by have:=HKD.out;omega)
       have q51:((x.kind:Int) == 51)=false:=beqF (b:=51) (by have:=HKD.out;omega)
       have HL3:=kp (HOK.out.two (by omega))
       clear hk
       obtain ⟨m,hm⟩:∃ m:Nat,(x.kids.length:Int) - 1=(m:Int):=⟨x.kids.length - 1,by have:=HL3.out;omega⟩
       have HM:=kp hm
       have hml:m<(x.kids.map (invK1 false)).length:=by rw [List.length_map];have:=HL3.out;omega
       have h0l:0<(x.kids.map (invK1 false)).length:=by rw [List.length_map];have:=HL3.out;omega
       obtain ⟨a,HA⟩:∃ a,Hid ((x.kids.map (invK1 false))[0]?=some a):=⟨_,kp (List.getElem?_eq_getElem h0l)⟩
       obtain ⟨b,HB⟩:∃ b,Hid ((x.kids.map (invK1 false))[m]?=some b):=⟨_,kp (List.getElem?_eq_getElem hml)⟩
       obtain ⟨Aa,ca,x0,x1,x2,x3,xd,hfz⟩:=HRL.out.get HA.out
       obtain ⟨Ab,cb,y0,y1,y2,y3,yd,_⟩:=HRL.out.get HB.out
       rw [Nat.zero_mul] at x0 x1 x2 x3
       rw [Nat.zero_add] at x1 x2 x3
       have HD:=kp (And.intro xd yd)
       have hlg:=HRL.out.glt
       have r2:(0:Int)≤m:=by omega
       have r3:(m:Int)<x.kids.length:=by omega
       have r5:(0:Int)<x.kids.length:=by omega
       have r6:0<m:=by have:=HL3.out;omega
       have r7:m≠0:=by omega
       have hgm:g≠mb:=HI.out.ne
       have hmg:mb≠g:=fun e=>HI.out.ne e.symm
       have HSW:=kp (show swapFL (x.kids.map (invK1 false))=((x.kids.map (invK1 false)).set 0 b).set m a from by
        unfold swapFL
        rw [List.head?_eq_getElem?,HA.out,List.getLast?_eq_getElem?,show (x.kids.map (invK1 false)).length - 1=m by rw [List.length_map];have:=HM.out;omega,HB.out])
       go_upto_region 10 with fail
       clear hm xd yd
       go_upto_region 17 with fail
       go_region
       all_goals
        have HN:=kp (show RowN (setN (setN wr g 0 b Ab cb) g m a Aa ca).drew g W1.heap.size (swapFL (x.kids.map (invK1 false)))∧Fr wr (setN (setN wr g 0 b Ab cb) g m a Aa ca).drew (fun k=>k=g) from by
         have h1:=HRL.out.set h0l b (c:=cb) HD.out.2
         have hf:=Fr.setN wr g 0 b Ab cb
         have hlt:=HRL.out.lt
         have h2:=h1.set (i:=m) (c:=ca) (by rw [List.length_set];exact hml) a ((HD.out.1.move fun j hj hj2=>hf.block j hj2 (by omega)).wide (Nat.le_refl _) hf.size)
         rw [← HSW.out] at h2
         exact ⟨h2.below (bld (Below.refl _ _)),(hf.trans (Fr.setN _ g m a Aa ca) fun _ _ e=>e).trans (Fr.of_below (bld (Below.refl _ _)) _) fun _ _ e=>e⟩)
        unfold setN at HN
        rw [Nat.zero_mul,Nat.zero_add,Nat.zero_add,Nat.zero_add] at HN
        clear x0 x1 x2 x3 y0 y1 y2 y3 hfz
        generalize World.drew _=w5 at HN ⊢
        have HZR:=kp HN.out.1
        have HZF:=kp ((HFL.out.trans HN.out.2 fun _ _ e=>e).mono (m':=fun j=>j=g∨j=mb) fun _ _ e=>.inl e)
        have HZM:=kp (HMW.out.fr HN.out.2 (fun e=>HI.out.ne e.symm))
        have HZE:=kp (HEW.out.fr HN.out.2 (fun e=>by have:=HI.out.lg;have e':w.heap.size+1=g:=e;omega))
        have HQ:=kp (show invT x=.mk x.kind x.num x.name (swapFL (x.kids.map (invK1 false)))∧(swapFL (x.kids.map (invK1 false))).length=x.kids.length from ⟨by rw [invT_eq,if_neg (by have:=HKD.out;omega),if_pos (by have:=HKD.out;omega)],by rw [HSW.out];simp⟩)
        clear a0 a1 a2 a3 hla m0 m1 m2 m3 mf0 mf1 mf2 mf3 hlm
        obtain ⟨m0,m1,m2,m3,_⟩:=HZM.out.four
        have hlm:=HZM.out.lt
        obtain ⟨e0,e1,e2,e3,ef0,ef1,ef2,ef3⟩:=HZE.out.four
        have hle:=HZE.out.lt
        have HF:=kp (inv_fin HI.out HZR.out HZF.out HZE.out HQ.out)
        go_wp2_with fail
        obtain ⟨ZF,hz,hb,hret⟩:=HF.out
        rw [← hz]
        obtain ⟨g0,g1,g2,g3,_⟩:=hb.four
        exact bodyPost_ret (v:=.agg #[.int .u8 x.kind,.int .i64 x.num,.string x.name,.slice (some ⟨g,0,none⟩) x.kids.length x.kids.length]) (by simp [results,Tryz.results17,go_sem,g0,g1,g2,g3]) rfl hret
      ·have HKD:=kp hk
       obtain rfl:b57=false:=by rw [HB57.out];exact decide_eq_false (by omega)
       have q52:((x.kind:Int) == 52)=false:=beqF (b:=52) (by have:=HKD.out;omega)
       have q53:((x.kind:Int) == 53)=false:=beqF (b:=53) (by have:=HKD.out;omega)
       have q54:((x.kind:Int) == 54)=false:=beqF (b:=54) (by have:=HKD.out;omega)
       have q50:((x.kind:Int) == 50)=true:=by rw [HKD.out];rfl
       have q51:((x.kind:Int) == 51)=false:=beqF (b:=51) (by have:=HKD.out;omega)
       clear hk
       have HX:=kp (fun (Y:World)=>sexc_any x.kind Y)
       go_wp2_with fail
       refine (HX.out wr).mono ?_
       rintro e w4 ⟨rfl,rfl⟩
       go_upto_region 22 with fail
       have HNM:=kp (show Bx (wr.setCell ⟨mb,0,none⟩ (.int .u8 (exK x.kind))) mb #[.int .u8 (exK x.kind),.int .i64 x.num,.string x.name,.slice (some ⟨g,0,none⟩) x.kids.length x.kids.length] from HMW.out.set 0 _)
       have HNF:=kp (Fr.of_set wr ⟨mb,0,none⟩ (.int .u8 (exK x.kind)))
       clear a0 a1 a2 a3 hla m0 m1 m2 m3 mf0 mf1 mf2 mf3 hlm
       generalize World.setCell _ _ _=w5 at HNM HNF ⊢
       have HZR:=kp (HRL.out.fr HNF.out (fun k h1 h2 e=>by have:=HI.out.bm.lt;have e':k=mb:=e;omega) (fun e=>HI.out.ne e))
       have HZF:=kp ((HFL.out.mono (m':=fun j=>j=g∨j=mb) fun _ _ e=>.inl e).trans HNF.out fun _ _ e=>.inr e)
       have HZM:=HNM
       have HZE:=kp (HEW.out.fr HNF.out (fun e=>by have:=HI.out.lm;have e':w.heap.size+1=mb:=e;omega))
       have HQ:=kp (show invT x=.mk (exK x.kind) x.num x.name (x.kids.map (invK1 false))∧(x.kids.map (invK1 false)).length=x.kids.length from ⟨by rw [invT_eq,if_neg (by have:=HKD.out;omega),if_neg (by have:=HKD.out;omega)],by simp⟩)
       obtain ⟨m0,m1,m2,m3,_⟩:=HZM.out.four
       have hlm:=HZM.out.lt
       obtain ⟨e0,e1,e2,e3,ef0,ef1,ef2,ef3⟩:=HZE.out.four
       have hle:=HZE.out.lt
       have HF:=kp (inv_fin HI.out HZR.out HZF.out HZE.out HQ.out)
       go_wp2_with fail
       obtain ⟨ZF,hz,hb,hret⟩:=HF.out
       rw [← hz]
       obtain ⟨g0,g1,g2,g3,_⟩:=hb.four
       exact bodyPost_ret (v:=.agg #[.int .u8 (exK x.kind),.int .i64 x.num,.string x.name,.slice (some ⟨g,0,none⟩) x.kids.length x.kids.length]) (by simp [results,Tryz.results17,go_sem,g0,g1,g2,g3]) rfl hret
      ·have HKD:=kp hk
       obtain rfl:b57=false:=by rw [HB57.out];exact decide_eq_false (by omega)
       have q52:((x.kind:Int) == 52)=false:=beqF (b:=52) (by have:=HKD.out;omega)
       have q53:((x.kind:Int) == 53)=false:=beqF (b:=53) (by have:=HKD.out;omega)
       have q54:((x.kind:Int) == 54)=false:=beqF (b:=54) (by have:=HKD.out;omega)
       have q50:((x.kind:Int) == 50)=false:=beqF (b:=50) (by have:=HKD.out;omega)
       have q51:((x.kind:Int) == 51)=true:=by rw [HKD.out];rfl
       clear hk
       have HX:=kp (fun (Y:World)=>sexc_any x.kind Y)
       go_wp2_with fail
       refine (HX.out wr).mono ?_
       rintro e w4 ⟨rfl,rfl⟩
       go_upto_region 22 with fail
       have HNM:=kp (show Bx (wr.setCell ⟨mb,0,none⟩ (.int .u8 (exK x.kind))) mb #[.int .u8 (exK x.kind),.int .i64 x.num,.string x.name,.slice (some ⟨g,0,none⟩) x.kids.length x.kids.length] from HMW.out.set 0 _)
       have HNF:=kp (Fr.of_set wr ⟨mb,0,none⟩ (.int .u8 (exK x.kind)))
       clear a0 a1 a2 a3 hla m0 m1 m2 m3 mf0 mf1 mf2 mf3 hlm
       generalize World.setCell _ _ _=w5 at HNM HNF ⊢
       have HZR:=kp (HRL.out.fr HNF.out (fun k h1 h2 e=>by have:=HI.out.bm.lt;have e':k=mb:=e;omega) (fun e=>HI.out.ne e))
       have HZF:=kp ((HFL.out.mono (m':=fun j=>j=g∨j=mb) fun _ _ e=>.inl e).trans HNF.out fun _ _ e=>.inr e)
       have HZM:=HNM
       have HZE:=kp (HEW.out.fr HNF.out (fun e=>by have:=HI.out.lm;have e':w.heap.size+1=mb:=e;omega))
       have HQ:=kp (show invT x=.mk (exK x.kind) x.num x.name (x.kids.map (invK1 false))∧(x.kids.map (invK1 false)).length=x.kids.length from ⟨by rw [invT_eq,if_neg (by have:=HKD.out;omega),if_neg (by have:=HKD.out;omega)],by simp⟩)
       obtain ⟨m0,m1,m2,m3,_⟩:=HZM.out.four
       have hlm:=HZM.out.lt
       obtain ⟨e0,e1,e2,e3,ef0,ef1,ef2,ef3⟩:=HZE.out.four
       have hle:=HZE.out.lt
       have HF:=kp (inv_fin HI.out HZR.out HZF.out HZE.out HQ.out)
       go_wp2_with fail
       obtain ⟨ZF,hz,hb,hret⟩:=HF.out
       rw [← hz]
       obtain ⟨g0,g1,g2,g3,_⟩:=hb.four
       exact bodyPost_ret (v:=.agg #[.int .u8 (exK x.kind),.int .i64 x.num,.string x.name,.slice (some ⟨g,0,none⟩) x.kids.length x.kids.length]) (by simp [results,Tryz.results17,go_sem,g0,g1,g2,g3]) rfl hret
      ·have HKD:=kp hk
       obtain rfl:b57=false:=by rw [HB57.out];exact decide_eq_false (by omega)
       have q52:((x.kind:Int) == 52)=false:=beqF (b:=52) (by have:=HKD.out;omega)
       have q53:((x.kind:Int) == 53)=false:=beqF (b:=53) (by have:=HKD.out;omega)
       have q54:((x.kind:Int) == 54)=false:=beqF (b:=54) (by have:=HKD.out;omega)
       have q50:((x.kind:Int) == 50)=false:=beqF (b:=50) (by have:=HKD.out;omega)
       have q51:((x.kind:Int) == 51)=false:=beqF (b:=51) (by have:=HKD.out;omega)
       clear hk
       have HX:=kp (fun (Y:World)=>sexc_any x.kind Y)
       go_wp2_with fail
       refine (HX.out wr).mono ?_
       rintro e w4 ⟨rfl,rfl⟩
       go_upto_region 22 with fail
       have HNM:=kp (show Bx (wr.setCell ⟨mb,0,none⟩ (.int .u8 (exK x.kind))) mb #[.int .u8 (exK x.kind),.int .i64 x.num,.string x.name,.slice (some ⟨g,0,none⟩) x.kids.length x.kids.length] from HMW.out.set 0 _)
       have HNF:=kp (Fr.of_set wr ⟨mb,0,none⟩ (.int .u8 (exK x.kind)))
       clear a0 a1 a2 a3 hla m0 m1 m2 m3 mf0 mf1 mf2 mf3 hlm
       generalize World.setCell _ _ _=w5 at HNM HNF ⊢
       have HZR:=kp (HRL.out.fr HNF.out (fun k h1 h2 e=>by have:=HI.out.bm.lt;have e':k=mb:=e;omega) (fun e=>HI.out.ne e))
       have HZF:=kp ((HFL.out.mono (m':=fun j=>j=g∨j=mb) fun _ _ e=>.inl e).trans HNF.out fun _ _ e=>.inr e)
       have HZM:=HNM
       have HZE:=kp (HEW.out.fr HNF.out (fun e=>by have:=HI.out.lm;have e':w.heap.size+1=mb:=e;omega))
       have HQ:=kp (show invT x=.mk (exK x.kind) x.num x.name (x.kids.map (invK1 false))∧(x.kids.map (invK1 false)).length=x.kids.length from ⟨by rw [invT_eq,if_neg (by have:=HKD.out;omega),if_neg (by have:=HKD.out;omega)],by simp⟩)
       obtain ⟨m0,m1,m2,m3,_⟩:=HZM.out.four
       have hlm:=HZM.out.lt
       obtain ⟨e0,e1,e2,e3,ef0,ef1,ef2,ef3⟩:=HZE.out.four
       have hle:=HZE.out.lt
       have HF:=kp (inv_fin HI.out HZR.out HZF.out HZE.out HQ.out)
       go_wp2_with fail
       obtain ⟨ZF,hz,hb,hret⟩:=HF.out
       rw [← hz]
       obtain ⟨g0,g1,g2,g3,_⟩:=hb.four
       exact bodyPost_ret (v:=.agg #[.int .u8 (exK x.kind),.int .i64 x.num,.string x.name,.slice (some ⟨g,0,none⟩) x.kids.length x.kids.length]) (by simp [results,Tryz.results17,go_sem,g0,g1,g2,g3]) rfl hret
theorem block_st {x:Nd} (h:isBlT x=true):isStT x=false:=by
 rw [isBlT_eq] at h
 simp only [Bool.and_eq_true,decide_eq_true_eq] at h
 have hk:=h.1.1
 rw [isStT_eq]
 unfold isStK
 rw [if_neg (by omega),if_neg (by omega),if_neg (by omega),if_neg (by omega),if_neg (by omega),if_neg (by omega),if_neg (by omega),if_neg (by omega)]
def StmP (x:Nd) (w:World) (e:Ending) (w':World):Prop:=∃ A c,e=.returned (.tuple #[.agg (ndC x A c),.int .i64 0])∧NdsAt w' A x.kids∧Below w.heap.size w w'
theorem istmt_any (x:Nd) (hx:szT x≤100000) (hb:isBlT x=true) (hf:NdFit x) (A:Option Addr) (cap:Nat) (w:World) (hK:NdsAt w A x.kids):Calls Tryz.prog 6 #[.agg (ndC x A cap)] w (StmP (invT x) w):=by
 have HT:=kp (tw2 w (ndC x A cap) #[.int .u8 0,.int .i64 0,.string ⟨#[]⟩,.slice none 0 0] 26 26)
 have HK:=kp (hK.mono HT.out.1)
 have HS:=kp (fun (Y:World) (h:NdsAt Y A x.kids)=>isStmt_any x hf A cap Y h)
 have HBL:=kp (fun (Y:World) (h:NdsAt Y A x.kids)=>isBlock_any x hf A cap Y h)
 have HIV:=kp (fun (Y:World) (h:NdsAt Y A x.kids)=>invert_any 100000 x hx (by omega) (.inr hb) A cap Y h)
 have hst:=block_st hb
 rw [hst] at HS
 rw [hb] at HBL
 clear hK hf hb hst
 go_enter Tryz.func6,Tryz.ntmps6
 go_upto_region 1 with fail
 generalize (w.alloc _).alloc _=W at HT HK ⊢
 obtain ⟨a0,a1,a2,a3,_⟩:=HT.out.2.1.four
 have hla:=HT.out.2.1.lt
 go_wp2_with fail
 refine (HS.out W HK.out).mono ?_
 rintro e w1 ⟨rfl,hb1⟩
 have HB1:=kp hb1
 have HR1:=kp (HT.out.2.1.below hb1)
 clear a0 a1 a2 a3 hla hb1
 obtain ⟨a0,a1,a2,a3,_⟩:=HR1.out.four
 have hla:=HR1.out.lt
 go_wp2_with fail
 refine (HBL.out w1 (HK.out.mono HB1.out)).mono ?_
 rintro e w2 ⟨rfl,hb2⟩
 have HB2:=kp (bls HB1.out HB1.out.size hb2)
 have HR2:=kp (HT.out.2.1.below HB2.out)
 clear a0 a1 a2 a3 hla hb2
 obtain ⟨a0,a1,a2,a3,_⟩:=HR2.out.four
 have hla:=HR2.out.lt
 go_wp2_with fail
 refine (HIV.out w2 (HK.out.mono HB2.out)).mono ?_
 rintro e w3 ⟨A3,c3,rfl,hd3,hs3,hb3⟩
 have HB3:=kp (bls HB2.out HB2.out.size hb3)
 have HE3:=kp (HT.out.2.2.below HB3.out)
 have HD3:=kp (hd3)
 have HLE:=kp (HB2.out.size)
 have HLW:=kp (show w.heap.size+1<W.heap.size from HT.out.2.2.lt)
 clear a0 a1 a2 a3 hla hb3 hd3 hs3
 obtain ⟨e0,e1,e2,e3,_⟩:=HE3.out.four
 have hle:=HE3.out.lt
 have HFB:=kp (HE3.out.set4 (.int .u8 (invT x).kind) (.int .i64 (invT x).num) (.string (invT x).name) (.slice A3 (invT x).kids.length c3))
 have HFF:=kp (Fr.set4 w3 (w.heap.size+1) (.int .u8 (invT x).kind) (.int .i64 (invT x).num) (.string (invT x).name) (.slice A3 (invT x).kids.length c3))
 go_wp2_with fail
 generalize World.setCell _ _ _=WF at HFB HFF ⊢
 obtain ⟨g0,g1,g2,g3,_⟩:=HFB.out.four
 exact bodyPost_ret (v:=.tuple #[.agg (ndC (invT x) A3 c3),.int .i64 0]) (by simp [results,Tryz.results6,go_sem,g0,g1,g2,g3]) rfl ⟨A3,c3,rfl,(HD3.out.move fun k h1 h2=>HFF.out.block k h2 fun e=>by have h3:=HLE.out;have h4:=HLW.out;omega).at_,HFF.out.toBelow (bls HT.out.1 HT.out.1.size HB3.out) (by have:=HT.out.1.size;have:=HB3.out.size;omega) fun k e=>by omega⟩
end Go.Proofs.YtgbomnibedefoaaGreatDoor
