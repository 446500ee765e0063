import Derived.Test.YtgbomnibedefoaaGreatDoorQa43
set_option maxRecDepth 100000
set_option maxHeartbeats 8000000
namespace Go.Proofs.YtgbomnibedefoaaGreatDoor
open Go.ChangeShapes Go.WideShapes Go.ChangeAt Go.RowKit Go.Sort
section
variable {C:Rc} {w w1 w2:World} {G G1 G2:Gs} {s s1 s2:St} {env:List Ev} {loc dep:Nat} {T:List (Nat × Int)}
theorem stmt_52 (hC:RcOk C) (d:Nat) (n:Nd) (hk:n.kind=52) (hB:∀ b,BlkC C d b):StmC C (d+1) n:=fun env loc dep T w G s back A cap h hn hlo hK hd=>by
 have q52:((n.kind:Int) == 52)=true:=by rw [hk];rfl
 have q53:((n.kind:Int) == 53)=false:=beqF (b:=53) (by omega)
 have q54:((n.kind:Int) == 54)=false:=beqF (b:=54) (by omega)
 have q55:((n.kind:Int) == 55)=false:=beqF (b:=55) (by omega)
 have q50:((n.kind:Int) == 50)=false:=beqF (b:=50) (by omega)
 have q51:((n.kind:Int) == 51)=false:=beqF (b:=51) (by omega)
 have HC:=kp (fun (Y:World) (hY:Below w.heap.size w Y)=>branch_any hC d n hk hB env loc dep T Y G s back A cap (h.below hY) hn hlo hK hd)
 generalize ex C.P.procs C.F (d+1) (.st n) dep env back s=o at *
 have HB:=kp (blb w (Obj.cells (ndC n A cap) 26))
 have HRX:=kp (bxn w (ndC n A cap) 26)
 clear hk h hn hlo hK hd hB hC
 go_enter Tryz.func64,Tryz.ntmps64
 go_upto_region 1 with fail
 generalize w.alloc _=W at HB HRX ⊢
 obtain ⟨a0,a1,a2,a3,_⟩:=HRX.out.four
 have hla:=HRX.out.lt
 go_wp2_with fail
 refine (HC.out W HB.out).mono ?_
 intro e w1 h1
 have HZ:=kp (h1.pre HB.out)
 cases o with
 | ok s'=>
   obtain ⟨rfl,G',h2⟩:=h1
   clear h2
   go_wp2_with fail
   go_end0
   exact HZ.out
 | bad=>
   obtain ⟨er,h0,rfl,hb⟩:=h1
   exact ⟨rfl,HZ.out⟩
 | deep=>exact h1.elim
theorem stmt_53 (hC:RcOk C) (d:Nat) (n:Nd) (hk:n.kind=53) (hB:∀ d',d'≤d→∀ b,BlkC C d' b):StmC C (d+1) n:=fun env loc dep T w G s back A cap h hn hlo hK hd=>by
 have q52:((n.kind:Int) == 52)=false:=beqF (b:=52) (by omega)
 have q53:((n.kind:Int) == 53)=true:=by rw [hk];rfl
 have q54:((n.kind:Int) == 54)=false:=beqF (b:=54) (by omega)
 have q55:((n.kind:Int) == 55)=false:=beqF (b:=55) (by omega)
 have q50:((n.kind:Int) == 50)=false:=beqF (b:=50) (by omega)
 have q51:((n.kind:Int) == 51)=false:=beqF (b:=51) (by omega)
 have HC:=kp (fun (Y:World) (hY:Below w.heap.size w Y)=>loop_any hC d n hk hB env loc dep T Y G s back A cap (h.below hY) hn hlo hK hd)
 generalize ex C.P.procs C.F (d+1) (.st n) dep env back s=o at *
 have HB:=kp (blb w (Obj.cells (ndC n A cap) 26))
 have HRX:=kp (bxn w (ndC n A cap) 26)
 clear hk h hn hlo hK hd hB hC
 go_enter Tryz.func64,Tryz.ntmps64
 go_upto_region 1 with fail
 generalize w.alloc _=W at HB HRX ⊢
 obtain ⟨a0,a1,a2,a3,_⟩:=HRX.out.four
 have hla:=HRX.out.lt
 go_wp2_with fail
 refine (HC.out W HB.out).mono ?_
 intro e w1 h1
 have HZ:=kp (h1.pre HB.out)
 cases o with
 | ok s'=>
   obtain ⟨rfl,G',h2⟩:=h1
   clear h2
   go_wp2_with fail
   go_end0
   exact HZ.out
 | bad=>
   obtain ⟨er,h0,rfl,hb⟩:=h1
   exact ⟨rfl,HZ.out⟩
 | deep=>exact h1.elim
theorem stmt_54 (hC:RcOk C) (d:Nat) (n:Nd) (hk:n.kind=54) (hB:∀ b,BlkC C d b):StmC C (d+1) n:=fun env loc dep T w G s back A cap h hn hlo hK hd=>by
 have q52:((n.kind:Int) == 52)=false:=beqF (b:=52) (by omega)
 have q53:((n.kind:Int) == 53)=false:=beqF (b:=53) (by omega)
 have q54:((n.kind:Int) == 54)=true:=by rw [hk];rfl
 have q55:((n.kind:Int) == 55)=false:=beqF (b:=55) (by omega)
 have q50:((n.kind:Int) == 50)=false:=beqF (b:=50) (by omega)
 have q51:((n.kind:Int) == 51)=false:=beqF (b:=51) (by omega)
 have HC:=kp (fun (Y:World) (hY:Below w.heap.size w Y)=>local_any hC d n hk hB env loc dep T Y G s back A cap (h.below hY) hn hlo hK hd)
 generalize ex C.P.procs C.F (d+1) (.st n) dep env back s=o at *
 have HB:=kp (blb w (Obj.cells (ndC n A cap) 26))
 have HRX:=kp (bxn w (ndC n A cap) 26)
 clear hk h hn hlo hK hd hB hC
 go_enter Tryz.func64,Tryz.ntmps64
 go_upto_region 1 with fail
 generalize w.alloc _=W at HB HRX ⊢
 obtain ⟨a0,a1,a2,a3,_⟩:=HRX.out.four
 have hla:=HRX.out.lt
 go_wp2_with fail
 refine (HC.out W HB.out).mono ?_
 intro e w1 h1
 have HZ:=kp (h1.pre HB.out)
 cases o with
 | ok s'=>
   obtain ⟨rfl,G',h2⟩:=h1
   clear h2
   go_wp2_with fail
   go_end0
   exact HZ.out
 | bad=>
   obtain ⟨er,h0,rfl,hb⟩:=h1
   exact ⟨rfl,HZ.out⟩
 | deep=>exact h1.elim
theorem stmt_50 (hC:RcOk C) (d:Nat) (n:Nd) (hk:n.kind=50) (hB:∀ b,BlkC C d b):StmC C (d+1) n:=fun env loc dep T w G s back A cap h hn hlo hK hd=>by
 have q52:((n.kind:Int) == 52)=false:=beqF (b:=52) (by omega)
 have q53:((n.kind:Int) == 53)=false:=beqF (b:=53) (by omega)
 have q54:((n.kind:Int) == 54)=false:=beqF (b:=54) (by omega)
 have q55:((n.kind:Int) == 55)=false:=beqF (b:=55) (by omega)
 have q50:((n.kind:Int) == 50)=true:=by rw [hk];rfl
 have q51:((n.kind:Int) == 51)=false:=beqF (b:=51) (by omega)
 rw [exK_cal (.inl hk)] at hd ⊢
 rw [show decide (n.kind=51)=false by rw [hk];rfl] at hd ⊢
 have HC:=kp (fun (Y:World) (hY:Below w.heap.size w Y)=>call_any hC d n (.inl hk) hB (h.below hY) hn (back != false) A cap hK hd)
 generalize calT C.P.procs C.F d n dep env _ s=o at *
 have HB:=kp (blb w (Obj.cells (ndC n A cap) 26))
 have HRX:=kp (bxn w (ndC n A cap) 26)
 clear hk h hn hlo hK hd hB hC
 cases back <;>
 ·go_enter Tryz.func64,Tryz.ntmps64
  go_upto_region 1 with fail
  generalize w.alloc _=W at HB HRX ⊢
  obtain ⟨a0,a1,a2,a3,_⟩:=HRX.out.four
  have hla:=HRX.out.lt
  go_wp2_with fail
  refine (HC.out W HB.out).mono ?_
  intro e w1 h1
  have HZ:=kp (h1.pre HB.out)
  cases o with
  | ok s'=>
    obtain ⟨rfl,G',h2⟩:=h1
    clear h2
    go_wp2_with fail
    go_end0
    exact HZ.out
  | bad=>
    obtain ⟨er,h0,rfl,hb⟩:=h1
    exact ⟨rfl,HZ.out⟩
  | deep=>exact h1.elim
theorem stmt_51 (hC:RcOk C) (d:Nat) (n:Nd) (hk:n.kind=51) (hB:∀ b,BlkC C d b):StmC C (d+1) n:=fun env loc dep T w G s back A cap h hn hlo hK hd=>by
 have q52:((n.kind:Int) == 52)=false:=beqF (b:=52) (by omega)
 have q53:((n.kind:Int) == 53)=false:=beqF (b:=53) (by omega)
 have q54:((n.kind:Int) == 54)=false:=beqF (b:=54) (by omega)
 have q55:((n.kind:Int) == 55)=false:=beqF (b:=55) (by omega)
 have q50:((n.kind:Int) == 50)=false:=beqF (b:=50) (by omega)
 have q51:((n.kind:Int) == 51)=true:=by rw [hk];rfl
 rw [exK_cal (.inr hk)] at hd ⊢
 rw [show decide (n.kind=51)=true by rw [hk];rfl] at hd ⊢
 have HC:=kp (fun (Y:World) (hY:Below w.heap.size w Y)=>call_any hC d n (.inr hk) hB (h.below hY) hn (back != true) A cap hK hd)
 generalize calT C.P.procs C.F d n dep env _ s=o at *
 have HB:=kp (blb w (Obj.cells (ndC n A cap) 26))
 have HRX:=kp (bxn w (ndC n A cap) 26)
 clear hk h hn hlo hK hd hB hC
 cases back <;>
 ·go_enter Tryz.func64,Tryz.ntmps64
  go_upto_region 1 with fail
  generalize w.alloc _=W at HB HRX ⊢
  obtain ⟨a0,a1,a2,a3,_⟩:=HRX.out.four
  have hla:=HRX.out.lt
  go_wp2_with fail
  refine (HC.out W HB.out).mono ?_
  intro e w1 h1
  have HZ:=kp (h1.pre HB.out)
  cases o with
  | ok s'=>
    obtain ⟨rfl,G',h2⟩:=h1
    clear h2
    go_wp2_with fail
    go_end0
    exact HZ.out
  | bad=>
    obtain ⟨er,h0,rfl,hb⟩:=h1
    exact ⟨rfl,HZ.out⟩
  | deep=>exact h1.elim
theorem stmt_bas_true (hC:RcOk C) (d:Nat) (n:Nd) (hk:40≤n.kind∧n.kind≤49) (A:Option Addr) (cap:Nat) (h:RuH C w G s env loc dep T) (hn:StH C.P (env.map (·.v)) n) (hK:NdsAt C.W0 A n.kids) :
  Calls Tryz.prog 64 #[.pointer (some ⟨C.RB,0,none⟩),.agg (ndC n A cap),.bool true] w (RunP C w G (ex C.P.procs C.F (d+1) (.st n) dep env true s)):=by
 have q52:((n.kind:Int) == 52)=false:=beqF (b:=52) (by omega)
 have q53:((n.kind:Int) == 53)=false:=beqF (b:=53) (by omega)
 have q54:((n.kind:Int) == 54)=false:=beqF (b:=54) (by omega)
 have q55:((n.kind:Int) == 55)=false:=beqF (b:=55) (by omega)
 have q50:((n.kind:Int) == 50)=false:=beqF (b:=50) (by omega)
 have q51:((n.kind:Int) == 51)=false:=beqF (b:=51) (by omega)
 rw [exK_bas (by omega)]
 obtain ⟨R,hR⟩:∃ R:Ending→World→Prop,R=RunP C w G (stepS C.F s fun σ1=>optS (basicT env (if true=true then invK n.kind else n.kind) n s.m) σ1.k):=⟨_,rfl⟩
 rw [← hR]
 have HST:=kp (fun (Y:World) (hY:Below w.heap.size w Y) (L:List (Nat × Array Value)) (hL:Bxs C Y G L)=>bas_step hC h hn hk (back:=true) hR cap hK hY hL)
 have HB:=kp (blb w (Obj.cells (ndC n A cap) 26))
 have HRX:=kp (bxn w (ndC n A cap) 26)
 have HO:=kp h
 clear hk h hn hK hR hC
 go_enter Tryz.func64,Tryz.ntmps64
 go_upto_region 1 with fail
 generalize w.alloc _=W at HB HRX ⊢
 have HL:=kp (show Bxs C W G [(w.heap.size,ndC n A cap)] from fun p hp=>by
  obtain rfl:=List.mem_singleton.1 hp
  exact ⟨HRX.out,HO.out.o.newX (Nat.le_refl _) HRX.out.lt⟩)
 obtain ⟨a0,a1,a2,a3,_⟩:=HRX.out.four
 have hla:=HRX.out.lt
 go_wp2_with fail
 refine (HST.out W HB.out _ HL.out).mono ?_
 rintro e2 w2 (⟨r,rfl,hR⟩ | ⟨rfl,G3,s3,hL3,ho3,hdo⟩)
 ·exact ⟨rfl,hR⟩
 have HDO:=kp (hdo w2.drew (bld (Below.refl _ _)))
 clear a0 a1 a2 a3 hla hdo
 obtain ⟨a0,a1,a2,a3,_⟩:=(hL3 (w.heap.size,ndC n A cap) (by simp)).1.four
 have hla:=(hL3 (w.heap.size,ndC n A cap) (by simp)).1.lt
 obtain ⟨_,_,y6,_,_,_,_,hlr⟩:=ho3.cells
 clear hL3 ho3
 go_wp2_with fail
 go_region_law (first
  | (go_simp;go_at_call 103;(with_reducible refine Calls.mono HDO.out ?_);rintro e6 w6 ⟨er,rfl,hpan,hok⟩;have HOK:=kp (And.intro hpan hok);clear hpan hok;dsimp only)
  | (go_simp;go_at_call 99;(with_reducible refine Calls.mono (check_any _ er w6) ?_);rintro e7 w7 ⟨⟨h0,rfl⟩ | ⟨h0,rfl⟩,rfl⟩;rotate_left;(exact ⟨rfl,HOK.out.1 h0⟩);have HZ:=kp (HOK.out.2 h0);clear h0;dsimp only)
  | fail)
 all_goals
  go_simp
  go_wp2_with fail
  go_end0
  exact HZ.out
theorem stmt_bas_false (hC:RcOk C) (d:Nat) (n:Nd) (hk:40≤n.kind∧n.kind≤49) (A:Option Addr) (cap:Nat) (h:RuH C w G s env loc dep T) (hn:StH C.P (env.map (·.v)) n) (hK:NdsAt C.W0 A n.kids) :
  Calls Tryz.prog 64 #[.pointer (some ⟨C.RB,0,none⟩),.agg (ndC n A cap),.bool false] w (RunP C w G (ex C.P.procs C.F (d+1) (.st n) dep env false s)):=by
 have q52:((n.kind:Int) == 52)=false:=beqF (b:=52) (by omega)
 have q53:((n.kind:Int) == 53)=false:=beqF (b:=53) (by omega)
 have q54:((n.kind:Int) == 54)=false:=beqF (b:=54) (by omega)
 have q55:((n.kind:Int) == 55)=false:=beqF (b:=55) (by omega)
 have q50:((n.kind:Int) == 50)=false:=beqF (b:=50) (by omega)
 have q51:((n.kind:Int) == 51)=false:=beqF (b:=51) (by omega)
 rw [exK_bas (by omega)]
 obtain ⟨R,hR⟩:∃ R:Ending→World→Prop,R=RunP C w G (stepS C.F s fun σ1=>optS (basicT env (if false=true then invK n.kind else n.kind) n s.m) σ1.k):=⟨_,rfl⟩
 rw [← hR]
 have HST:=kp (fun (Y:World) (hY:Below w.heap.size w Y) (L:List (Nat × Array Value)) (hL:Bxs C Y G L)=>bas_step hC h hn hk (back:=false) hR cap hK hY hL)
 have HB:=kp (blb w (Obj.cells (ndC n A cap) 26))
 have HRX:=kp (bxn w (ndC n A cap) 26)
 have HO:=kp h
 clear hk h hn hK hR hC
 go_enter Tryz.func64,Tryz.ntmps64
 go_upto_region 1 with fail
 generalize w.alloc _=W at HB HRX ⊢
 have HL:=kp (show Bxs C W G [(w.heap.size,ndC n A cap)] from fun p hp=>by
  obtain rfl:=List.mem_singleton.1 hp
  exact ⟨HRX.out,HO.out.o.newX (Nat.le_refl _) HRX.out.lt⟩)
 obtain ⟨a0,a1,a2,a3,_⟩:=HRX.out.four
 have hla:=HRX.out.lt
 go_wp2_with fail
 refine (HST.out W HB.out _ HL.out).mono ?_
 rintro e2 w2 (⟨r,rfl,hR⟩ | ⟨rfl,G3,s3,hL3,ho3,hdo⟩)
 ·exact ⟨rfl,hR⟩
 have HDO:=kp (hdo w2.drew (bld (Below.refl _ _)))
 clear a0 a1 a2 a3 hla hdo
 obtain ⟨a0,a1,a2,a3,_⟩:=(hL3 (w.heap.size,ndC n A cap) (by simp)).1.four
 have hla:=(hL3 (w.heap.size,ndC n A cap) (by simp)).1.lt
 obtain ⟨_,_,y6,_,_,_,_,hlr⟩:=ho3.cells
 clear hL3 ho3
 go_wp2_with fail
 go_region_law (first
  | (go_simp;go_at_call 104;(with_reducible refine Calls.mono HDO.out ?_);rintro e6 w6 ⟨er,rfl,hpan,hok⟩;have HOK:=kp (And.intro hpan hok);clear hpan hok;dsimp only)
  | (go_simp;go_at_call 99;(with_reducible refine Calls.mono (check_any _ er w6) ?_);rintro e7 w7 ⟨⟨h0,rfl⟩ | ⟨h0,rfl⟩,rfl⟩;rotate_left;(exact ⟨rfl,HOK.out.1 h0⟩);have HZ:=kp (HOK.out.2 h0);clear h0;dsimp only)
  | fail)
 all_goals
  go_simp
  go_wp2_with fail
  go_end0
  exact HZ.out
theorem stmt_55 (hC:RcOk C) (d:Nat) (n:Nd) (hk:n.kind=55) (hB:∀ b,BlkC C d b):StmC C (d+1) n:=fun env loc dep T w G s back A cap h hn hlo hK hd=>by
 have q52:((n.kind:Int) == 52)=false:=beqF (b:=52) (by omega)
 have q53:((n.kind:Int) == 53)=false:=beqF (b:=53) (by omega)
 have q54:((n.kind:Int) == 54)=false:=beqF (b:=54) (by omega)
 have q55:((n.kind:Int) == 55)=true:=by rw [hk];rfl
 have q50:((n.kind:Int) == 50)=false:=beqF (b:=50) (by omega)
 have q51:((n.kind:Int) == 51)=false:=beqF (b:=51) (by omega)
 obtain ⟨b,hx,hb⟩:=st_one hn.st hk
 have e0:n.kids[0]?=some b:=by rw [hx];rfl
 have hi0:innerT n 0 (env.map (·.v))=env.map (·.v)++[stkV n]:=by unfold innerT;rw [if_neg (by omega),if_pos ⟨hk,rfl⟩]
 have b1H:=hn.kid e0 hb (by omega) hi0 (by rw [List.length_append];exact Nat.le_refl _)
 have hel:env.length≤1000:=by have:=hn.bd;rw [List.length_map] at this;omega
 obtain ⟨b0,o0,A1,c1,rfl,n1,k1⟩:=hK.n4 e0
 rw [Nat.zero_mul,Nat.add_zero] at n1
 rw [exK_lst hk] at hd ⊢
 obtain ⟨R,hR⟩:∃ R:Ending→World→Prop,R=RunP C w G (stepS C.F s fun σ0=>(optS (openS env n s.m) σ0.k).andThen fun σ1=>(ex C.P.procs C.F d (.bl (ordK back (kid n 0).kids)) dep (env++[⟨stkV n,s.m.mem.length⟩]) back σ1).andThen fun σ2=>stepS C.F σ2 fun σ3=>optS (closeS s.m.mem.length σ2.m) σ3.k):=⟨_,rfl⟩
 rw [← hR]
 have HST:=kp (fun (Y:World) (hY:Below w.heap.size w Y) (L:List (Nat × Array Value)) (hL:Bxs C Y G L)=>lst_step hC h hel hlo e0 b1H (hB b) k1 c1 hR hd hY hL)
 have HB:=kp (blb w (Obj.cells (ndC n (some ⟨b0,o0,none⟩) cap) 26))
 have HRX:=kp (bxn w (ndC n (some ⟨b0,o0,none⟩) cap) 26)
 have HO:=kp h
 have HN1:=kp n1
 have r1:(0:Int)<n.kids.length:=by rw [hx];simp
 clear hk h hn hK hR hC hB hx hb e0 hi0 b1H hel n1 k1 hd hlo
 go_enter Tryz.func64,Tryz.ntmps64
 go_upto_region 1 with fail
 generalize w.alloc _=W at HB HRX ⊢
 obtain ⟨L,hLL⟩:∃ L:List (Nat × Array Value),L=[(w.heap.size,ndC n (some ⟨b0,o0,none⟩) cap)]:=⟨_,rfl⟩
 have HL:=kp (show Bxs C W G L from fun p hp=>by
  rw [hLL] at hp
  obtain rfl:=List.mem_singleton.1 hp
  exact ⟨HRX.out,HO.out.o.newX (Nat.le_refl _) HRX.out.lt⟩)
 have HG:=kp (fun (wr:World) (G':Gs) (hb:Bxs C wr G' L)=>show Bx wr w.heap.size (ndC n (some ⟨b0,o0,none⟩) cap) from by
  subst hLL
  exact (hb (w.heap.size,ndC n (some ⟨b0,o0,none⟩) cap) (by simp)).1)
 clear hLL
 obtain ⟨a0,a1,a2,a3,_⟩:=HRX.out.four
 have hla:=HRX.out.lt
 go_wp2_with fail
 refine (HST.out W HB.out L HL.out).mono ?_
 rintro e2 w2 (⟨r,rfl,hR⟩ | ⟨rfl,G3,s3,hL3,ho3,hop⟩)
 ·exact ⟨rfl,hR⟩
 have HOP:=kp (hop w2.drew (bld (Below.refl _ _)))
 clear a0 a1 a2 a3 hla hop
 have hg:=HG.out w2 G3 hL3
 obtain ⟨a0,a1,a2,a3,_⟩:=hg.four
 have hla:=hg.lt
 obtain ⟨_,_,y6,_,_,_,_,hlr⟩:=ho3.cells
 clear hL3 ho3 hg
 go_upto_region 14 with fail
 go_cut [] (fun wc=>∃ G4,Hid (Bxs C wc G4 L∧Kep C wc∧Calls Tryz.prog 42 #[.pointer (some ⟨C.RB,0,none⟩),.agg (ndC b A1 c1),.bool back] wc (LsB C n L R)))
 case first=>
  go_region_law (first
   | (go_simp;go_at_call 100;(with_reducible refine Calls.mono HOP.out ?_);rintro e6 w6 ⟨er,rfl,hpan,hok⟩;have HOK:=kp (And.intro hpan hok);clear hpan hok;dsimp only)
   | (go_simp;go_at_call 99;(with_reducible refine Calls.mono (check_any _ er w6) ?_);rintro e7 w7 ⟨⟨h0,rfl⟩ | ⟨h0,rfl⟩,rfl⟩;rotate_left;(exact ⟨rfl,HOK.out.1 h0⟩);have HZ:=kp (HOK.out.2 h0);clear h0;dsimp only)
   | fail)
  all_goals
   go_simp
   go_wp2_with fail
   go_meet
   exact ⟨HZ.out.choose,kp HZ.out.choose_spec⟩
 case rest=>
  obtain ⟨G4,HC4⟩:=hcut
  clear a0 a1 a2 a3 hla y6 hlr
  have hg:=HG.out wc G4 HC4.out.1
  obtain ⟨a0,a1,a2,a3,_⟩:=hg.four
  have hla:=hg.lt
  obtain ⟨k0,k1,k2,k3⟩:=HN1.out.mono HC4.out.2.1.b
  have hlk:=block_lt_of_cell k0
  clear hg
  go_wp2_with fail
  refine HC4.out.2.2.mono ?_
  rintro e5 w5 (⟨r,rfl,hR⟩ | ⟨rfl,hc5⟩)
  ·exact ⟨rfl,hR⟩
  have HC5:=kp hc5
  clear hc5 a0 a1 a2 a3 hla k0 k1 k2 k3 hlk
  go_wp2_with fail
  refine HC5.out.mono ?_
  rintro e6 w6 (⟨r,rfl,hR⟩ | ⟨rfl,G6,s6,hL6,ho6,hcl⟩)
  ·exact ⟨rfl,hR⟩
  have HCL:=kp (hcl w6.drew (bld (Below.refl _ _)))
  have hg:=HG.out w6 G6 hL6
  obtain ⟨a0,a1,a2,a3,_⟩:=hg.four
  have hla:=hg.lt
  obtain ⟨_,_,y6,_,_,_,_,hlr⟩:=ho6.cells
  clear hcl hL6 ho6 hg
  go_upto_region 17 with fail
  go_region_law (first
   | (go_simp;go_at_call 101;(with_reducible refine Calls.mono HCL.out ?_);rintro e6 w7 ⟨er,rfl,hpan,hok⟩;have HOK:=kp (And.intro hpan hok);clear hpan hok;dsimp only)
   | (go_simp;go_at_call 99;(with_reducible refine Calls.mono (check_any _ er w7) ?_);rintro e7 w8 ⟨⟨h0,rfl⟩ | ⟨h0,rfl⟩,rfl⟩;rotate_left;(exact ⟨rfl,HOK.out.1 h0⟩);have HZ:=kp (HOK.out.2 h0);clear h0;dsimp only)
   | fail)
  all_goals
   go_simp
   go_wp2_with fail
   go_end0
   exact HZ.out
theorem stmt_all (hC:RcOk C):∀ (d:Nat) (n:Nd),StmC C d n:=by
 intro d
 induction d using Nat.strongRecOn with
 | _ d ih=>
   intro n
   cases d with
   | zero=>intro env loc dep T w G s back A cap h hn hlo hK hd;exact absurd rfl hd
   | succ d=>
     have hB:∀ d',d'≤d→∀ b,BlkC C d' b:=fun d' hd b=>block_any hC d' b fun d2 h2 x _=>ih d2 (by omega) x
     intro env loc dep T w G s back A cap h hn hlo hK hd
     rcases st_kind hn.st with hk | hk | hk | hk | hk | hk | hk | hk
     ·cases back with
      | true=>exact stmt_bas_true hC d n hk A cap h hn hK
      | false=>exact stmt_bas_false hC d n hk A cap h hn hK
     ·exact stmt_50 hC d n hk (hB d (Nat.le_refl _)) env loc dep T w G s back A cap h hn hlo hK hd
     ·exact stmt_51 hC d n hk (hB d (Nat.le_refl _)) env loc dep T w G s back A cap h hn hlo hK hd
     ·exact stmt_52 hC d n hk (hB d (Nat.le_refl _)) env loc dep T w G s back A cap h hn hlo hK hd
     ·exact stmt_53 hC d n hk hB env loc dep T w G s back A cap h hn hlo hK hd
     ·exact stmt_54 hC d n hk (hB d (Nat.le_refl _)) env loc dep T w G s back A cap h hn hlo hK hd
     ·exact stmt_55 hC d n hk (hB d (Nat.le_refl _)) env loc dep T w G s back A cap h hn hlo hK hd
     ·have:=hn.rj n (by rw [preT_eq];exact List.mem_cons_self)
      unfold rjB at this
      rw [if_pos hk] at this
      cases this
theorem block_all (hC:RcOk C) (d:Nat) (b:Nd):BlkC C d b:=block_any hC d b fun d' _ x _=>stmt_all hC d' x
end
end Go.Proofs.YtgbomnibedefoaaGreatDoor
