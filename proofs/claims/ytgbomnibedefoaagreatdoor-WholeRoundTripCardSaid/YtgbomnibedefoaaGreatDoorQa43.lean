import Derived.Test.YtgbomnibedefoaaGreatDoorQa42
set_option maxRecDepth 100000
set_option maxHeartbeats 8000000
namespace Go.Proofs.YtgbomnibedefoaaGreatDoor
open Go.ChangeShapes Go.WideShapes Go.ChangeAt Go.RowKit Go.Sort
section
variable {C:Rc} {w w1 w2:World} {G G1 G2:Gs} {s s1 s2:St} {env:List Ev} {loc dep:Nat} {T:List (Nat × Int)}
def ErR (R:Ending→World→Prop) (e:Ending) (w':World):Prop:=∃ er:Int,e=.returned (.int .i64 er)∧(er≠0→R (.panicked [{ v:=failV er,recovered:=false }]) w')∧(er=0→R (.returned (.tuple #[])) w')
theorem exK_bas {P:List Pc} {F d dep:Nat} {env:List Ev} {back:Bool} {n:Nd} {s:St} (hk:n.kind≠50∧n.kind≠51∧n.kind≠52∧n.kind≠53∧n.kind≠54∧n.kind≠55):ex P F (d+1) (.st n) dep env back s=stepS F s fun σ1=>optS (basicT env (if back then invK n.kind else n.kind) n s.m) σ1.k:=by
 rw [ex_succ]
 simp only [exB]
 rw [if_neg (by omega),if_neg (by omega),if_neg (by omega),if_neg (by omega),if_neg (by omega)]
def BaS (C:Rc) (n:Nd) (A:Option Addr) (cap:Nat) (back:Bool) (L:List (Nat × Array Value)) (R:Ending→World→Prop) (e:Ending) (w':World):Prop:=
 PnR R e w'∨(e=.returned (.tuple #[])∧∃ G3 s3,Bxs C w' G3 L∧RuO C w' G3 s3∧∀ Z:World,Below w'.heap.size w' Z→
  match back with
  | true=>Calls Tryz.prog 103 #[.pointer (some ⟨G3.SB,0,none⟩),.agg (ndC n A cap)] Z (ErR R)
  | false=>Calls Tryz.prog 104 #[.pointer (some ⟨G3.SB,0,none⟩),.agg (ndC n A cap)] Z (ErR R))
theorem bas_step (hC:RcOk C) (h:RuH C w G s env loc dep T) {n:Nd} (hn:StH C.P (env.map (·.v)) n) (hk:40≤n.kind∧n.kind≤49) {back:Bool} {R:Ending→World→Prop} (hR:R=RunP C w G (stepS C.F s fun σ1=>optS (basicT env (if back then invK n.kind else n.kind) n s.m) σ1.k)) {A:Option Addr} (cap:Nat) (hK:NdsAt C.W0 A n.kids)
  {wA:World} (hA:Below w.heap.size w wA) {L:List (Nat × Array Value)} (hL:Bxs C wA G L) :
  Calls Tryz.prog 98 #[.pointer (some ⟨C.RB,0,none⟩)] wA (BaS C n A cap back L R):=by
 refine (step_any (h.o.below hA) hC.fuel).mono fun e w' he=>?_
 unfold stepR at he
 by_cases hkf:s.k<C.F
 rotate_left
 ·rw [if_neg hkf] at he
  rw [stepS_neg hkf] at hR
  obtain ⟨er,g1,g2,g3⟩:=he
  exact .inl ⟨_,g2,by rw [hR];exact ⟨er,g1,g2,g3⟩⟩
 rw [if_pos hkf] at he
 rw [stepS_pos hkf] at hR
 obtain ⟨rfl,G3,h3⟩:=he
 have hr3:RuH C w' G3 ⟨s.k+1,s.m⟩ env loc dep T:=(h.below hA).step h3 h.mem
 have hs3:RuS C w G w' G3 ⟨s.k+1,s.m⟩:=h3.pre hA
 have fin:∀ (Z:World),Below w'.heap.size w' Z→∀ (o:Option Mt),R=RunP C w G (optS o (s.k+1))→∀ e2 w2,DoP C.B Z G3 o e2 w2→ErR R e2 w2:=by
  intro Z hZ o hRo e2 w2 hd
  have hrZ:=hr3.below hZ
  cases o with
  | none=>
    obtain ⟨er,h0,h1,h2⟩:=hd
    exact ⟨er,h1,fun _=>by rw [hRo];exact ⟨er,h0,rfl,hrZ.o.pan h2 fun k e=>.inl e⟩,fun e0=>absurd e0 h0⟩
  | some m'=>
    obtain ⟨h1,G4,h4⟩:=hd
    have:=RuS.of_sts hrZ.o h4
    exact ⟨0,h1,fun e0=>absurd rfl e0,fun _=>by rw [hRo];exact ⟨rfl,G4,hs3.trans (this.pre hZ)⟩⟩
 refine .inr ⟨rfl,G3,_,hL.step h3,h3.o,fun Z hZ=>?_⟩
 have hrZ:=hr3.below hZ
 obtain ⟨f,hf,hfe,hfl⟩:=hrZ.last
 have hX:XpH C.B Z G3 s.m f T n:=⟨hrZ.o.o,hf,by rw [hfe];exact h.ty,h.mem,hrZ.o.hB.2.1,by rw [hfe];exact bas_cln hn.st hk hn.vc,hn.st,hn.fit⟩
 have hsz:szT n≤1000000:=by have:=hn.sz;omega
 cases back with
 | true=>
   refine (undo_any hX hk hsz A cap (hK.mono hrZ.o.bw.b)).mono fun e2 w2 hd=>?_
   rw [hfe] at hd
   exact fin Z hZ _ hR e2 w2 hd
 | false=>
   refine (do_any hX hk hsz A cap (hK.mono hrZ.o.bw.b)).mono fun e2 w2 hd=>?_
   rw [hfe] at hd
   exact fin Z hZ _ hR e2 w2 hd
theorem exK_lst {P:List Pc} {F d dep:Nat} {env:List Ev} {back:Bool} {n:Nd} {s:St} (hk:n.kind=55):ex P F (d+1) (.st n) dep env back s=stepS F s fun σ0=>(optS (openS env n s.m) σ0.k).andThen fun σ1=>
   (ex P F d (.bl (ordK back (kid n 0).kids)) dep (env++[⟨stkV n,s.m.mem.length⟩]) back σ1).andThen fun σ2=>stepS F σ2 fun σ3=>optS (closeS s.m.mem.length σ2.m) σ3.k:=by
 rw [ex_succ]
 simp only [exB]
 rw [if_neg (by omega),if_neg (by omega),if_neg (by omega),if_pos hk]
def LsB (C:Rc) (n:Nd) (L:List (Nat × Array Value)) (R:Ending→World→Prop) (e:Ending) (w':World):Prop:=
 PnR R e w'∨(e=.returned (.tuple #[])∧Calls Tryz.prog 98 #[.pointer (some ⟨C.RB,0,none⟩)] w' fun e2 w2=>PnR R e2 w2∨(e2=.returned (.tuple #[])∧∃ G3 s3,Bxs C w2 G3 L∧RuO C w2 G3 s3∧
     ∀ Z:World,Below w2.heap.size w2 Z→Calls Tryz.prog 101 #[.pointer (some ⟨G3.SB,0,none⟩),.string n.name,.int .i64 0] Z (ErR R)))
theorem lst_fin (hC:RcOk C) (h:RuH C w G s env loc dep T) {n:Nd} {back:Bool} {d m:Nat} {l:List Nd} (hm:s.m.mem.length=m) (hel:env.length≤1000) (hlo:loc≤env.length) (hq:RuQ C w G w1 G1 s1) (h1:RuH C w1 G1 s1 (env++[⟨stkV n,m⟩]) (loc+1) dep (T++[(3,0)])) (hfs:G1.fs.map frS=(G.fs.map frS).set dep (env++[⟨stkV n,m⟩],loc+1)) {L:List (Nat × Array Value)} (hL:Bxs C w1 G1 L)
  (hT:TOk C.P.procs ((env++[⟨stkV n,m⟩]:List Ev).map (·.v)) (.bl l)) {R:Ending→World→Prop} (hR:R=RunP C w G ((ex C.P.procs C.F d (.bl l) dep (env++[⟨stkV n,m⟩]) back s1).andThen fun σ2=>stepS C.F σ2 fun σ3=>optS (closeS m σ2.m) σ3.k))
  {e:Ending} {w':World} (hr:RunP C w1 G1 (ex C.P.procs C.F d (.bl l) dep (env++[⟨stkV n,m⟩]) back s1) e w'):LsB C n L R e w':=by
 cases hc:ex C.P.procs C.F d (.bl l) dep (env++[⟨stkV n,m⟩]) back s1 with
 | deep=>rw [hc] at hr;exact hr.elim
 | bad=>
   rw [hc] at hr hR
   obtain ⟨er,g1,g2,g3⟩:=hr
   exact .inl ⟨_,g2,by rw [hR];exact ⟨er,g1,g2,g3⟩⟩
 | ok s2=>
   rw [hc] at hr hR
   obtain ⟨rfl,G2,h2⟩:=hr
   have hr2:=h1.after hC h2 hT hc
   have hfs2:G2.fs.map frS=(G.fs.map frS).set dep (env++[⟨stkV n,m⟩],loc+1):=h2.fs.trans hfs
   have hq2:=hq.trans h2.q
   have hR:R=RunP C w G (stepS C.F s2 fun σ3=>optS (closeS m s2.m) σ3.k):=hR
   refine .inr ⟨rfl,(step_any hr2.o hC.fuel).mono fun e2 w2 he=>?_⟩
   unfold stepR at he
   by_cases hk:s2.k<C.F
   rotate_left
   ·rw [if_neg hk] at he
    rw [stepS_neg hk] at hR
    obtain ⟨er,g1,g2,g3⟩:=he
    exact .inl ⟨_,g2,by rw [hR];exact ⟨er,g1,g2,g3⟩⟩
   rw [if_pos hk] at he
   rw [stepS_pos hk] at hR
   obtain ⟨rfl,G3,h3⟩:=he
   have hr3:=hr2.step h3 hr2.mem
   have hfs3:G3.fs.map frS=(G.fs.map frS).set dep (env++[⟨stkV n,m⟩],loc+1):=h3.fs.trans hfs2
   have hq3:=hq2.trans h3.q
   refine .inr ⟨rfl,G3,_,(hL.step h2).step h3,h3.o,fun Z hZ=>(clo_R h (v:=stkV n) hm hel hlo (.inr rfl) hq3 hr3 hfs3 0 hZ).mono fun e4 w4 hcl=>?_⟩
   obtain ⟨er,he4,hn,hz⟩:=hcl
   have hR:R=RunP C w G (optS (if s2.m.mem[m]?=some [] then some ⟨s2.m.mem.take m,s2.m.inp,s2.m.out⟩ else none) (s2.k+1)):=hR
   refine ⟨er,he4,fun h0=>?_,fun h0=>?_⟩
   ·obtain ⟨hok,hp⟩:=hn h0
    have hok:decide (s2.m.mem[m]?=some [])=false:=hok
    rw [if_neg (of_decide_eq_false hok)] at hR
    rw [hR]
    exact hp
   ·obtain ⟨hok,G4,h4⟩:=hz h0
    have hok:decide (s2.m.mem[m]?=some [])=true:=hok
    rw [if_pos (of_decide_eq_true hok)] at hR
    rw [hR]
    exact ⟨rfl,G4,h4⟩
def LsO (C:Rc) (n b:Nd) (A1:Option Addr) (c1:Nat) (back:Bool) (L:List (Nat × Array Value)) (R:Ending→World→Prop) (e:Ending) (w':World):Prop:=∃ er:Int,e=.returned (.int .i64 er)∧(er≠0→R (.panicked [{ v:=failV er,recovered:=false }]) w')∧(er=0→∃ G1,Bxs C w' G1 L∧Kep C w'∧
 Calls Tryz.prog 42 #[.pointer (some ⟨C.RB,0,none⟩),.agg (ndC b A1 c1),.bool back] w' (LsB C n L R))
def LsV (C:Rc) (n b:Nd) (A1:Option Addr) (c1:Nat) (back:Bool) (L:List (Nat × Array Value)) (R:Ending→World→Prop) (e:Ending) (w':World):Prop:=
 PnR R e w'∨(e=.returned (.tuple #[])∧∃ G3 s3,Bxs C w' G3 L∧RuO C w' G3 s3∧∀ Z:World,Below w'.heap.size w' Z→Calls Tryz.prog 100 #[.pointer (some ⟨G3.SB,0,none⟩),.agg #[.string n.name,.int .u8 3,.int .i64 0],.int .i64 0] Z (LsO C n b A1 c1 back L R))
theorem lst_step (hC:RcOk C) (h:RuH C w G s env loc dep T) {n b:Nd} {back:Bool} {d:Nat} (hel:env.length≤1000) (hlo:loc≤env.length) (e0:n.kids[0]?=some b) (hbH:BlH C.P (env.map (·.v)++[stkV n]) b) (hB:BlkC C d b) {A1:Option Addr} (k1:NdsAt C.W0 A1 b.kids) (c1:Nat)
  {R:Ending→World→Prop} (hR:R=RunP C w G (stepS C.F s fun σ0=>(optS (openS env n s.m) σ0.k).andThen fun σ1=>(ex C.P.procs C.F d (.bl (ordK back (kid n 0).kids)) dep (env++[⟨stkV n,s.m.mem.length⟩]) back σ1).andThen fun σ2=>stepS C.F σ2 fun σ3=>optS (closeS s.m.mem.length σ2.m) σ3.k))
  (hnd:(stepS C.F s fun σ0=>(optS (openS env n s.m) σ0.k).andThen fun σ1=>(ex C.P.procs C.F d (.bl (ordK back (kid n 0).kids)) dep (env++[⟨stkV n,s.m.mem.length⟩]) back σ1).andThen fun σ2=>stepS C.F σ2 fun σ3=>optS (closeS s.m.mem.length σ2.m) σ3.k)≠.deep)
  {wA:World} (hA:Below w.heap.size w wA) {L:List (Nat × Array Value)} (hL:Bxs C wA G L) :
  Calls Tryz.prog 98 #[.pointer (some ⟨C.RB,0,none⟩)] wA (LsV C n b A1 c1 back L R):=by
 refine (step_any (h.o.below hA) hC.fuel).mono fun e w' he=>?_
 unfold stepR at he
 by_cases hkf:s.k<C.F
 rotate_left
 ·rw [if_neg hkf] at he
  rw [stepS_neg hkf] at hR
  obtain ⟨er,g1,g2,g3⟩:=he
  exact .inl ⟨_,g2,by rw [hR];exact ⟨er,g1,g2,g3⟩⟩
 rw [if_pos hkf] at he
 rw [stepS_pos hkf] at hR hnd
 rw [kid_eq e0] at hR hnd
 obtain ⟨rfl,G3,h3⟩:=he
 have hr3:RuH C w' G3 ⟨s.k+1,s.m⟩ env loc dep T:=(h.below hA).step h3 h.mem
 have hs3:RuS C w G w' G3 ⟨s.k+1,s.m⟩:=h3.pre hA
 refine .inr ⟨rfl,G3,_,hL.step h3,h3.o,fun Z hZ=>?_⟩
 refine (opn_step (hr3.below hZ) hel hlo (stkV n) (.inr rfl) rfl 0 (by unfold InR;omega)).mono fun e2 w4 ho=>?_
 obtain ⟨er,he2,hbw,(⟨h0,hf⟩ | ⟨h0,hf,G4,hq,h4,hfs⟩)⟩:=ho
 ·refine ⟨er,he2,fun _=>?_,fun e0=>absurd e0 h0⟩
  have hf:(findE env n.name).isNone=false:=hf
  have:openS env n s.m=none:=by unfold openS;rw [hf];rfl
  rw [this] at hR
  rw [hR]
  exact ⟨er,h0,rfl,hbw⟩
 ·refine ⟨er,he2,fun e0=>absurd h0 e0,fun _=>?_⟩
  have hf:(findE env n.name).isNone=true:=hf
  have hop:openS env n s.m=some ⟨s.m.mem++[[]],s.m.inp,s.m.out⟩:=by unfold openS;rw [hf];rfl
  rw [hop] at hR hnd
  have hq1:RuQ C w' G3 w4 G4 ⟨s.k+1,⟨s.m.mem++[[]],s.m.inp,s.m.out⟩⟩:=hq.pre hZ
  have h1:RuH C w4 G4 ⟨s.k+1,⟨s.m.mem++[[]],s.m.inp,s.m.out⟩⟩ (env++[⟨stkV n,s.m.mem.length⟩]) (loc+1) dep (T++[(3,0)]):=h4
  have hfs:G4.fs.map frS=(G.fs.map frS).set dep (env++[⟨stkV n,s.m.mem.length⟩],loc+1):=by rw [hfs,hs3.fs]
  have hvis:(env++[⟨stkV n,s.m.mem.length⟩]:List Ev).map (·.v)=env.map (·.v)++[stkV n]:=by rw [List.map_append];rfl
  have hbH2:BlH C.P ((env++[⟨stkV n,s.m.mem.length⟩]:List Ev).map (·.v)) b:=by rw [hvis];exact hbH
  have hL3:=hL.step h3
  refine ⟨G4,hL3.stepQ hq1,hbw,?_⟩
  refine (hB _ _ dep _ w4 G4 _ back A1 c1 h1 hbH2 (by rw [List.length_append,List.length_singleton];omega) k1 (andThen_deep hnd)).mono fun e w4 hr=>?_
  exact lst_fin hC h rfl hel hlo (hs3.q.trans hq1) h1 hfs (hL3.stepQ hq1) (hbH2.tok back) hR hr
end
section
variable {C:Rc} {w w1 w2:World} {G G1 G2:Gs} {s s1 s2:St} {env:List Ev} {loc dep:Nat} {T:List (Nat × Int)}
def LcV (C:Rc) (n x y b:Nd) (Ax Ay A1:Option Addr) (cx cy c1:Nat) (back:Bool) (L:List (Nat × Array Value)) (R:Ending→World→Prop) (e:Ending) (w':World):Prop:=
 PnR R e w'∨(e=.returned (.tuple #[])∧∃ G3 s3,Bxs C w' G3 L∧RuO C w' G3 s3∧∀ Y:World,Below w'.heap.size w' Y→Calls Tryz.prog 132 #[.pointer (some ⟨C.RB,0,none⟩),.agg (ndC x Ax cx)] Y fun e3 w3=>PnR R e3 w3∨∃ v,e3=.returned (.int .i64 v)∧Below Y.heap.size Y w3∧
  ∀ Z:World,Below w3.heap.size w3 Z→Calls Tryz.prog 100 #[.pointer (some ⟨G3.SB,0,none⟩),.agg #[.string n.name,.int .u8 1,.int .i64 0],.int .i64 v] Z (LcO C n y b Ay A1 cy c1 back L R))
theorem local_any (hC:RcOk C) (d:Nat) (n:Nd) (hk:n.kind=54) (hB:∀ b,BlkC C d b):StmF 97 C (d+1) n:=fun env loc dep T w G s back A cap h hn hlo hK hd=>by
 obtain ⟨a,b,c,h3⟩:=st_three hn.st hk
 have hl3:n.kids.length=2+1:=by rw [h3.kids];rfl
 have e0:n.kids[0]?=some a:=by rw [h3.kids];rfl
 have e1:n.kids[1]?=some b:=by rw [h3.kids];rfl
 have e2:n.kids[2]?=some c:=by rw [h3.kids];rfl
 have hxy:isExT (fstK n back)=true∧isExT (lstK n back)=true∧NdFit (fstK n back)∧NdFit (lstK n back):=by
  obtain ⟨q0,q3⟩:=sok_of.ends hn.st hk
  have f0:=hn.fit.kid e0
  have f3:=hn.fit.kid e2
  rw [← kid_eq e0] at f0
  rw [← kid_eq e2] at f3
  unfold fstK lstK
  rw [hl3]
  cases back with
  | false=>exact ⟨q0,q3,f0,f3⟩
  | true=>exact ⟨q3,q0,f3,f0⟩
 obtain ⟨Ax,cx,Ay,cy,kx,ky,hen⟩:=ends_of h.o hK hl3 (by omega) cap back
 obtain ⟨b0,o0,A1,c1,rfl,n1,k1⟩:=hK.n4 e1
 have hi1:innerT n 1 (env.map (·.v))=env.map (·.v)++[intV n]:=by unfold innerT;rw [if_pos ⟨hk,rfl⟩]
 have b1H:=hn.kid e1 h3.b1 (by omega) hi1 (by rw [List.length_append];exact Nat.le_refl _)
 have hel:env.length≤1000:=by have:=hn.bd;rw [List.length_map] at this;omega
 rw [exK_loc hk] at hd ⊢
 obtain ⟨R,hR⟩:∃ R:Ending→World→Prop,R=RunP C w G (stepS C.F s fun σ0=>(optS (openT env n back s.m) σ0.k).andThen fun σ1=>
   (ex C.P.procs C.F d (.bl (ordK back (kid n 1).kids)) dep (env++[⟨intV n,s.m.mem.length⟩]) back σ1).andThen fun σ2=>stepS C.F σ2 fun σ3=>optS (closeT (env++[⟨intV n,s.m.mem.length⟩]) n back s.m.mem.length σ2.m) σ3.k):=⟨_,rfl⟩
 rw [← hR]
 have HST:=kp (fun (Y:World) (hY:Below w.heap.size w Y) (L:List (Nat × Array Value)) (hL:Bxs C Y G L)=>show Calls Tryz.prog 98 #[.pointer (some ⟨C.RB,0,none⟩)] Y (LcV C n (fstK n back) (lstK n back) b Ax Ay A1 cx cy c1 back L R) from by
  refine (step_any (h.o.below hY) hC.fuel).mono fun e w' he=>?_
  unfold stepS at hR hd
  unfold stepR at he
  by_cases hkf:s.k<C.F
  ·rw [if_pos hkf] at he hR hd
   obtain ⟨rfl,G3,h3⟩:=he
   have hr3:=(h.below hY).step h3 h.mem
   refine .inr ⟨rfl,G3,_,hL.step h3,h3.o,fun Z hZ=>(value_any (hr3.below hZ) hxy.1 hxy.2.2.1 kx cx).mono fun e3 w3 hv=>?_⟩
   have hv:ValP C Z (evT (look env s.m.mem) (fstK n back)) e3 w3:=hv
   cases hev:evT (look env s.m.mem) (fstK n back) with
   | none=>
     rw [hev] at hv
     obtain ⟨er,g1,g2,g3⟩:=hv
     have:openT env n back s.m=none:=by unfold openT;rw [hev];rfl
     rw [this] at hR
     exact .inl ⟨_,g2,by rw [hR];exact ⟨er,g1,g2,g3⟩⟩
   | some v=>
     rw [hev] at hv
     obtain ⟨rfl,hb3⟩:=hv
     exact .inr ⟨v,rfl,hb3,fun X hX=>loc_open hC h rfl rfl hel hlo e1 b1H (hB b) hxy.2.1 hxy.2.2.2 hxy.2.2.1 ky k1 cy c1 (h3.pre hY) (hL.step h3) hev hR hd (bl2 hZ (bl2 hb3 hX))⟩
  ·rw [if_neg hkf] at he hR
   obtain ⟨er,g1,g2,g3⟩:=he
   exact .inl ⟨_,g2,by rw [hR];exact ⟨er,g1,g2,g3⟩⟩)
 have HEN:=kp hen
 have HB:=kp (blb w (Obj.cells (ndC n (some ⟨b0,o0,none⟩) cap) 26))
 have HRX:=kp (bxn w (ndC n (some ⟨b0,o0,none⟩) cap) 26)
 have HO:=kp h
 have HN1:=kp n1
 have r1:(1:Int)<n.kids.length:=by omega
 clear hd hen h3 hl3 e0 e1 e2 hxy n1 k1 kx ky b1H hi1 hel hK hn h hlo hB hk hC hR
 generalize fstK n back=x at *
 generalize lstK n back=y at *
 go_enter Tryz.func97,Tryz.ntmps97
 go_upto_region 1 with fail
 generalize w.alloc _=W at HB HRX ⊢
 obtain ⟨a0,a1,a2,a3,_⟩:=HRX.out.four
 have hla:=HRX.out.lt
 go_wp2_with fail
 refine (HEN.out W HB.out).mono ?_
 rintro e1 w1 ⟨rfl,hb1⟩
 have HB1:=kp (bl2 HB.out hb1)
 have HR1:=kp (HRX.out.below hb1)
 clear a0 a1 a2 a3 hla hb1
 go_upto_region 2 with fail
 have HT2:=kp (tw2 w1 (ndC x Ax cx) (ndC y Ay cy) 26 26)
 generalize (w1.alloc _).alloc _=W2 at HT2 ⊢
 have HB2:=kp (bl2 HB1.out HT2.out.1)
 obtain ⟨L,hLL⟩:∃ L:List (Nat × Array Value),L=[(w.heap.size,ndC n (some ⟨b0,o0,none⟩) cap),(w1.heap.size,ndC x Ax cx),(w1.heap.size+1,ndC y Ay cy)]:=⟨_,rfl⟩
 have HL2:=kp (show Bxs C W2 G L from fun p hp=>by
  have hs1:=HB1.out.size
  rw [hLL] at hp
  rcases List.mem_cons.1 hp with rfl | hp
  ·have h1:=HR1.out.below HT2.out.1
   exact ⟨h1,HO.out.o.newX (Nat.le_refl _) h1.lt⟩
  rcases List.mem_cons.1 hp with rfl | hp
  ·exact ⟨HT2.out.2.1,HO.out.o.newX (show w.heap.size≤w1.heap.size by omega) HT2.out.2.1.lt⟩
  ·obtain rfl:=List.mem_singleton.1 hp
   exact ⟨HT2.out.2.2,HO.out.o.newX (show w.heap.size≤w1.heap.size+1 by omega) HT2.out.2.2.lt⟩)
 have HG:=kp (fun (wr:World) (G':Gs) (hb:Bxs C wr G' L)=>show Bx wr w.heap.size (ndC n (some ⟨b0,o0,none⟩) cap)∧Bx wr w1.heap.size (ndC x Ax cx)∧Bx wr (w1.heap.size+1) (ndC y Ay cy) from by
  subst hLL
  exact ⟨(hb (w.heap.size,ndC n (some ⟨b0,o0,none⟩) cap) (by simp)).1,(hb (w1.heap.size,ndC x Ax cx) (by simp)).1,(hb (w1.heap.size+1,ndC y Ay cy) (by simp)).1⟩)
 clear hLL
 go_wp2_with fail
 refine (HST.out W2 HB2.out L HL2.out).mono ?_
 rintro e2 w2 (⟨r,rfl,hR⟩ | ⟨rfl,G3,s3,hL3,ho3,hva⟩)
 ·exact ⟨rfl,hR⟩
 have HVA:=kp hva
 have HS:=kp (fun (Y:World) (hY:Below w2.heap.size w2 Y)=>And.intro ((HG.out w2 G3 hL3).1.below hY) (And.intro ((HG.out w2 G3 hL3).2.1.below hY) (ho3.below hY).cells))
 clear hva hL3 ho3
 obtain ⟨g1,g2,_,_,y6,_,_,_,_,hlr⟩:=HS.out w2 (Below.refl _ _)
 obtain ⟨a0,a1,a2,a3,_⟩:=g1.four
 have hla:=g1.lt
 obtain ⟨x0,x1,x2,x3,_⟩:=g2.four
 have hlx:=g2.lt
 have hbP:=Below.refl w2.heap.size w2
 clear g1 g2
 go_upto_region 3 with fail
 go_cut [] (fun wc=>∃ G4,Hid (Bxs C wc G4 L∧Kep C wc∧Calls Tryz.prog 42 #[.pointer (some ⟨C.RB,0,none⟩),.agg (ndC b A1 c1),.bool back] wc (LcB C n y Ay cy L R)))
 case first=>
  go_region_law (first
   | (go_simp;go_at_call 132;(with_reducible refine Calls.mono (HVA.out w2.drew (bld hbP)) ?_);rintro e5 w5 (⟨r,rfl,hR⟩ | ⟨v,rfl,hb5,hop⟩);(exact ⟨rfl,hR⟩);have HB5:=kp (bl2 (W:=w2) (bld hbP) hb5);have HOP:=kp (hop w5 (Below.refl _ _));obtain ⟨zg1,zg2,_,_,zy6,_,_,_,_,zhlr⟩:=HS.out w5 HB5.out;obtain ⟨za0,za1,za2,za3,_⟩:=zg1.four;have zhla:=zg1.lt;clear hop hb5 zg1 zg2;dsimp only)
   | (go_simp;go_at_call 100;(with_reducible refine Calls.mono HOP.out ?_);rintro e6 w6 ⟨er,rfl,hpan,hok⟩;have HOK:=kp (And.intro hpan hok);clear hpan hok;dsimp only)
   | (go_simp;go_at_call 99;(with_reducible refine Calls.mono (check_any _ er w6) ?_);rintro e7 w7 ⟨⟨h0,rfl⟩ | ⟨h0,rfl⟩,rfl⟩;rotate_left;(exact ⟨rfl,HOK.out.1 h0⟩);have HZ:=kp (HOK.out.2 h0);clear h0;dsimp only)
   | fail)
  all_goals
   go_simp
   go_wp2_with fail
   go_meet
   exact ⟨HZ.out.choose,kp HZ.out.choose_spec⟩
 case rest=>
  obtain ⟨G4,HC4⟩:=hcut
  clear a0 a1 a2 a3 hla x0 x1 x2 x3 hlx y6 hlr HVA HS
  obtain ⟨g1,g2,g3⟩:=HG.out wc G4 HC4.out.1
  obtain ⟨a0,a1,a2,a3,_⟩:=g1.four
  have hla:=g1.lt
  obtain ⟨k0,k1,k2,k3⟩:=HN1.out.mono HC4.out.2.1.b
  rw [Nat.one_mul] at k0 k1 k2 k3
  have hlk:=block_lt_of_cell k0
  clear g1 g2 g3
  go_wp2_with fail
  refine HC4.out.2.2.mono ?_
  rintro e5 w5 (⟨r,rfl,hR⟩ | ⟨rfl,G5,hL5,hc5⟩)
  ·exact ⟨rfl,hR⟩
  have HC5:=kp hc5
  clear hc5 hL5 a0 a1 a2 a3 hla k0 k1 k2 k3 hlk
  go_wp2_with fail
  refine HC5.out.mono ?_
  rintro e6 w6 (⟨r,rfl,hR⟩ | ⟨rfl,G6,s6,hL6,ho6,hva⟩)
  ·exact ⟨rfl,hR⟩
  have HVA:=kp hva
  have HS:=kp (fun (Y:World) (hY:Below w6.heap.size w6 Y)=>And.intro ((HG.out w6 G6 hL6).1.below hY) (And.intro ((HG.out w6 G6 hL6).2.2.below hY) (ho6.below hY).cells))
  clear hva hL6 ho6
  obtain ⟨g1,g2,_,_,y6,_,_,_,_,hlr⟩:=HS.out w6 (Below.refl _ _)
  obtain ⟨a0,a1,a2,a3,_⟩:=g1.four
  have hla:=g1.lt
  obtain ⟨x0,x1,x2,x3,_⟩:=g2.four
  have hlx:=g2.lt
  have hbP:=Below.refl w6.heap.size w6
  clear g1 g2
  go_upto_region 6 with fail
  go_region_law (first
   | (go_simp;go_at_call 132;(with_reducible refine Calls.mono (HVA.out w6.drew (bld hbP)) ?_);rintro e5 w5 (⟨r,rfl,hR⟩ | ⟨v,rfl,hb5,hop⟩);(exact ⟨rfl,hR⟩);have HB5:=kp (bl2 (W:=w6) (bld hbP) hb5);have HOP:=kp (hop w5 (Below.refl _ _));obtain ⟨zg1,zg2,_,_,zy6,_,_,_,_,zhlr⟩:=HS.out w5 HB5.out;obtain ⟨za0,za1,za2,za3,_⟩:=zg1.four;have zhla:=zg1.lt;clear hop hb5 zg1 zg2;dsimp only)
   | (go_simp;go_at_call 101;(with_reducible refine Calls.mono HOP.out ?_);rintro e6 w7 ⟨er,rfl,hpan,hok⟩;have HOK:=kp (And.intro hpan hok);clear hpan hok;dsimp only)
   | (go_simp;go_at_call 99;(with_reducible refine Calls.mono (check_any _ er w7) ?_);rintro e7 w8 ⟨⟨h0,rfl⟩ | ⟨h0,rfl⟩,rfl⟩;rotate_left;(exact ⟨rfl,HOK.out.1 h0⟩);have HZ:=kp (HOK.out.2 h0);clear h0;dsimp only)
   | fail)
  all_goals
   go_simp
   go_wp2_with fail
   go_end0
   exact HZ.out
end
theorem make_st (n:Nat) (hn:n≤1000000) (W:World):(Instr.makeSlice 180 (.int .i64 n) (.int .i64 n)).run Tryz.prog W=.ok (.slice (some ⟨W.heap.size,0,none⟩) n n) (W.alloc (.cells (madeCells #[.string ⟨#[]⟩] n) 9)):=by
 obtain ⟨i0,hi0,hz0,hz1,hz2⟩:=info_parts info_str
 have h:=run_make (P:=Tryz.prog) W 180 9 i0 (.string ⟨#[]⟩) Tryz.underlying180 hi0 hz0 .i64 .i64 n n (by omega) (Int.le_refl _) (by rw [hz2];omega) (by omega)
 rw [hz1] at h
 rw [show (Value.string ⟨#[]⟩).cells=#[.string ⟨#[]⟩] from rfl,Nat.mul_one] at h
 simpa using h
def NmR (AB:Nat) (l:List ByteArray) (k:Nat) (w:World):Prop:=∃ cs:Array Value,Bx w AB cs∧cs.size=l.length∧∀ (i:Nat) (s:ByteArray),i<k→l[i]?=some s→cs[i]?=some (.string s)
theorem NmR.below {AB k:Nat} {l:List ByteArray} {w w':World} (h:NmR AB l k w) (hb:Below w.heap.size w w'):NmR AB l k w':=by
 obtain ⟨cs,h1,h2⟩:=h
 exact ⟨cs,h1.below hb,h2⟩
theorem NmR.set {AB k:Nat} {l:List ByteArray} {w:World} (h:NmR AB l k w) (hk:k<l.length):NmR AB l (k+1) (w.setCell ⟨AB,k,none⟩ (.string l[k])):=by
 obtain ⟨cs,h1,h2,h3⟩:=h
 refine ⟨_,h1.set k _,by simpa using h2,fun i s hi hs=>?_⟩
 by_cases e:i=k
 ·subst e
  rw [List.getElem?_eq_getElem hk] at hs
  cases hs
  rw [Array.getElem?_setIfInBounds_self_of_lt (by omega)]
 ·rw [Array.getElem?_setIfInBounds_ne (Ne.symm e)]
  exact h3 i s (by omega) hs
theorem NmR.full {AB:Nat} {l:List ByteArray} {w:World} (h:NmR AB l l.length w):Bx w AB (l.map Value.string).toArray:=by
 obtain ⟨cs,h1,h2,h3⟩:=h
 have:cs=(l.map Value.string).toArray:=by
  apply Array.toList_inj.1
  apply List.ext_getElem?
  intro i
  rw [Array.getElem?_toList,List.getElem?_map]
  by_cases hi:i<l.length
  ·rw [List.getElem?_eq_getElem hi]
   exact h3 i _ hi (List.getElem?_eq_getElem hi)
  ·rw [List.getElem?_eq_none (by omega),Array.getElem?_eq_none (by omega)];rfl
 rw [← this];exact h1
theorem NmR.get {AB k i:Nat} {l:List ByteArray} {w:World} (h:NmR AB l k w) (hi:i<l.length):∃ u,w.cell? ⟨AB,i,none⟩=some u∧w.frozen? ⟨AB,i,none⟩=false:=by
 obtain ⟨cs,h1,h2,_⟩:=h
 exact ⟨cs[i]'(by omega),h1.cell (Array.getElem?_eq_getElem (by omega)),h1.free i⟩
section
variable {C:Rc} {w w1 w2:World} {G G1 G2:Gs} {s s1 s2:St} {env:List Ev} {loc dep:Nat} {T:List (Nat × Int)}
theorem call_any (hC:RcOk C) (d:Nat) (n:Nd) (hk:n.kind=50∨n.kind=51) (hB:∀ b,BlkC C d b) (h:RuH C w G s env loc dep T) (hn:StH C.P (env.map (·.v)) n) (bk:Bool) (A:Option Addr) (cap:Nat) (hK:NdsAt C.W0 A n.kids) (hd:calT C.P.procs C.F d n dep env bk s≠.deep) :
  Calls Tryz.prog 102 #[.pointer (some ⟨C.RB,0,none⟩),.agg (ndC n A cap),.bool bk] w (RunP C w G (calT C.P.procs C.F d n dep env bk s)):=by
 obtain ⟨q,hp⟩:∃ q,procT C.P.procs n.name=some q:=by
  have h0:=vc_flt hn.vc
  unfold fltR at h0
  rw [if_neg (by omega),if_neg (by omega),if_neg (by omega),if_neg (by omega),if_pos hk] at h0
  unfold callR at h0
  cases hc:procT C.P.procs n.name with
  | none=>rw [hc] at h0;simp at h0
  | some q=>exact ⟨q,rfl⟩
 obtain ⟨i,hpx,hi⟩:∃ i:Nat,pidx n.name C.P.procs 0=(i:Int)∧C.P.procs[i]?=some q:=by
  rcases pidx_cases n.name C.P.procs 0 with ⟨_,h2⟩ | ⟨i,p,h1,h2,h3,_⟩
  ·rw [hp] at h2;cases h2
  ·rw [hp] at h3;cases h3
   exact ⟨i,by rw [h1,Nat.zero_add],h2⟩
 have hil:=(List.getElem?_eq_some_iff.1 hi).1
 obtain ⟨pb,po,Ap,cp,Ab,cb,hCAp,_,p0,p1,p2,p3,p4,p5,hvs,hns⟩:=hC.at_.p.at_ hil
 have hqi:C.P.procs[i]=q:=(List.getElem?_eq_some_iff.1 hi).2
 rw [hqi] at p0 p1 p2 p3 p4 p5 hvs hns
 obtain ⟨R,hR⟩:∃ R:Ending→World→Prop,R=RunP C w G (calT C.P.procs C.F d n dep env bk s):=⟨_,rfl⟩
 rw [← hR]
 have HST:=kp (fun (wA:World) (hA:Below w.heap.size w wA) (L:List (Nat × Array Value)) (hL:Bxs C wA G L) (ab ca:Nat) (hLa:(ab,((n.kids.map Nd.name).map Value.string).toArray)∈L)=>cal_step hC h hn hk hi hp hB hR hd hA hL hvs hns (Aa:=some ⟨ab,0,none⟩) (cp:=cp) (ca:=ca) (cb:=cb) rfl hLa)
 have hlp:C.P.procs.length≤9223372036854775807:=hC.fit.lp
 have HPR:=kp (fun (Y:World) (hY:Below w.heap.size w Y)=>sproc_any C.P hlp n.name C.Av C.Ap C.Am C.cv C.cp C.cm Y (hC.at_.p.mono (h.below hY).o.bw.b))
 rw [hpx] at HPR
 have HPC:=kp (fun (Y:World) (hY:Below C.W0.heap.size C.W0 Y)=>And.intro (blc hY p0) (And.intro (blc hY p1) (And.intro (blc hY p2) (And.intro (blc hY p3) (And.intro (blc hY p4) (blc hY p5))))))
 have hk8:n.kids.length≤2000:=by have:=szL_len n.kids;have:=szT_eq n;have:=hn.sz;omega
 have HKD:=kp (fun (k:Nat) (hk:k<n.kids.length)=>hK.n4 (List.getElem?_eq_getElem hk))
 have HO:=kp h
 have HB:=kp (blb w (Obj.cells (ndC n A cap) 26))
 have HRX:=kp (bxn w (ndC n A cap) 26)
 have hmk:=make_st n.kids.length (by omega)
 have HIL:=kp (And.intro hil hCAp)
 clear hCAp hp hpx hi hqi p0 p1 p2 p3 p4 p5 hvs hns hR hB hC hn hK hd hk hlp h hil
 go_enter Tryz.func102,Tryz.ntmps102
 go_upto_region 1 with fail
 generalize w.alloc _=W at HB HRX ⊢
 obtain ⟨a0,a1,a2,a3,_⟩:=HRX.out.four
 have hla:=HRX.out.lt
 go_upto_region 2 with fail
 obtain ⟨AB,hAB⟩:∃ b,W.heap.size=b:=⟨_,rfl⟩
 have hwb:w.heap.size<AB:=by rw [← hAB];exact HRX.out.lt
 have HB0:=kp (bl2 HB.out (blb W (Obj.cells (madeCells #[.string ⟨#[]⟩] n.kids.length) 9)))
 have HR0:=kp (HRX.out.below (blb W (Obj.cells (madeCells #[.string ⟨#[]⟩] n.kids.length) 9)))
 have HT0:=kp (show NmR AB (n.kids.map Nd.name) 0 (W.alloc (Obj.cells (madeCells #[.string ⟨#[]⟩] n.kids.length) 9)) from ⟨_,hAB▸bxn W _ _,(by simp [madeCells]),fun i l hi=>by omega⟩)
 rw [hAB]
 generalize W.alloc _=W3 at HB0 HR0 HT0 ⊢
 clear a0 a1 a2 a3 hla hAB hmk
 obtain ⟨a0,a1,a2,a3,_⟩:=HR0.out.four
 have hla:=HR0.out.lt
 go_wp2_with fail
 go_loopw [18] (fun i wr=>∃ k:Nat,k≤n.kids.length∧i=.int .i64 k∧Hid (NmR AB (n.kids.map Nd.name) k wr)∧Hid (Below w.heap.size w wr)∧Hid (Bx wr w.heap.size (ndC n A cap))) (fun i _=>n.kids.length - (intOf i).toNat)
 case atStart=>exact ⟨0,by omega,rfl,HT0,HB0,HR0⟩
 case round=>
  obtain ⟨k,hk,rfl,HT,HR,HX⟩:=hrel
  clear a0 a1 a2 a3 hla
  by_cases hin:k<n.kids.length
  ·obtain ⟨b0,o0,A',c',rfl,h4,_⟩:=HKD.out k hin
   obtain ⟨k0,k1,k2,k3⟩:=h4.mono (HO.out.below HR.out).o.bw.b
   have hlk:=block_lt_of_cell k0
   have hnm:k<(n.kids.map Nd.name).length:=by rw [List.length_map];exact hin
   have HE:=kp (show (n.kids.map Nd.name)[k]=n.kids[k].name from by rw [List.getElem_map])
   have HBX:=kp (blb wr (Obj.cells (ndC n.kids[k] A' c') 26))
   have HRY:=kp (bxn wr (ndC n.kids[k] A' c') 26)
   have r0:(0:Int)≤k:=by omega
   have r1:(k:Int)<n.kids.length:=by omega
   have HSS:=kp ((HT.out.below HBX.out).set hnm)
   rw [HE.out] at HSS
   clear h4 HE
   generalize n.kids[k]=z at *
   go_upto_region 5 with fail
   generalize wr.alloc _=V at HBX HRY HSS ⊢
   obtain ⟨x0,x1,x2,x3,_⟩:=HRY.out.four
   have hlx:=HRY.out.lt
   have HTV:=kp (HT.out.below HBX.out)
   obtain ⟨u,hu,hz⟩:=HTV.out.get hnm
   have hlu:=block_lt_of_cell hu
   have HB8:=kp ((bl2 HR.out HBX.out).setCell (p:=⟨AB,k,none⟩) (show w.heap.size≤AB by omega) (.string z.name))
   have HX8:=kp ((HX.out.below HBX.out).fr (Fr.of_set V ⟨AB,k,none⟩ (.string z.name)) (fun e=>by have e':w.heap.size=AB:=e;omega))
   clear k0 k1 k2 k3 hlk hnm
   go_wp2_with fail
   exact ⟨⟨k+1,by omega,by go_num,HSS,HB8,HX8⟩,by simp [intOf];omega⟩
  ·obtain rfl:k=n.kids.length:=by omega
   have HTF:=kp (show Bx wr AB ((n.kids.map Nd.name).map Value.string).toArray from by
    have:=HT.out
    rw [← List.length_map (f:=Nd.name)] at this
    exact this.full)
   have HRB:=kp (fun (Y:World) (hY:Below wr.heap.size wr Y)=>(HO.out.below (bl2 HR.out hY)).o.rb)
   have HLn:=kp (show (n.kids.map Nd.name).length=n.kids.length from List.length_map _)
   obtain ⟨a0,a1,a2,a3,_⟩:=HX.out.four
   have hla:=HX.out.lt
   have y0:=(HRB.out wr (Below.refl _ _)).cell (j:=0) rfl
   have y1:=(HRB.out wr (Below.refl _ _)).cell (j:=1) rfl
   have y2:=(HRB.out wr (Below.refl _ _)).cell (j:=2) rfl
   have y3:=(HRB.out wr (Below.refl _ _)).cell (j:=3) rfl
   have y4:=(HRB.out wr (Below.refl _ _)).cell (j:=4) rfl
   have y5:=(HRB.out wr (Below.refl _ _)).cell (j:=5) rfl
   have hly:=block_lt_of_cell y0
   have hbP:=Below.refl wr.heap.size wr
   clear HT
   go_upto_region 7 with fail
   go_cut [9] (fun v9 wc=>v9=.int .i64 i∧Hid (Below wr.heap.size wr wc))
   case first=>
    go_region_law (first
     | (go_simp;go_at_call 54;(with_reducible refine Calls.mono (HPR.out wr.drew (bl2 HR.out (bld hbP))) ?_);rintro e5 w5 ⟨rfl,hb5⟩;have HB5:=kp (bl2 (W:=wr) (bld hbP) hb5);clear hb5;dsimp only)
     | fail)
    all_goals
     go_simp
     go_wp2_with fail
     go_meet
     exact ⟨rfl,HB5⟩
   case rest=>
    obtain ⟨rfl,HC⟩:=hcut
    clear a0 a1 a2 a3 hla y0 y1 y2 y3 y4 y5 hly
    obtain ⟨p0,p1,p2,p3,p4,p5⟩:=HPC.out wc (HO.out.below (bl2 HR.out HC.out)).o.bw.b
    have y1:wc.cell? ⟨C.RB,1,none⟩=some (.slice (some ⟨pb,po,none⟩) C.P.procs.length C.cp):=by rw [← HIL.out.2];exact (HRB.out wc HC.out).cell (j:=1) rfl
    have hly:=block_lt_of_cell y1
    have hlp:=block_lt_of_cell p0
    have r0:(0:Int)≤i:=by omega
    have r1:(i:Int)<C.P.procs.length:=by have:=HIL.out.1;omega
    go_upto_region 9 with fail
    have HBX:=kp (blb wc (Obj.cells (qC q Ap Ab cp cb) 91))
    have HRY:=kp (bxn wc (qC q Ap Ab cp cb) 91)
    generalize wc.alloc _=WP at HBX HRY ⊢
    have HBW:=kp (bl2 HR.out (bl2 HC.out HBX.out))
    have hwc:w.heap.size≤wc.heap.size:=Nat.le_trans HR.out.size HC.out.size
    obtain ⟨L,hLL⟩:∃ L:List (Nat × Array Value),L=[(AB,((n.kids.map Nd.name).map Value.string).toArray),(w.heap.size,ndC n A cap),(wc.heap.size,qC q Ap Ab cp cb)]:=⟨_,rfl⟩
    have HL:=kp (show Bxs C WP G L from fun p hp=>by
     rw [hLL] at hp
     rcases List.mem_cons.1 hp with rfl | hp
     ·have h1:=HTF.out.below (bl2 HC.out HBX.out)
      exact ⟨h1,HO.out.o.newX (Nat.le_of_lt hwb) h1.lt⟩
     rcases List.mem_cons.1 hp with rfl | hp
     ·have h1:=HX.out.below (bl2 HC.out HBX.out)
      exact ⟨h1,HO.out.o.newX (Nat.le_refl _) h1.lt⟩
     ·obtain rfl:=List.mem_singleton.1 hp
      exact ⟨HRY.out,HO.out.o.newX hwc HRY.out.lt⟩)
    have HG:=kp (fun (wr:World) (G':Gs) (hb:Bxs C wr G' L)=>show Bx wr wc.heap.size (qC q Ap Ab cp cb) from by
     subst hLL
     exact (hb (wc.heap.size,qC q Ap Ab cp cb) (by simp)).1)
    have HLM:=kp (show (AB,((n.kids.map Nd.name).map Value.string).toArray)∈L from by rw [hLL];simp)
    clear hLL p0 p1 p2 p3 p4 p5 hlp y1 hly
    go_wp2_with fail
    refine (HST.out WP HBW.out L HL.out AB n.kids.length HLM.out).mono ?_
    rintro e2 w2 (⟨r,rfl,hR⟩ | ⟨rfl,G3,s3,hL3,ho3,hen⟩)
    ·exact ⟨rfl,hR⟩
    rw [HLn.out] at hen
    have HEN:=kp (hen w2.drew (bld (Below.refl _ _)))
    have hq:=HG.out w2 G3 hL3
    obtain ⟨q0,q1,q2,q3,q4,q5⟩:=hq.six1
    have hlq:=hq.lt
    obtain ⟨_,_,y6,_,_,_,_,hlr⟩:=ho3.cells
    clear hen hL3 ho3 hq
    go_upto_region 10 with fail
    go_cut [] (fun wc=>∃ G4 s4,Hid (Bxs C wc G4 L∧RuO C wc G4 s4∧∀ y:Int,Bxs C (wc.setCell ⟨C.EB,i,none⟩ (.int .i64 y)) G4 L∧Calls Tryz.prog 42 #[.pointer (some ⟨C.RB,0,none⟩),.agg (ndC q.body Ab cb),.bool bk] (wc.setCell ⟨C.EB,i,none⟩ (.int .i64 y)) (CaB C R)))
    case first=>
     go_region_law (first
      | (go_simp;go_at_call 136;(with_reducible refine Calls.mono HEN.out ?_);rintro e6 w6 ⟨er,rfl,hpan,hok⟩;have HOK:=kp (And.intro hpan hok);clear hpan hok;dsimp only)
      | (go_simp;go_at_call 99;(with_reducible refine Calls.mono (check_any _ er w6) ?_);rintro e7 w7 ⟨⟨h0,rfl⟩ | ⟨h0,rfl⟩,rfl⟩;rotate_left;(exact ⟨rfl,HOK.out.1 h0⟩);have HZ:=kp (HOK.out.2 h0);clear h0;dsimp only)
      | fail)
     all_goals
      go_simp
      go_wp2_with fail
      go_meet
      exact ⟨HZ.out.choose,HZ.out.choose_spec.choose,kp HZ.out.choose_spec.choose_spec⟩
    case rest=>
     obtain ⟨G4,s4,HZ⟩:=hcut
     clear q0 q1 q2 q3 q4 q5 hlq y6 hlr
     obtain ⟨x,e0,ez,hle⟩:=HZ.out.2.1.getE HIL.out.1
     obtain ⟨_,_,_,_,_,y9,_,hlr⟩:=HZ.out.2.1.cells
     obtain ⟨y,hy⟩:∃ y,IntKind.i64.wrap (x+1)=y:=⟨_,rfl⟩
     have H5:=kp (HZ.out.2.2 y)
     go_upto_region 12 with fail
     generalize wc.setCell _ _=W5 at H5 ⊢
     have hq:=HG.out W5 G4 H5.out.1
     obtain ⟨q0,q1,q2,q3,q4,q5⟩:=hq.six1
     have hlq:=hq.lt
     clear hq e0 ez hle y9 hlr hy
     go_wp2_with fail
     refine H5.out.2.mono ?_
     rintro e6 w6 (⟨r,rfl,hR⟩ | ⟨rfl,hst⟩)
     ·exact ⟨rfl,hR⟩
     have H6:=kp hst
     clear hst q0 q1 q2 q3 q4 q5 hlq
     go_wp2_with fail
     refine H6.out.mono ?_
     rintro e7 w7 (⟨r,rfl,hR⟩ | ⟨rfl,G7,s7,ho7,hlv⟩)
     ·exact ⟨rfl,hR⟩
     have H7:=kp hlv
     obtain ⟨_,_,y6,_,_,_,_,hlr⟩:=ho7.cells
     clear hlv ho7
     go_wp2_with fail
     refine H7.out.mono ?_
     rintro e8 w8 ⟨rfl,hR⟩
     have H8:=kp hR
     have HCK:=kp (check_0 (.pointer (some ⟨C.RB,0,none⟩)) w8)
     clear hR y6 hlr
     go_wp2_with fail
     refine HCK.out.mono ?_
     rintro e9 w9 ⟨rfl,rfl⟩
     go_wp2_with fail
     go_end0
     exact H8.out
end
end Go.Proofs.YtgbomnibedefoaaGreatDoor
