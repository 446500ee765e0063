import Derived.Recover
import Derived.Test.YtgbomnibedefoaaGreatDoorQa44
set_option maxRecDepth 100000
set_option maxHeartbeats 8000000
namespace Go.Proofs.YtgbomnibedefoaaGreatDoor
open Go.ChangeShapes Go.WideShapes Go.ChangeAt Go.RowKit Go.Sort
theorem jlen_0 (JB:Nat) (w:World) (h:w.cell? ⟨JB,0,none⟩=some (.slice none 0 0)):Calls Tryz.prog 61 #[.pointer (some ⟨JB,0,none⟩)] w fun e w'=>e=.returned (.int .i64 0)∧w=w':=by
 have hl:=block_lt_of_cell h
 go_enter Tryz.func61,Tryz.ntmps61
 go_wp2_with fail
 go_ret
 exact ⟨rfl,rfl⟩
theorem catch_idle (p0 p1 p2:Option Addr) (w:World) :
  CallsD Tryz.prog 62 #[.pointer p0,.pointer p1,.pointer p2] .returning w fun e u' w'=>e=.returned (.tuple #[])∧u'=.returning∧w'=w:=by
 refine callsD_of_wpS Tryz.func62 rfl fun c₀ cs hu=>?_
 refine wpS_seq ?_
 generalize hK:Code.wpS _ (Code.seq _ _) _=K
 generalize hQ:bodyPostS _ _ _ _ _=Q
 refine wpS_region ?_
 simp only [Tryz.ntmps62,List.size_toArray,List.length_cons,List.length_nil,Nat.reduceAdd,Nat.reduceSub,Array.replicate_succ,Array.replicate_zero,List.push_toArray,List.append_toArray,List.nil_append,List.cons_append]
 simp [wpOpsS,go_sem,recoverD,hu,Exit.thenS]
 subst hK
 subst hQ
 refine wpS_of_wp ?_
 go_wp2_with fail
 exact ⟨rfl,c₀.mode,rfl,.tuple #[],by simp [results,Tryz.results62,go_sem],rfl,hu,rfl⟩
theorem catch_panicking (b0 b1 b2 JB:Nat) (er:Int) (x:Value) (w:World) (h0:w.cell? ⟨b0,0,none⟩=some (.pointer (some ⟨JB,0,none⟩))) (h1:w.cell? ⟨b1,0,none⟩=some (.int .i64 0)) (h2:w.cell? ⟨b2,0,none⟩=some x) (hz:w.frozen? ⟨b2,0,none⟩=false) (hJ:w.cell? ⟨JB,0,none⟩=some (.slice none 0 0)) :
  CallsD Tryz.prog 62 #[.pointer (some ⟨b0,0,none⟩),.pointer (some ⟨b1,0,none⟩),.pointer (some ⟨b2,0,none⟩)] (.panicking [{ v:=failV er,recovered:=false }]) w fun e u' w'=>e=.returned (.tuple #[])∧u'=.panicking [{ v:=failV er,recovered:=true }]∧Below w.heap.size (w.setCell ⟨b2,0,none⟩ (.int .i64 er)) w':=by
 have l0:=block_lt_of_cell h0
 have l1:=block_lt_of_cell h1
 have l2:=block_lt_of_cell h2
 unfold failV
 refine callsD_of_wpS Tryz.func62 rfl fun c₀ cs hu=>?_
 refine wpS_seq ?_
 generalize hK:Code.wpS _ (Code.seq _ _) _=K
 generalize hQ:bodyPostS _ _ _ _ _=Q
 refine wpS_region ?_
 simp only [Tryz.ntmps62,List.size_toArray,List.length_cons,List.length_nil,Nat.reduceAdd,Nat.reduceSub,Array.replicate_succ,Array.replicate_zero,List.push_toArray,List.append_toArray,List.nil_append,List.cons_append]
 simp [wpOpsS,go_sem,recoverD,hu,Exit.thenS]
 subst hK
 subst hQ
 refine wpS_of_wp ?_
 have HL:=kp (jlen_0 JB w.drew hJ)
 have hta:∀ W:World,(Instr.typeAssert (.iface 119 (.agg #[.int .i64 er])) 20 119 true).run Tryz.prog W=.ok (.tuple #[.agg #[.int .i64 er],.bool true]) W:=fun W=>by kernel_rfl
 go_upto_region 2 with fail
 go_region_law (first
  | (go_simp;go_at_call 61;(with_reducible refine Calls.mono HL.out ?_);rintro e6 w6 ⟨rfl,rfl⟩;dsimp only)
  | fail)
 all_goals
  go_simp
  go_wp2_with fail
  exact ⟨rfl,_,rfl,.tuple #[],by simp [results,Tryz.results62,go_sem],rfl,rfl,bld ((show (w.setCell ⟨b2,0,none⟩ (.int .i64 er)).heap.size=w.heap.size by simp)▸blb (w.setCell ⟨b2,0,none⟩ (.int .i64 er)) _)⟩
def ActP (R:World→Prop) (Q:Int→World→Prop) (e:Ending) (w':World):Prop:=(e=.returned (.tuple #[])∧R w')∨∃ er:Int,e=.panicked [{ v:=failV er,recovered:=false }]∧Q er w'
def attL (n JB:Nat):List (Nat × Array Value):=[(n,#[.pointer (some ⟨JB,0,none⟩)]),(n+1,#[.int .i64 0]),(n+1+1,#[.int .i64 0]),(JB,#[.slice none 0 0,.bool false])]
def AttK (n JB:Nat) (W:World):Prop:=∀ p∈attL n JB,Bx W p.1 p.2
theorem attempt_any (f:Nat) (caps:Array Value) (JB:Nat) (w:World) (hE:EntF f) (hJB:Bx w JB #[.slice none 0 0,.bool false]) (R:World→Prop) (Q:Int→World→Prop)
  (hA:∀ Y:World,Below w.heap.size w Y→w.heap.size+1+1<Y.heap.size→AttK w.heap.size JB Y→Calls Tryz.prog f caps Y (ActP (fun W=>AttK w.heap.size JB W∧R W) (fun er W=>AttK w.heap.size JB W∧Q er W))) :
  Calls Tryz.prog 40 #[.pointer (some ⟨JB,0,none⟩),.func (.func f) #[] caps] w fun e w'=>(e=.returned (.int .i64 0)∧∃ W,R W∧Fr W w' (fun k=>k=w.heap.size+1))∨∃ er:Int,e=.returned (.int .i64 er)∧∃ W,Q er W∧Fr W w' (fun k=>k=w.heap.size+1):=by
 have hmf:∀ (fn:Fn) (first cap:Array Value) (w:World),(Instr.makeFunc fn first cap).run Tryz.prog w=.ok (.func fn first cap) w:=fun _ _ _ _=>rfl
 have hJ:w.cell? ⟨JB,0,none⟩=some (.slice none 0 0):=hJB.cell rfl
 have hlJ:JB<w.heap.size:=block_lt_of_cell hJ
 have HJB:=kp hJB
 clear hJB
 have hfn:∀ W:World,(binOp BinOp.eql 1 (.func (.func f) #[] caps) Value.nilFunc).run Tryz.prog W=.ok (.bool false) W:=fun W=>by kernel_rfl
 unfold EntF at hE
 have HJL:=kp (fun (Y:World) (hY:Y.cell? ⟨JB,0,none⟩=some (.slice none 0 0))=>jlen_0 JB Y hY)
 have HA:=kp hA
 clear hA
 go_enter_defers Tryz.func40,Tryz.ntmps40
 go_wp2_with fail
 refine (HJL.out _ (by simp [go_sem,hJ,hlJ])).mono ?_
 rintro e1 w1 ⟨rfl,rfl⟩
 go_wp2_with fail
 have HT:=kp (th3 w #[.pointer (some ⟨JB,0,none⟩)] #[.int .i64 0] #[.int .i64 0] 77 35 3)
 generalize ((w.alloc _).alloc _).alloc _=Y at HT ⊢
 refine (HA.out Y HT.out.1 HT.out.2.2.2.lt fun p hp=>by
  rcases List.mem_cons.1 hp with rfl | hp
  ·exact HT.out.2.1
  rcases List.mem_cons.1 hp with rfl | hp
  ·exact HT.out.2.2.1
  rcases List.mem_cons.1 hp with rfl | hp
  ·exact HT.out.2.2.2
  ·obtain rfl:=List.mem_singleton.1 hp
   exact HJB.out.below HT.out.1).mono ?_
 rintro e2 W (⟨rfl,hf,hR⟩ | ⟨er,rfl,hf,hQ⟩)
 ·have HB1:=kp (hf (w.heap.size+1,#[.int .i64 0]) (by simp [attL]))
  have HZ:=kp (And.intro hR (Fr.of_set W ⟨w.heap.size+1,0,none⟩ (.int .i64 0)))
  have c1:=HB1.out.cell (j:=0) rfl
  have f1:=HB1.out.free 0
  have l1:=HB1.out.lt
  have HS:=kp (HB1.out.set 0 (.int .i64 0))
  clear hf hR
  go_wp2_with fail
  generalize W.setCell _ _=W2 at HZ HS ⊢
  refine leaves_cons (f:=62) (args:=#[.pointer (some ⟨w.heap.size,0,none⟩),.pointer (some ⟨w.heap.size+1+1,0,none⟩),.pointer (some ⟨w.heap.size+1,0,none⟩)]) (by simp) (by simp [go_sem]) ?_
  refine (catch_idle _ _ _ _).mono ?_
  rintro e u' w'' ⟨rfl,rfl,rfl⟩
  have c2:=HS.out.cell (j:=0) (v:=.int .i64 0) rfl
  exact ⟨.int .i64 0,by simp [results,Tryz.results40,go_sem,c2],.inl ⟨rfl,W,HZ.out.1,HZ.out.2⟩⟩
 ·have HB0:=kp (hf (w.heap.size,#[.pointer (some ⟨JB,0,none⟩)]) (by simp [attL]))
  have HB1:=kp (hf (w.heap.size+1,#[.int .i64 0]) (by simp [attL]))
  have HB2:=kp (hf (w.heap.size+1+1,#[.int .i64 0]) (by simp [attL]))
  have hjw:=(hf (JB,#[.slice none 0 0,.bool false]) (by simp [attL])).cell (j:=0) (v:=.slice none 0 0) rfl
  have HZ:=kp hQ
  clear hf hQ
  refine leaves_cons (f:=62) (args:=#[.pointer (some ⟨w.heap.size,0,none⟩),.pointer (some ⟨w.heap.size+1+1,0,none⟩),.pointer (some ⟨w.heap.size+1,0,none⟩)]) (by simp) (by simp [go_sem]) ?_
  refine (catch_panicking w.heap.size (w.heap.size+1+1) (w.heap.size+1) JB er _ W (HB0.out.cell rfl) (HB2.out.cell rfl) (HB1.out.cell rfl) (HB1.out.free 0) hjw).mono ?_
  rintro e u' w'' ⟨rfl,rfl,hb⟩
  have hS:=(HB1.out.set 0 (.int .i64 er)).below (by simpa using hb)
  have c2:=hS.cell (j:=0) (v:=.int .i64 er) rfl
  have hfr:=(Fr.of_set W ⟨w.heap.size+1,0,none⟩ (.int .i64 er)).trans (Fr.of_below (by simpa using hb) fun k=>k=w.heap.size+1) fun k _ e=>e
  exact ⟨.int .i64 er,by simp [results,Tryz.results40,go_sem,c2],.inr ⟨er,rfl,W,HZ.out,hfr⟩⟩
theorem start1_any {C:Rc} (hC:RcOk C) {w:World} {G:Gs} {s:St} {env:List Ev} {loc dep:Nat} {T:List (Nat × Int)} (h:RuH C w G s env loc dep T) (hv:env.map (·.v)=C.P.vars) (hlo:loc≤env.length) (d:Nat) (back:Bool) (hnd:ex C.P.procs C.F d (.bl (ordK back C.P.main.kids)) dep env back s≠.deep) {VB PB KB:Nat} (hV:w.cell? ⟨VB,0,none⟩=some (.pointer (some ⟨C.RB,0,none⟩))) (hP:Bx w PB (pgC C.P C.Av C.Ap C.Am C.cv C.cp C.cm)) (hK:w.cell? ⟨KB,0,none⟩=some (.bool back)) :
  Calls Tryz.prog 41 #[.pointer (some ⟨VB,0,none⟩),.pointer (some ⟨PB,0,none⟩),.pointer (some ⟨KB,0,none⟩)] w (RunP C w G (ex C.P.procs C.F d (.bl (ordK back C.P.main.kids)) dep env back s)):=by
 have HBL:=kp (block_all hC d C.P.main env loc dep T w G s back C.Am C.cm h (by rw [hv];exact hC.main) hlo hC.at_.m hnd)
 generalize ex C.P.procs C.F d (.bl (ordK back C.P.main.kids)) dep env back s=r at *
 have lV:=block_lt_of_cell hV
 have lK:=block_lt_of_cell hK
 obtain ⟨p0,p1,p2,p3,p4,p5⟩:=hP.six1
 have lP:=hP.lt
 clear h hC hv hlo hnd hP
 go_enter Tryz.func41,Tryz.ntmps41
 go_wp2_with fail
 refine HBL.out.mono ?_
 intro e w1 h1
 cases r with
 | ok s'=>
   obtain ⟨rfl,G',h2⟩:=h1
   have HZ:=kp h2
   clear h2
   go_wp2_with fail
   go_end0
   exact ⟨rfl,G',HZ.out⟩
 | bad=>
   obtain ⟨er,h0,rfl,hb⟩:=h1
   exact ⟨rfl,er,h0,rfl,hb⟩
 | deep=>exact h1.elim
theorem four_new (w:World) (c1 c2 c3 c4:Array Value) (T1 T2 T3 T4:TypeId):Below w.heap.size w ((((w.alloc (Obj.cells c1 T1)).alloc (Obj.cells c2 T2)).alloc (Obj.cells c3 T3)).alloc (Obj.cells c4 T4))∧Bx ((((w.alloc (Obj.cells c1 T1)).alloc (Obj.cells c2 T2)).alloc (Obj.cells c3 T3)).alloc (Obj.cells c4 T4)) w.heap.size c1∧Bx ((((w.alloc (Obj.cells c1 T1)).alloc (Obj.cells c2 T2)).alloc (Obj.cells c3 T3)).alloc (Obj.cells c4 T4)) (w.heap.size+1) c2∧Bx ((((w.alloc (Obj.cells c1 T1)).alloc (Obj.cells c2 T2)).alloc (Obj.cells c3 T3)).alloc (Obj.cells c4 T4)) (w.heap.size+1+1) c3∧Bx ((((w.alloc (Obj.cells c1 T1)).alloc (Obj.cells c2 T2)).alloc (Obj.cells c3 T3)).alloc (Obj.cells c4 T4)) (w.heap.size+1+1+1) c4:=by
 obtain ⟨h1,h2,h3,h4⟩:=th3 w c1 c2 c3 T1 T2 T3
 have hz:(((w.alloc (Obj.cells c1 T1)).alloc (Obj.cells c2 T2)).alloc (Obj.cells c3 T3)).heap.size=w.heap.size+1+1+1:=by simp
 have h5:=blb (((w.alloc (Obj.cells c1 T1)).alloc (Obj.cells c2 T2)).alloc (Obj.cells c3 T3)) (Obj.cells c4 T4)
 refine ⟨bl2 h1 h5,h2.below h5,h3.below h5,h4.below h5,?_⟩
 have:=bxn (((w.alloc (Obj.cells c1 T1)).alloc (Obj.cells c2 T2)).alloc (Obj.cells c3 T3)) c4 T4
 rwa [hz] at this
theorem make_in (n:Nat) (hn:n≤1000000) (W:World):(Instr.makeSlice 30 (.int .i64 n) (.int .i64 n)).run Tryz.prog W=.ok (.slice (some ⟨W.heap.size,0,none⟩) n n) (W.alloc (.cells (madeCells #[.int .i64 0] n) 3)):=by
 obtain ⟨i0,hi0,hz0,hz1,hz2⟩:=info_parts info_int
 have h:=run_make (P:=Tryz.prog) W 30 3 i0 (.int .i64 0) Tryz.underlying30 hi0 hz0 .i64 .i64 n n (by omega) (Int.le_refl _) (by rw [hz2];omega) (by omega)
 rw [hz1] at h
 rw [show (Value.int .i64 0).cells=#[.int .i64 0] from rfl,Nat.mul_one] at h
 simpa using h
theorem made_in (n:Nat):madeCells #[Value.int .i64 0] n=((List.replicate n (0:Int)).map (Value.int .i64)).toArray:=by
 apply Array.toList_inj.1
 apply List.ext_getElem?
 intro i
 unfold madeCells
 rw [Array.getElem?_toList,Array.getElem?_map,List.getElem?_map]
 by_cases hi:i<n
 ·rw [Array.getElem?_range,if_pos hi,List.getElem?_replicate,if_pos hi]
  show some ((#[Value.int .i64 0]:Array Value)[i % 1]!)=_
  rw [Nat.mod_one];rfl
 ·rw [Array.getElem?_range,if_neg hi,List.getElem?_replicate,if_neg hi];rfl
def StQ (w:World) (r:Rs) (e:Ending) (w':World):Prop:=match r with
 | .ok s'=>∃ En nE cE Ac ca Ai ci Ao co,e=.returned (.tuple #[.slice En nE cE,.agg #[.slice Ac s'.m.mem.length ca,.slice Ai s'.m.inp.length ci,.slice Ao s'.m.out.length co,.int .i64 s'.k,.int .i64 0]])∧(∀ w'':World,Fr w' w'' (fun k=>k<w.heap.size)→SgAt w'' Ac Ai Ao ⟨s'.m.mem,s'.m.inp,s'.m.out⟩)∧Below w.heap.size w w'
 | .bad=>∃ En nE cE A1 n1 c1 A2 n2 c2 A3 n3 c3,∃ er:Int,er≠0∧e=.returned (.tuple #[.slice En nE cE,.agg #[.slice A1 n1 c1,.slice A2 n2 c2,.slice A3 n3 c3,.int .i64 0,.int .i64 er]])∧Below w.heap.size w w'
 | .deep=>False
structure RnB (P:Pg) (Av Ap Am:Option Addr) (cv cp cm SB F:Nat) (w:World) (VB RB EB:Nat) (wc:World):Prop where
 v:Bx wc VB #[.pointer (some ⟨RB,0,none⟩)]
 r:Bx wc RB #[.slice Av P.vars.length cv,.slice Ap P.procs.length cp,.int .u8 P.main.kind,.int .i64 P.main.num,.string P.main.name,.slice Am P.main.kids.length cm,.pointer (some ⟨SB,0,none⟩),.int .i64 0,.int .i64 F,.slice (some ⟨EB,0,none⟩) P.procs.length P.procs.length]
 e:Bx wc EB (madeCells #[.int .i64 0] P.procs.length)
 b:Below w.heap.size w wc
 gv:w.heap.size≤VB
 gr:w.heap.size≤RB
 ge:w.heap.size≤EB
 ne:RB≠EB
 nv:VB≠RB∧VB≠EB
theorem RnB.drew {P:Pg} {Av Ap Am:Option Addr} {cv cp cm SB F:Nat} {w:World} {VB RB EB:Nat} {wc:World} (h:RnB P Av Ap Am cv cp cm SB F w VB RB EB wc):RnB P Av Ap Am cv cp cm SB F w VB RB EB wc.drew:=
 have hb:=bld (Below.refl wc.heap.size wc)
 ⟨h.v.below hb,h.r.below hb,h.e.below hb,bld h.b,h.gv,h.gr,h.ge,h.ne,h.nv⟩
structure StA (C:Rc) (w7:World) (G:Gs) (r:Rs) (W:World) (Y:World) (G':Gs) (s':St):Prop where
 r:r=.ok s'
 b:Below w7.heap.size w7 Y
 s:RuS C Y G W G' s'
def rcOf (P:Pg) (Av Ap Am:Option Addr) (cv cp cm:Nat) (W1:World) (N RB EB F:Nat) (kp:List (Nat × Array Value)):Rc:=⟨P,Av,Ap,Am,cv,cp,cm,W1,N,RB,EB,F,kp⟩
theorem start_run {P:Pg} (hP:PgOk P) (hF:PgFit P) {S:Sg} (hft:FitH P.vars S) (hR:SgRng S) {F:Nat} (hFF:F≤1000000) {back:Bool} {d:Nat} (hnd:ex P.procs F d (.bl (ordK back P.main.kids)) 0 (glE P.vars) back ⟨0,⟨S.cells,S.inp,S.out⟩⟩≠.deep) {Av Ap Am:Option Addr} {cv cp cm:Nat} {W1 w3 wc w7:World} {VB RB EB JB PB KB N:Nat} {G:Gs} {vV cV:Value}
  (hK:PgAt W1 Av Ap Am P) (hN:W1.heap.size≤N) (h13:Below W1.heap.size W1 w3) (ho:StO N w3 G ⟨S.cells,S.inp,S.out⟩) (hfs:G.fs=[⟨glE P.vars,0,vV,cV⟩]) (hrn:RnB P Av Ap Am cv cp cm G.SB F w3 VB RB EB wc) (h7:Below wc.heap.size wc w7) (hJ1:wc.heap.size≤JB) (hJ2:JB<w7.heap.size) (hJB:Bx w7 JB #[.slice none 0 0,.bool false]) (hPB:Bx W1 PB (pgC P Av Ap Am cv cp cm)) (hKB:Bx W1 KB #[.bool back]) :
  Calls Tryz.prog 40 #[.pointer (some ⟨JB,0,none⟩),.func (.func 41) #[] #[.pointer (some ⟨VB,0,none⟩),.pointer (some ⟨PB,0,none⟩),.pointer (some ⟨KB,0,none⟩)]] w7 fun e w'=>
   (e=.returned (.int .i64 0)∧∃ W Y G' s',StA (rcOf P Av Ap Am cv cp cm W1 N RB EB F (attL w7.heap.size JB)) w7 G (ex P.procs F d (.bl (ordK back P.main.kids)) 0 (glE P.vars) back ⟨0,⟨S.cells,S.inp,S.out⟩⟩) W Y G' s'∧Fr W w' (fun k=>k=w7.heap.size+1))∨
   (∃ er:Int,er≠0∧e=.returned (.int .i64 er)∧ex P.procs F d (.bl (ordK back P.main.kids)) 0 (glE P.vars) back ⟨0,⟨S.cells,S.inp,S.out⟩⟩=.bad∧Below W1.heap.size W1 w'):=by
 have hs13:=h13.size
 have hs3c:=hrn.b.size
 have hsc7:=h7.size
 have hzero:∀ k,w3.heap.size≤k→G.R k=(0,0):=fun k hk=>by
  by_cases e:G.R k=(0,0)
  ·exact e
  ·have:=(ho.ge k e).2;omega
 have hN3:N≤w3.heap.size:=by
  obtain ⟨_,_,_,q⟩:=ho.sto
  have:=ho.ge G.SB (by rw [q];simp)
  omega
 refine (attempt_any _ _ JB w7 (fun _ _=>by kernel_rfl) hJB (fun W=>∃ Y G' s',StA (rcOf P Av Ap Am cv cp cm W1 N RB EB F (attL w7.heap.size JB)) w7 G (ex P.procs F d (.bl (ordK back P.main.kids)) 0 (glE P.vars) back ⟨0,⟨S.cells,S.inp,S.out⟩⟩) W Y G' s') (fun er W=>er≠0∧ex P.procs F d (.bl (ordK back P.main.kids)) 0 (glE P.vars) back ⟨0,⟨S.cells,S.inp,S.out⟩⟩=.bad∧Below W1.heap.size W1 W) fun Y hY hsz hka=>?_).mono ?_
 ·have h1Y:Below W1.heap.size W1 Y:=bl2 (bl2 h13 hrn.b) (bl2 h7 hY)
  have hcY:=bl2 h7 hY
  have h3Y:=bl2 hrn.b hcY
  have hRu:RuO (rcOf P Av Ap Am cv cp cm W1 N RB EB F (attL w7.heap.size JB)) Y G ⟨0,⟨S.cells,S.inp,S.out⟩⟩:=by
   refine ⟨ho.below h3Y,hrn.r.below hcY,⟨List.replicate P.procs.length 0,by simp [rcOf],?_⟩,hrn.ne,hzero _ hrn.gr,hzero _ hrn.ge,⟨h1Y,hka⟩,⟨hN,Nat.le_trans hN3 h3Y.size,Nat.le_trans hs13 hrn.gr,Nat.le_trans hs13 hrn.ge⟩,fun p hp=>?_⟩
   ·have:=hrn.e.below hcY
    rw [made_in] at this
    exact this
   ·have l1:=hrn.r.lt
    have l2:=hrn.e.lt
    have hp1:wc.heap.size≤p.1:=by
     rcases List.mem_cons.1 hp with rfl | hp
     ·exact hsc7
     rcases List.mem_cons.1 hp with rfl | hp
     ·exact Nat.le_trans hsc7 (by omega)
     rcases List.mem_cons.1 hp with rfl | hp
     ·exact Nat.le_trans hsc7 (by omega)
     ·obtain rfl:=List.mem_singleton.1 hp
      exact hJ1
    exact ⟨hzero _ (by omega),fun e=>by have e':p.1=RB:=e;omega,fun e=>by have e':p.1=EB:=e;omega⟩
  have hRh:RuH (rcOf P Av Ap Am cv cp cm W1 N RB EB F (attL w7.heap.size JB)) Y G ⟨0,⟨S.cells,S.inp,S.out⟩⟩ (glE P.vars) 0 0 (tyL P.vars):=
   ⟨hRu,⟨_,by rw [hfs];rfl,rfl,rfl⟩,by rw [hfs];rfl,glE_ok hP.names,hft.mok hR⟩
  refine (start1_any (C:=rcOf P Av Ap Am cv cp cm W1 N RB EB F (attL w7.heap.size JB)) ⟨hP,hF,hK,hFF⟩ hRh (glE_vs _) (Nat.zero_le _) d back hnd ((hrn.v.below hcY).cell rfl) (hPB.below h1Y) ((hKB.below h1Y).cell rfl)).mono fun e W hr=>?_
  have hr:RunP (rcOf P Av Ap Am cv cp cm W1 N RB EB F (attL w7.heap.size JB)) Y G (ex P.procs F d (.bl (ordK back P.main.kids)) 0 (glE P.vars) back ⟨0,⟨S.cells,S.inp,S.out⟩⟩) e W:=hr
  cases hc:ex P.procs F d (.bl (ordK back P.main.kids)) 0 (glE P.vars) back ⟨0,⟨S.cells,S.inp,S.out⟩⟩ with
  | deep=>exact absurd hc hnd
  | bad=>
    rw [hc] at hr
    obtain ⟨er,g1,g2,g3⟩:=hr
    exact .inr ⟨er,g2,g3.k,g1,rfl,g3.b⟩
  | ok s'=>
    rw [hc] at hr
    obtain ⟨rfl,G',h2⟩:=hr
    exact .inl ⟨rfl,h2.o.bw.k,Y,G',s',rfl,hY,h2⟩
 ·rintro e w' (⟨rfl,W,⟨Y,G',s',hA⟩,hf⟩ | ⟨er,rfl,W,⟨h0,hb,hw⟩,hf⟩)
  ·exact .inl ⟨rfl,W,Y,G',s',hA,hf⟩
  ·exact .inr ⟨er,h0,rfl,hb,hf.toBelow hw hw.size fun k e=>by omega⟩
theorem Bx.set5 {w:World} {b:Nat} {u0 u1 u2 u3 u4:Value} (h:Bx w b #[u0,u1,u2,u3,u4]) (v0 v1 v2 v3 v4:Value):Bx (((((w.setCell ⟨b,0,none⟩ v0).setCell ⟨b,1,none⟩ v1).setCell ⟨b,2,none⟩ v2).setCell ⟨b,3,none⟩ v3).setCell ⟨b,4,none⟩ v4) b #[v0,v1,v2,v3,v4]:=
 ((((h.set 0 v0).set 1 v1).set 2 v2).set 3 v3).set 4 v4
theorem Fr.set5 (w:World) (b:Nat) (v0 v1 v2 v3 v4:Value):Fr w (((((w.setCell ⟨b,0,none⟩ v0).setCell ⟨b,1,none⟩ v1).setCell ⟨b,2,none⟩ v2).setCell ⟨b,3,none⟩ v3).setCell ⟨b,4,none⟩ v4) (fun k=>k=b):=
 ((((Fr.of_set w ⟨b,0,none⟩ v0).trans (Fr.of_set _ ⟨b,1,none⟩ v1) fun _ _ e=>e).trans (Fr.of_set _ ⟨b,2,none⟩ v2) fun _ _ e=>e).trans (Fr.of_set _ ⟨b,3,none⟩ v3) fun _ _ e=>e).trans (Fr.of_set _ ⟨b,4,none⟩ v4) fun _ _ e=>e
structure StE (w4 W1:World) (VB RB EB SB n F:Nat) (s':St):Prop where
 b:Below W1.heap.size W1 w4
 v:w4.cell? ⟨VB,0,none⟩=some (.pointer (some ⟨RB,0,none⟩))
 r7:w4.cell? ⟨RB,7,none⟩=some (.int .i64 s'.k)
 r9:w4.cell? ⟨RB,9,none⟩=some (.slice (some ⟨EB,0,none⟩) n n)
 st:∀ Y:World,Below w4.heap.size w4 Y→Calls Tryz.prog 43 #[.pointer (some ⟨SB,0,none⟩)] Y (StaP s'.m Y)
theorem start_end {P:Pg} (hP:PgOk P) (hF:PgFit P) {S:Sg} (hft:FitH P.vars S) (hR:SgRng S) {F d:Nat} {back:Bool} {Av Ap Am:Option Addr} {cv cp cm:Nat} {W1 w3 wc w7 w4 W Y:World} {VB RB EB JB N:Nat} {G G':Gs} {s':St} {vV cV:Value} {r:Rs} (hr:ex P.procs F d (.bl (ordK back P.main.kids)) 0 (glE P.vars) back ⟨0,⟨S.cells,S.inp,S.out⟩⟩=r) (ho:StO N w3 G ⟨S.cells,S.inp,S.out⟩) (hfs:G.fs=[⟨glE P.vars,0,vV,cV⟩]) (hrn:RnB P Av Ap Am cv cp cm G.SB F w3 VB RB EB wc) (h7:Below wc.heap.size wc w7)
  (hA:StA (rcOf P Av Ap Am cv cp cm W1 N RB EB F (attL w7.heap.size JB)) w7 G r W Y G' s') (hf:Fr W w4 (fun k=>k=w7.heap.size+1)) (h1:W1.heap.size≤w7.heap.size):r=.ok s'∧StE w4 W1 VB RB EB G.SB P.procs.length F s':=by
 have hlt:=hrn.b.size
 have hz:G.R VB=(0,0):=by
  by_cases e:G.R VB=(0,0)
  ·exact e
  ·have:=(ho.ge VB e).2;have:=hrn.gv;omega
 have hcY:=bl2 h7 hA.b
 have hVY:=hrn.v.below hcY
 have hVW:=hA.s.bx hVY ⟨hz,hrn.nv.1,hrn.nv.2,hVY.lt⟩
 have hVl:=hrn.v.lt
 have hRl:=hrn.r.lt
 have hEl:=hrn.e.lt
 have hs7:=h7.size
 have hO:=hA.s.o
 have hk1:=hO.kr (w7.heap.size+1,#[.int .i64 0]) (by simp [rcOf,attL])
 have hRB:=hO.rb.fr hf (show ¬ RB=w7.heap.size+1 by omega)
 have hSt:StO N w4 G' s'.m:=hO.o.fr hf fun k _ hk0 _ e=>hk0 (e▸hk1.1)
 have hSB:G'.SB=G.SB:=hA.s.sb
 have hfs':G'.fs.map frS=[(glE P.vars,0)]:=by rw [hA.s.fs,hfs];rfl
 obtain ⟨f',hG',hf'⟩:∃ f',G'.fs=[f']∧frS f'=(glE P.vars,0):=by
  obtain ⟨f',e'⟩:=lone (l:=G'.fs) (by have:=congrArg List.length hfs';simpa using this)
  rw [e'] at hfs'
  exact ⟨f',e',by simpa using hfs'⟩
 obtain ⟨env',loc',vV',cV'⟩:=f'
 have e1:env'=glE P.vars:=congrArg Prod.fst hf'
 have e2:loc'=0:=congrArg Prod.snd hf'
 subst e1 e2
 have hmk:MOk (tyL P.vars) s'.m:=(rev_all (hP.pok hF) d (.bl (ordK back P.main.kids)) 0 (glE P.vars) back _ s' (tyL P.vars) (show TOk P.procs ((glE P.vars).map (·.v)) (.bl (ordK back P.main.kids)) from by rw [glE_vs];exact fun y hy=>hP.main hF y (mem_ord hy)) (glE_ok hP.names) (hft.mok hR) (hr.trans hA.r)).1
 have hml:s'.m.mem.length=P.vars.length:=by rw [hmk.len,tyL,List.length_map]
 refine ⟨hA.r,hf.toBelow hO.bw.b hO.bw.b.size fun k e=>?_,(hVW.fr hf (show ¬ VB=w7.heap.size+1 by omega)).cell rfl,hRB.cell rfl,hRB.cell rfl,fun Z hZ=>?_⟩
 ·have h2:W1.heap.size≤w7.heap.size:=h1
  have h3:(rcOf P Av Ap Am cv cp cm W1 N RB EB F (attL w7.heap.size JB)).W0.heap.size=W1.heap.size:=rfl
  omega
 ·have:=state_any (hSt.below hZ) hG' hml (by have:=hft.lv;omega) (fun c hc=>by have:=hmk.ln c hc;omega) hmk.li hmk.lo
  rw [hSB] at this
  exact this
theorem start_any (P:Pg) (hP:PgOk P) (hF:PgFit P) (S:Sg) (hS:SgFit S) (hR:SgRng S) (hfit:fitsB P.vars S=true) (F:Nat) (hFF:F≤1000000) (back:Bool) (d:Nat) (hnd:ex P.procs F d (.bl (ordK back P.main.kids)) 0 (glE P.vars) back ⟨0,⟨S.cells,S.inp,S.out⟩⟩≠.deep) (Av Ap Am:Option Addr) (cv cp cm:Nat) (Ac Ai Ao:Option Addr) (c1 c2 c3:Nat) (w:World) (hK:PgAt w Av Ap Am P) (hSl:SlOk Av P.vars.length cv) (hC:SgAt w Ac Ai Ao S) :
  Calls Tryz.prog 18 #[.agg (pgC P Av Ap Am cv cp cm),.agg #[.slice Ac S.cells.length c1,.slice Ai S.inp.length c2,.slice Ao S.out.length c3],.int .i64 F,.bool back] w (StQ w (ex P.procs F d (.bl (ordK back P.main.kids)) 0 (glE P.vars) back ⟨0,⟨S.cells,S.inp,S.out⟩⟩)):=by
 have hv:=val_bnd hP.v
 have hft:=fit_h hfit
 have HT:=kp (four_new w (pgC P Av Ap Am cv cp cm) #[.slice Ac S.cells.length c1,.slice Ai S.inp.length c2,.slice Ao S.out.length c3] #[.bool back] #[.slice none 0 0,.slice none 0 0,.slice none 0 0,.int .i64 0,.int .i64 0] 28 32 4 39)
 have HVA:=kp (fun (Y:World) (hY:Below w.heap.size w Y)=>valid_any P hF Av Ap Am cv cp cm Y (hK.mono hY))
 have HSC:=kp (fun (Y:World) (hY:Below w.heap.size w Y)=>scheck_any P hF Av Ap Am cv cp cm Y (hK.mono hY) hSl)
 rw [hP.v] at HVA HSC
 rw [if_pos rfl,hP.c] at HSC
 have hcl:∀ c∈S.cells,c.length≤100000:=fun c hc=>by have:=(hft.mok hR).ln c hc;omega
 have HNW:=kp (fun (Y:World) (hY:Below w.heap.size w Y)=>new_any P.vars S (by have:=hft.lv;omega) hcl hS Av cv Ac Ai Ao c1 c2 c3 Y (hK.v.mono hY) (hC.mono hY))
 rw [hfit] at HNW
 have HCS:=kp (fun (Y:World) (hY:Below w.heap.size w Y)=>scl_any S (by have:=hft.l;have:=hft.lv;omega) hcl (by have:=hft.i;omega) (by have:=hft.o;omega) Ac Ai Ao c1 c2 c3 Y (hC.mono hY))
 have hmk:=make_in P.procs.length (by have:=hv.lp;omega)
 have hlp:=hv.lp
 have HOK:=kp (And.intro hP (And.intro hF (And.intro hft (And.intro hR (And.intro hFF (And.intro hnd hK))))))
 obtain ⟨r,hr⟩:∃ r,ex P.procs F d (.bl (ordK back P.main.kids)) 0 (glE P.vars) back ⟨0,⟨S.cells,S.inp,S.out⟩⟩=r:=⟨_,rfl⟩
 rw [hr]
 have HRR:=kp hr
 clear hv hft hcl hP hF hS hR hfit hFF hnd hK hSl hC hr
 have hmf:∀ (fn:Fn) (first cap:Array Value) (w:World),(Instr.makeFunc fn first cap).run Tryz.prog w=.ok (.func fn first cap) w:=fun _ _ _ _=>rfl
 go_enter Tryz.func18,Tryz.ntmps18
 go_upto_region 1 with fail
 generalize (((w.alloc _).alloc _).alloc _).alloc _=W1 at HT ⊢
 have HG:=kp (fun (Y:World) (hY:Below W1.heap.size W1 Y)=>And.intro (HT.out.2.1.below hY) (And.intro (HT.out.2.2.1.below hY) (And.intro (HT.out.2.2.2.1.below hY) (And.intro (HT.out.2.2.2.2.below hY) (bl2 HT.out.1 hY)))))
 obtain ⟨g1,g2,_⟩:=HG.out W1 (Below.refl _ _)
 obtain ⟨p0,p1,p2,p3,p4,p5⟩:=g1.six1
 have hlp1:=g1.lt
 clear g1 g2
 go_wp2_with fail
 refine (HVA.out W1 HT.out.1).mono ?_
 rintro e1 w1 ⟨rfl,hb1⟩
 have HB1:=kp hb1
 clear p0 p1 p2 p3 p4 p5 hlp1 hb1
 obtain ⟨g1,g2,_⟩:=HG.out w1 HB1.out
 obtain ⟨p0,p1,p2,p3,p4,p5⟩:=g1.six1
 have hlp1:=g1.lt
 clear g1 g2
 go_wp2_with fail
 refine (HSC.out w1 (bl2 HT.out.1 HB1.out)).mono ?_
 rintro e2 w2 ⟨A2,n2,rfl,hb2⟩
 have HB2:=kp (bl2 HB1.out hb2)
 clear p0 p1 p2 p3 p4 p5 hlp1 hb2
 obtain ⟨g1,g2,_⟩:=HG.out w2 HB2.out
 obtain ⟨p0,p1,p2,p3,p4,p5⟩:=g1.six1
 have hlp1:=g1.lt
 obtain ⟨s0,s1,s2,_⟩:=g2.three
 have hls:=g2.lt
 clear g1 g2
 go_wp2_with fail
 refine (HNW.out w2 (bl2 HT.out.1 HB2.out)).mono ?_
 rintro e3 w3 ⟨SB,N,hN,rfl,hnw,hb3⟩
 have HB3:=kp (bl2 HB2.out hb3)
 have HNR:=kp (And.intro (Nat.le_trans HB2.out.size hN) hnw)
 clear p0 p1 p2 p3 p4 p5 hlp1 s0 s1 s2 hls hb3 hN hnw
 obtain ⟨g1,g2,_⟩:=HG.out w3 HB3.out
 obtain ⟨p0,p1,p2,p3,p4,p5⟩:=g1.six1
 have hlp1:=g1.lt
 clear g1 g2
 go_upto_region 6 with fail
 go_cut [12] (fun v12 wc=>∃ VB RB EB,v12=.pointer (some ⟨VB,0,none⟩)∧Hid (RnB P Av Ap Am cv cp cm SB F w3 VB RB EB wc))
 case first=>
  go_region
  all_goals
   go_wp2_with fail
   go_meet
   first
   | exact ⟨_,_,_,rfl,kp (RnB.drew ⟨(th3 w3 _ _ _ _ _ _).2.2.2,(th3 w3 _ _ _ _ _ _).2.2.1,(th3 w3 _ _ _ _ _ _).2.1,(th3 w3 _ _ _ _ _ _).1,by omega,by omega,by omega,by omega,by omega⟩)⟩
   | exact ⟨_,_,_,rfl,kp (RnB.drew ⟨(th3 w3 _ _ _ _ _ _).2.2.1,(th3 w3 _ _ _ _ _ _).2.2.2,(th3 w3 _ _ _ _ _ _).2.1,(th3 w3 _ _ _ _ _ _).1,by omega,by omega,by omega,by omega,by omega⟩)⟩
   | exact ⟨_,_,_,rfl,kp (RnB.drew ⟨(th3 w3 _ _ _ _ _ _).2.1,(th3 w3 _ _ _ _ _ _).2.2.2,(th3 w3 _ _ _ _ _ _).2.2.1,(th3 w3 _ _ _ _ _ _).1,by omega,by omega,by omega,by omega,by omega⟩)⟩
 case rest=>
  obtain ⟨VB,RB,EB,rfl,HRN⟩:=hcut
  clear p0 p1 p2 p3 p4 p5 hlp1
  obtain ⟨G,vV,cV,hSto,hSB,hfs,hml⟩:=HNR.out.2
  have HFS:=kp (And.intro hSB (And.intro hfs hml))
  have HB7:=kp (blb wc (Obj.cells #[.slice none 0 0,.bool false] 80))
  have HJB:=kp (bxn wc #[.slice none 0 0,.bool false] 80)
  have HAT:=kp (start_run HOK.out.1 HOK.out.2.1 HOK.out.2.2.1 HOK.out.2.2.2.1 HOK.out.2.2.2.2.1 HOK.out.2.2.2.2.2.1 (HOK.out.2.2.2.2.2.2.mono HT.out.1) HNR.out.1 HB3.out hSto hfs (hSB▸HRN.out) HB7.out (Nat.le_refl _) HJB.out.lt HJB.out HT.out.2.1 HT.out.2.2.2.1)
  rw [HRR.out] at HAT
  have HSO:=kp hSto
  clear hSto hSB hfs hml
  go_wp2_with fail
  refine HAT.out.mono ?_
  rintro e4 w4 (⟨rfl,W,Y,G',s',hA,hf⟩ | ⟨er,h0,rfl,hbad,hbw⟩)
  ·have HFN:=kp (start_end HOK.out.1 HOK.out.2.1 HOK.out.2.2.1 HOK.out.2.2.2.1 HRR.out HSO.out HFS.out.2.1 (HFS.out.1▸HRN.out) HB7.out hA hf (Nat.le_trans HB3.out.size (Nat.le_trans HRN.out.b.size HB7.out.size)))
   clear hA hf
   rw [HFS.out.1] at HFN
   have HS:=kp (fun (Y:World) (hY:Below w4.heap.size w4 Y)=>And.intro (blc hY HFN.out.2.v) (And.intro (blc hY HFN.out.2.r7) (blc hY HFN.out.2.r9)))
   have HR4:=kp (HG.out w4 HFN.out.2.b).2.2.2.1
   have HST:=kp (HFN.out.2.st w4.drew (bld (Below.refl _ _)))
   have HBW:=kp (bl2 HT.out.1 HFN.out.2.b)
   obtain ⟨y0,y1,y2⟩:=HS.out w4 (Below.refl _ _)
   have ly0:=block_lt_of_cell y0
   have ly1:=block_lt_of_cell y1
   have r0:=HR4.out.cell (j:=0) rfl
   have r1:=HR4.out.cell (j:=1) rfl
   have r2:=HR4.out.cell (j:=2) rfl
   have r3:=HR4.out.cell (j:=3) rfl
   have r4:=HR4.out.cell (j:=4) rfl
   have z0:=HR4.out.free 0
   have z1:=HR4.out.free 1
   have z2:=HR4.out.free 2
   have z3:=HR4.out.free 3
   have z4:=HR4.out.free 4
   have hlr:=HR4.out.lt
   have hbP:=Below.refl w4.heap.size w4
   go_upto_region 10 with fail
   go_region_law (first
    | (go_simp;go_at_call 43;(with_reducible refine Calls.mono HST.out ?_);rintro e5 w5 ⟨A1,A2,A3,d1,d2,d3,rfl,hsg,hb5⟩;have HB5:=kp (bl2 (W:=w4) (bld hbP) hb5);have HSG:=kp hsg;have HR5:=kp (HR4.out.below HB5.out);obtain ⟨x0,x1,x2⟩:=HS.out w5 HB5.out;have lx0:=block_lt_of_cell x0;have lx1:=block_lt_of_cell x1;have q0:=HR5.out.cell (j:=0) rfl;have q1:=HR5.out.cell (j:=1) rfl;have q2:=HR5.out.cell (j:=2) rfl;have q3:=HR5.out.cell (j:=3) rfl;have q4:=HR5.out.cell (j:=4) rfl;have t0:=HR5.out.free 0;have t1:=HR5.out.free 1;have t2:=HR5.out.free 2;have t3:=HR5.out.free 3;have t4:=HR5.out.free 4;have hlr5:=HR5.out.lt;clear hsg hb5;dsimp only)
    | fail)
   all_goals
    have HFB:=kp (HR5.out.set5 (.slice A1 s'.m.mem.length d1) (.slice A2 s'.m.inp.length d2) (.slice A3 s'.m.out.length d3) (.int .i64 s'.k) (.int .i64 0))
    have HFF:=kp (Fr.set5 w5 (w.heap.size+1+1+1) (.slice A1 s'.m.mem.length d1) (.slice A2 s'.m.inp.length d2) (.slice A3 s'.m.out.length d3) (.int .i64 s'.k) (.int .i64 0))
    clear y0 y1 y2 ly0 ly1 r0 r1 r2 r3 r4 z0 z1 z2 z3 z4 hlr x0 x1 x2 lx0 lx1 q0 q1 q2 q3 q4 t0 t1 t2 t3 t4 hlr5
    generalize World.setCell _ _ _=WF at HFB HFF ⊢
    have hZ:=HFF.out.toBelow (bl2 HBW.out HB5.out) (by have:=(bl2 HBW.out HB5.out).size;omega) fun k e=>by omega
    have c0:=HFB.out.cell (j:=0) rfl
    have c1:=HFB.out.cell (j:=1) rfl
    have c2:=HFB.out.cell (j:=2) rfl
    have c3:=HFB.out.cell (j:=3) rfl
    have c4:=HFB.out.cell (j:=4) rfl
    have hq:=HR4.out.lt
    have HZ:=kp (show StQ w r (.returned (.tuple #[.slice (some ⟨EB,0,none⟩) P.procs.length P.procs.length,.agg #[.slice A1 s'.m.mem.length d1,.slice A2 s'.m.inp.length d2,.slice A3 s'.m.out.length d3,.int .i64 s'.k,.int .i64 0]])) WF from by
     rw [HFN.out.1]
     exact ⟨_,_,_,_,_,_,_,_,_,rfl,fun w'' h2=>HSG.out w'' ((HFF.out.mono (m':=fun k=>k≤w4.drew.heap.size) fun k _ e=>by
      have e':k=w.heap.size+1+1+1:=e
      show k≤w4.heap.size
      omega).trans h2 fun k _ e=>by
      have e':k<w.heap.size:=e
      show k≤w4.heap.size
      omega),hZ⟩)
    clear hZ hq
    go_wp2_with fail
    exact bodyPost_ret (v:=.tuple #[.slice (some ⟨EB,0,none⟩) P.procs.length P.procs.length,.agg #[.slice A1 s'.m.mem.length d1,.slice A2 s'.m.inp.length d2,.slice A3 s'.m.out.length d3,.int .i64 s'.k,.int .i64 0]]) (by simp [results,Tryz.results18,go_sem,c0,c1,c2,c3,c4]) rfl HZ.out
  ·have HBW:=kp (And.intro hbad hbw)
   have h0':(er != 0)=true:=by simpa using h0
   have HE0:=kp h0
   obtain ⟨_,g2,_,g4,_⟩:=HG.out w4 hbw
   obtain ⟨s0,s1,s2,_⟩:=g2.three
   have hls:=g2.lt
   have HG4:=kp g4
   clear g2 g4 hbad hbw h0
   go_wp2_with fail
   refine (HCS.out w4 (bl2 HT.out.1 HBW.out.2)).mono ?_
   rintro e5 w5 ⟨A1,n1,d1,A2,n2,d2,A3,n3,d3,rfl,hb5⟩
   have HR5:=kp (HG4.out.below hb5)
   have HB5:=kp (bl2 HBW.out.2 hb5)
   have HFB:=kp (HR5.out.set5 (.slice A1 n1 d1) (.slice A2 n2 d2) (.slice A3 n3 d3) (.int .i64 0) (.int .i64 er))
   have HFF:=kp (Fr.set5 w5 (w.heap.size+1+1+1) (.slice A1 n1 d1) (.slice A2 n2 d2) (.slice A3 n3 d3) (.int .i64 0) (.int .i64 er))
   have r0:=HR5.out.cell (j:=0) rfl
   have r1:=HR5.out.cell (j:=1) rfl
   have r2:=HR5.out.cell (j:=2) rfl
   have r3:=HR5.out.cell (j:=3) rfl
   have r4:=HR5.out.cell (j:=4) rfl
   have z0:=HR5.out.free 0
   have z1:=HR5.out.free 1
   have z2:=HR5.out.free 2
   have z3:=HR5.out.free 3
   have z4:=HR5.out.free 4
   have hlr:=HR5.out.lt
   clear hb5 s0 s1 s2 hls
   go_wp2_with fail
   generalize World.setCell _ _ _=WF at HFB HFF ⊢
   have c0:=HFB.out.cell (j:=0) rfl
   have c1:=HFB.out.cell (j:=1) rfl
   have c2:=HFB.out.cell (j:=2) rfl
   have c3:=HFB.out.cell (j:=3) rfl
   have c4:=HFB.out.cell (j:=4) rfl
   have hZ:=HFF.out.toBelow (bl2 HT.out.1 HB5.out) (by have:=(bl2 HT.out.1 HB5.out).size;omega) fun k e=>by omega
   obtain rfl:=HBW.out.1
   exact bodyPost_ret (v:=.tuple #[.slice none 0 0,.agg #[.slice A1 n1 d1,.slice A2 n2 d2,.slice A3 n3 d3,.int .i64 0,.int .i64 er]]) (by simp [results,Tryz.results18,go_sem,c0,c1,c2,c3,c4]) rfl ⟨_,_,_,_,_,_,_,_,_,_,_,_,er,HE0.out,rfl,hZ⟩
def FwQ (w:World) (r:Rs) (e:Ending) (w':World):Prop:=match r with
 | .ok s'=>∃ Ac ca Ai ci Ao co,e=.returned (.agg #[.slice Ac s'.m.mem.length ca,.slice Ai s'.m.inp.length ci,.slice Ao s'.m.out.length co,.int .i64 s'.k,.int .i64 0])∧(∀ w'':World,Fr w' w'' (fun k=>k<w.heap.size)→SgAt w'' Ac Ai Ao ⟨s'.m.mem,s'.m.inp,s'.m.out⟩)∧Below w.heap.size w w'
 | .bad=>∃ A1 n1 c1 A2 n2 c2 A3 n3 c3,∃ er:Int,er≠0∧e=.returned (.agg #[.slice A1 n1 c1,.slice A2 n2 c2,.slice A3 n3 c3,.int .i64 0,.int .i64 er])∧Below w.heap.size w w'
 | .deep=>False
theorem StQ.both {w w':World} {r:Rs} {e:Ending} (h:StQ w r e w'):∃ En nE cE A1 n1 c1 A2 n2 c2 A3 n3 c3,∃ k er:Int,e=.returned (.tuple #[.slice En nE cE,.agg #[.slice A1 n1 c1,.slice A2 n2 c2,.slice A3 n3 c3,.int .i64 k,.int .i64 er]])∧Below w.heap.size w w'∧∀ (w0 wf:World),w0.heap.size≤w.heap.size→Below w0.heap.size w0 wf→Fr w' wf (fun k=>k<w.heap.size)→FwQ w0 r (.returned (.agg #[.slice A1 n1 c1,.slice A2 n2 c2,.slice A3 n3 c3,.int .i64 k,.int .i64 er])) wf:=by
 cases r with
 | ok s'=>
   obtain ⟨En,nE,cE,Ac,ca,Ai,ci,Ao,co,h1,h2,h3⟩:=h
   exact ⟨_,_,_,_,_,_,_,_,_,_,_,_,_,_,h1,h3,fun w0 wf hs hb hw=>⟨_,_,_,_,_,_,rfl,fun w'' hw2=>h2 w'' (hw.trans hw2 fun k _ e=>by have e':k<w0.heap.size:=e;show k<w.heap.size;omega),hb⟩⟩
 | bad=>
   obtain ⟨En,nE,cE,A1,n1,c1,A2,n2,c2,A3,n3,c3,er,h0,h1,h2⟩:=h
   exact ⟨_,_,_,_,_,_,_,_,_,_,_,_,_,_,h1,h2,fun w0 wf _ hb _=>⟨_,_,_,_,_,_,_,_,_,er,h0,rfl,hb⟩⟩
 | deep=>exact h.elim
theorem forward_any (P:Pg) (hP:PgOk P) (hF:PgFit P) (S:Sg) (hS:SgFit S) (hR:SgRng S) (hfit:fitsB P.vars S=true) (F:Nat) (hFF:F≤1000000) (d:Nat) (hnd:ex P.procs F d (.bl (ordK false P.main.kids)) 0 (glE P.vars) false ⟨0,⟨S.cells,S.inp,S.out⟩⟩≠.deep) (Av Ap Am:Option Addr) (cv cp cm:Nat) (Ac Ai Ao:Option Addr) (c1 c2 c3:Nat) (w:World) (hK:PgAt w Av Ap Am P) (hSl:SlOk Av P.vars.length cv) (hC:SgAt w Ac Ai Ao S) :
  Calls Tryz.prog 7 #[.agg (pgC P Av Ap Am cv cp cm),.agg #[.slice Ac S.cells.length c1,.slice Ai S.inp.length c2,.slice Ao S.out.length c3],.int .i64 F] w (FwQ w (ex P.procs F d (.bl (ordK false P.main.kids)) 0 (glE P.vars) false ⟨0,⟨S.cells,S.inp,S.out⟩⟩)):=by
 have HT:=kp (th3 w (pgC P Av Ap Am cv cp cm) #[.slice Ac S.cells.length c1,.slice Ai S.inp.length c2,.slice Ao S.out.length c3] #[.slice none 0 0,.slice none 0 0,.slice none 0 0,.int .i64 0,.int .i64 0] 28 32 39)
 have HST:=kp (fun (Y:World) (hY:Below w.heap.size w Y)=>start_any P hP hF S hS hR hfit F hFF false d hnd Av Ap Am cv cp cm Ac Ai Ao c1 c2 c3 Y (hK.mono hY) hSl (hC.mono hY))
 generalize ex P.procs F d (.bl (ordK false P.main.kids)) 0 (glE P.vars) false ⟨0,⟨S.cells,S.inp,S.out⟩⟩=r at HST ⊢
 clear hP hF hS hR hfit hFF hnd hK hSl hC
 go_enter Tryz.func7,Tryz.ntmps7
 go_upto_region 1 with fail
 generalize ((w.alloc _).alloc _).alloc _=W at HT ⊢
 obtain ⟨p0,p1,p2,p3,p4,p5⟩:=HT.out.2.1.six1
 obtain ⟨s0,s1,s2,_⟩:=HT.out.2.2.1.three
 have lp:=HT.out.2.1.lt
 have ls:=HT.out.2.2.1.lt
 go_wp2_with fail
 refine (HST.out W HT.out.1).mono ?_
 intro e9 w1 h1
 obtain ⟨En,nE,cE,A1,n1,e1,A2,n2,e2,A3,n3,e3,k,er,rfl,hb1,hq⟩:=h1.both
 have HQ:=kp hq
 have HB1:=kp (bl2 HT.out.1 hb1)
 have HR1:=kp (HT.out.2.2.2.below hb1)
 clear h1 hq hb1 p0 p1 p2 p3 p4 p5 s0 s1 s2 lp ls
 go_upto_region 2 with fail
 have HBX:=kp (blb w1 (Obj.cells #[.slice A1 n1 e1,.slice A2 n2 e2,.slice A3 n3 e3,.int .i64 k,.int .i64 er] 39))
 have HRX:=kp (bxn w1 #[.slice A1 n1 e1,.slice A2 n2 e2,.slice A3 n3 e3,.int .i64 k,.int .i64 er] 39)
 generalize w1.alloc _=W2 at HBX HRX ⊢
 have HR2:=kp (HR1.out.below HBX.out)
 have x0:=HRX.out.cell (j:=0) rfl
 have x1:=HRX.out.cell (j:=1) rfl
 have x2:=HRX.out.cell (j:=2) rfl
 have x3:=HRX.out.cell (j:=3) rfl
 have x4:=HRX.out.cell (j:=4) rfl
 have lx:=HRX.out.lt
 have r0:=HR2.out.cell (j:=0) rfl
 have r1:=HR2.out.cell (j:=1) rfl
 have r2:=HR2.out.cell (j:=2) rfl
 have r3:=HR2.out.cell (j:=3) rfl
 have r4:=HR2.out.cell (j:=4) rfl
 have z0:=HR2.out.free 0
 have z1:=HR2.out.free 1
 have z2:=HR2.out.free 2
 have z3:=HR2.out.free 3
 have z4:=HR2.out.free 4
 have lr:=HR2.out.lt
 have HFB:=kp (HR2.out.set5 (.slice A1 n1 e1) (.slice A2 n2 e2) (.slice A3 n3 e3) (.int .i64 k) (.int .i64 er))
 have HFF:=kp (Fr.set5 W2 (w.heap.size+1+1) (.slice A1 n1 e1) (.slice A2 n2 e2) (.slice A3 n3 e3) (.int .i64 k) (.int .i64 er))
 have HZ:=kp (fun (WF:World) (hF:Fr W2 WF (fun k=>k=w.heap.size+1+1))=>show FwQ w r (.returned (.agg #[.slice A1 n1 e1,.slice A2 n2 e2,.slice A3 n3 e3,.int .i64 k,.int .i64 er])) WF from by
  have hlr:=HT.out.2.2.2.lt
  have hb2:=bl2 HB1.out HBX.out
  exact HQ.out w WF HT.out.1.size (hF.toBelow hb2 hb2.size fun k e=>by omega) ((Fr.of_below HBX.out _).trans (hF.mono (m':=fun k=>k<W.heap.size) fun k _ e=>by have e':k=w.heap.size+1+1:=e;omega) fun _ _ e=>e))
 go_wp2_with fail
 generalize World.setCell _ _ _=WF at HFB HFF ⊢
 have c0:=HFB.out.cell (j:=0) rfl
 have c1:=HFB.out.cell (j:=1) rfl
 have c2:=HFB.out.cell (j:=2) rfl
 have c3:=HFB.out.cell (j:=3) rfl
 have c4:=HFB.out.cell (j:=4) rfl
 exact bodyPost_ret (v:=.agg #[.slice A1 n1 e1,.slice A2 n2 e2,.slice A3 n3 e3,.int .i64 k,.int .i64 er]) (by simp [results,Tryz.results7,go_sem,c0,c1,c2,c3,c4]) rfl (HZ.out WF HFF.out)
theorem backward_any (P:Pg) (hP:PgOk P) (hF:PgFit P) (S:Sg) (hS:SgFit S) (hR:SgRng S) (hfit:fitsB P.vars S=true) (F:Nat) (hFF:F≤1000000) (d:Nat) (hnd:ex P.procs F d (.bl (ordK true P.main.kids)) 0 (glE P.vars) true ⟨0,⟨S.cells,S.inp,S.out⟩⟩≠.deep) (Av Ap Am:Option Addr) (cv cp cm:Nat) (Ac Ai Ao:Option Addr) (c1 c2 c3:Nat) (w:World) (hK:PgAt w Av Ap Am P) (hSl:SlOk Av P.vars.length cv) (hC:SgAt w Ac Ai Ao S) :
  Calls Tryz.prog 8 #[.agg (pgC P Av Ap Am cv cp cm),.agg #[.slice Ac S.cells.length c1,.slice Ai S.inp.length c2,.slice Ao S.out.length c3],.int .i64 F] w (FwQ w (ex P.procs F d (.bl (ordK true P.main.kids)) 0 (glE P.vars) true ⟨0,⟨S.cells,S.inp,S.out⟩⟩)):=by
 have HT:=kp (th3 w (pgC P Av Ap Am cv cp cm) #[.slice Ac S.cells.length c1,.slice Ai S.inp.length c2,.slice Ao S.out.length c3] #[.slice none 0 0,.slice none 0 0,.slice none 0 0,.int .i64 0,.int .i64 0] 28 32 39)
 have HST:=kp (fun (Y:World) (hY:Below w.heap.size w Y)=>start_any P hP hF S hS hR hfit F hFF true d hnd Av Ap Am cv cp cm Ac Ai Ao c1 c2 c3 Y (hK.mono hY) hSl (hC.mono hY))
 generalize ex P.procs F d (.bl (ordK true P.main.kids)) 0 (glE P.vars) true ⟨0,⟨S.cells,S.inp,S.out⟩⟩=r at HST ⊢
 clear hP hF hS hR hfit hFF hnd hK hSl hC
 go_enter Tryz.func8,Tryz.ntmps8
 go_upto_region 1 with fail
 generalize ((w.alloc _).alloc _).alloc _=W at HT ⊢
 obtain ⟨p0,p1,p2,p3,p4,p5⟩:=HT.out.2.1.six1
 obtain ⟨s0,s1,s2,_⟩:=HT.out.2.2.1.three
 have lp:=HT.out.2.1.lt
 have ls:=HT.out.2.2.1.lt
 go_wp2_with fail
 refine (HST.out W HT.out.1).mono ?_
 intro e9 w1 h1
 obtain ⟨En,nE,cE,A1,n1,e1,A2,n2,e2,A3,n3,e3,k,er,rfl,hb1,hq⟩:=h1.both
 have HQ:=kp hq
 have HB1:=kp (bl2 HT.out.1 hb1)
 have HR1:=kp (HT.out.2.2.2.below hb1)
 clear h1 hq hb1 p0 p1 p2 p3 p4 p5 s0 s1 s2 lp ls
 go_upto_region 2 with fail
 have HBX:=kp (blb w1 (Obj.cells #[.slice A1 n1 e1,.slice A2 n2 e2,.slice A3 n3 e3,.int .i64 k,.int .i64 er] 39))
 have HRX:=kp (bxn w1 #[.slice A1 n1 e1,.slice A2 n2 e2,.slice A3 n3 e3,.int .i64 k,.int .i64 er] 39)
 generalize w1.alloc _=W2 at HBX HRX ⊢
 have HR2:=kp (HR1.out.below HBX.out)
 have x0:=HRX.out.cell (j:=0) rfl
 have x1:=HRX.out.cell (j:=1) rfl
 have x2:=HRX.out.cell (j:=2) rfl
 have x3:=HRX.out.cell (j:=3) rfl
 have x4:=HRX.out.cell (j:=4) rfl
 have lx:=HRX.out.lt
 have r0:=HR2.out.cell (j:=0) rfl
 have r1:=HR2.out.cell (j:=1) rfl
 have r2:=HR2.out.cell (j:=2) rfl
 have r3:=HR2.out.cell (j:=3) rfl
 have r4:=HR2.out.cell (j:=4) rfl
 have z0:=HR2.out.free 0
 have z1:=HR2.out.free 1
 have z2:=HR2.out.free 2
 have z3:=HR2.out.free 3
 have z4:=HR2.out.free 4
 have lr:=HR2.out.lt
 have HFB:=kp (HR2.out.set5 (.slice A1 n1 e1) (.slice A2 n2 e2) (.slice A3 n3 e3) (.int .i64 k) (.int .i64 er))
 have HFF:=kp (Fr.set5 W2 (w.heap.size+1+1) (.slice A1 n1 e1) (.slice A2 n2 e2) (.slice A3 n3 e3) (.int .i64 k) (.int .i64 er))
 have HZ:=kp (fun (WF:World) (hF:Fr W2 WF (fun k=>k=w.heap.size+1+1))=>show FwQ w r (.returned (.agg #[.slice A1 n1 e1,.slice A2 n2 e2,.slice A3 n3 e3,.int .i64 k,.int .i64 er])) WF from by
  have hlr:=HT.out.2.2.2.lt
  have hb2:=bl2 HB1.out HBX.out
  exact HQ.out w WF HT.out.1.size (hF.toBelow hb2 hb2.size fun k e=>by omega) ((Fr.of_below HBX.out _).trans (hF.mono (m':=fun k=>k<W.heap.size) fun k _ e=>by have e':k=w.heap.size+1+1:=e;omega) fun _ _ e=>e))
 go_wp2_with fail
 generalize World.setCell _ _ _=WF at HFB HFF ⊢
 have c0:=HFB.out.cell (j:=0) rfl
 have c1:=HFB.out.cell (j:=1) rfl
 have c2:=HFB.out.cell (j:=2) rfl
 have c3:=HFB.out.cell (j:=3) rfl
 have c4:=HFB.out.cell (j:=4) rfl
 exact bodyPost_ret (v:=.agg #[.slice A1 n1 e1,.slice A2 n2 e2,.slice A3 n3 e3,.int .i64 k,.int .i64 er]) (by simp [results,Tryz.results8,go_sem,c0,c1,c2,c3,c4]) rfl (HZ.out WF HFF.out)
end Go.Proofs.YtgbomnibedefoaaGreatDoor
