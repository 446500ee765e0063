import Derived.Lib.AtoiErrMem
import Derived.Test.YtgbomnibedefoaaGreatDoorQa11
import Derived.Test.YtgbomnibedefoaaGreatDoorQa17
import Derived.Test.YtgbomnibedefoaaGreatDoorQa20
set_option maxRecDepth 100000
set_option maxHeartbeats 8000000
namespace Go.Proofs.YtgbomnibedefoaaGreatDoor
open Go.ChangeShapes Go.WideShapes Go.ChangeAt Go.RowKit Go.Sort Go.Maps
def PnP (p:Ps) (x:Nd) (k:Nat) (w:World) (e:Ending) (w':World):Prop:=∃ A c,e=.returned (.agg (ndC x A c))∧NdsD w' w.heap.size w'.heap.size A x.kids∧SlOk A x.kids.length c∧PsO w' p k∧Fr w w' (fun k=>k=p.PB)
def NdC (f:Nat) (vs:List Value) (p:Ps) (x:Nd) (k k':Nat):Prop:=∀ w,PsO w p k→Calls Tryz.prog f (Value.pointer (some ⟨p.PB,0,none⟩)::vs).toArray w (PnP p x k' w)
theorem Fr.from {w w1 w2:World} {PB:Nat} (h:Fr w w1 (fun k=>k=PB)) (hb:Below w1.heap.size w1 w2):Fr w w2 (fun k=>k=PB):=h.trans (Fr.of_below hb _) fun _ _ e=>e
theorem Fr.then {w w1 w2:World} {PB:Nat} (h:Fr w w1 (fun k=>k=PB)) (h2:Fr w1 w2 (fun k=>k=PB)):Fr w w2 (fun k=>k=PB):=h.trans h2 fun _ _ e=>e
theorem nd_fin {w W:World} {p:Ps} {k:Nat} {x:Nd} {A:Option Addr} {c RB lo:Nat} {u0 u1 u2 u3:Value} (hp:p.PB<w.heap.size) (hm:p.MB<w.heap.size) (hP:PsO W p k) (hF:Fr w W (fun k=>k=p.PB)) (hA:∀ b o,p.A=some ⟨b,o,none⟩→b<w.heap.size) (hR:Bx W RB #[u0,u1,u2,u3]) (hRB:w.heap.size≤RB) (hlo:RB<lo) (hD:NdsD W lo W.heap.size A x.kids) (hS:SlOk A x.kids.length c) :
  Bx ((((W.setCell ⟨RB,0,none⟩ (.int .u8 x.kind)).setCell ⟨RB,1,none⟩ (.int .i64 x.num)).setCell ⟨RB,2,none⟩ (.string x.name)).setCell ⟨RB,3,none⟩ (.slice A x.kids.length c)) RB (ndC x A c)∧
  PnP p x k w (.returned (.agg (ndC x A c))) ((((W.setCell ⟨RB,0,none⟩ (.int .u8 x.kind)).setCell ⟨RB,1,none⟩ (.int .i64 x.num)).setCell ⟨RB,2,none⟩ (.string x.name)).setCell ⟨RB,3,none⟩ (.slice A x.kids.length c)):=by
 have hf:=Fr.set4 W RB (.int .u8 x.kind) (.int .i64 x.num) (.string x.name) (.slice A x.kids.length c)
 have hs:=hf.size
 refine ⟨hR.set4 _ _ _ _,A,c,rfl,(hD.move fun k h1 h2=>hf.block k h2 fun e=>by have e':k=RB:=e;omega).wide (by omega) hs,hS,hP.fr0 hf (fun e=>by have e':p.PB=RB:=e;omega) (fun e=>by have e':p.MB=RB:=e;omega) fun k hk e=>.inr fun b o hb e2=>by have e':k=RB:=e;have:=hA b o hb;omega,hF.trans hf fun k hk e=>by have e':k=RB:=e;omega⟩
theorem nd_fin2 {w W:World} {p:Ps} {k k0 l0:Nat} {kz n0:Int} {s0:ByteArray} {ks:List Nd} {A:Option Addr} {c RB lo:Nat} {u0 u1 u2 u3:Value} (hkz:(k0:Int)=kz) (hl:ks.length=l0) (hp:p.PB<w.heap.size) (hm:p.MB<w.heap.size) (hA:∀ b o,p.A=some ⟨b,o,none⟩→b<w.heap.size) (hP:PsO W p k) (hF:Fr w W (fun k=>k=p.PB)) (hR:Bx W RB #[u0,u1,u2,u3]) (hRB:w.heap.size≤RB) (hlo:RB<lo) (hD:NdsD W lo W.heap.size A ks) (hS:SlOk A l0 c) :
  Bx ((((W.setCell ⟨RB,0,none⟩ (.int .u8 kz)).setCell ⟨RB,1,none⟩ (.int .i64 n0)).setCell ⟨RB,2,none⟩ (.string s0)).setCell ⟨RB,3,none⟩ (.slice A l0 c)) RB #[.int .u8 kz,.int .i64 n0,.string s0,.slice A l0 c]∧
  PnP p (.mk k0 n0 s0 ks) k w (.returned (.agg #[.int .u8 kz,.int .i64 n0,.string s0,.slice A l0 c])) ((((W.setCell ⟨RB,0,none⟩ (.int .u8 kz)).setCell ⟨RB,1,none⟩ (.int .i64 n0)).setCell ⟨RB,2,none⟩ (.string s0)).setCell ⟨RB,3,none⟩ (.slice A l0 c)):=by
 subst hkz hl
 exact nd_fin (x:=.mk k0 n0 s0 ks) hp hm hP hF hA hR hRB hlo hD hS
theorem nds_nil {W:World} {lo hi:Nat}:NdsD W lo hi none []:=fun _ _ k x hk=>by cases hk
theorem PsO.ltA {w:World} {p:Ps} {k:Nat} (h:PsO w p k) (hk:0<p.toks.length):∀ b o,p.A=some ⟨b,o,none⟩→b<w.heap.size:=fun b o e=>by
 obtain ⟨b',o',e',hb,_⟩:=tks_at h.t hk
 rw [e] at e'
 injection e' with e'
 injection e' with q1 q2
 omega
theorem pnumber_any {w:World} {p:Ps} {k:Nat} (h:PsO w p k) (hk:(tkA p.toks k).kind=2) (hsz:(tkA p.toks k).text.size≤18) {n least most:Int} (hn:Lib.atoi (tkA p.toks k).text.data.toList=some n) (h1:least≤n) (h2:n≤most) :
  Calls Tryz.prog 107 #[.pointer (some ⟨p.PB,0,none⟩),.int .i64 least,.int .i64 most] w fun e w'=>e=.returned (.int .i64 n)∧PsO w' p (k+1)∧Fr w w' (fun k=>k=p.PB):=by
 have hlt:k<p.toks.length:=by
  rcases Nat.lt_or_ge k p.toks.length with e | e
  ·exact e
  ·rw [tkA_ge e] at hk;exact absurd hk (by decide)
 have HC:=kp (peek_any h)
 have HP:=kp h
 have HN:=kp (fun (V:World)=>show Calls Tryz.prog 142 #[.string (tkA p.toks k).text] V fun e w'=>e=.returned (.tuple #[.int .i64 n,.nilIface])∧Below V.heap.size V w' from (Tryz.strconv_Atoi _ n hsz hn V).mono fun e w' ⟨e1,t,e2⟩=>⟨e1,e2▸Lib.bytesWorld_below _ _ _⟩)
 have hw:IntKind.i64.wrap ((k:Int)+1)=(k:Int)+1:=by rw [IntKind.wrap_i64];have:=h.len;have:=h.le;omega
 have HZ:=kp (fun (V:World) (hb:Below w.heap.size w V)=>show PsO (V.setCell ⟨p.PB,1,none⟩ (.int .i64 ((k:Int)+1))) p (k+1)∧Fr w (V.setCell ⟨p.PB,1,none⟩ (.int .i64 ((k:Int)+1))) (fun k=>k=p.PB) from by
  obtain ⟨h1,h2⟩:=(h.below hb).move (k':=k+1) hlt
  exact ⟨h1,((Fr.of_below hb _).trans h2 fun _ _ e=>e)⟩)
 have hlp:=h.b.lt
 have q1:¬ n<least:=by omega
 have q2:¬ most<n:=by omega
 rw [hk] at HC
 generalize tkA p.toks k=t at HC HN
 clear h hk hlt hsz hn
 go_enter Tryz.func107,Tryz.ntmps107
 go_wp2_with fail
 refine HC.out.mono ?_
 rintro e V ⟨rfl,hb⟩
 have HB:=kp hb
 clear hb
 go_upto_region 2 with fail
 have HB1:=kp (blb V (Obj.cells #[.int .u8 (2:Nat),.string t.text,.int .i64 t.pos] 130))
 have HR:=kp (bxn V #[.int .u8 (2:Nat),.string t.text,.int .i64 t.pos] 130)
 generalize V.alloc _=V1 at HB1 HR ⊢
 have HB2:=kp (bls HB.out HB.out.size HB1.out)
 obtain ⟨r0,r1,r2,_⟩:=HR.out.three
 have hlr:=HR.out.lt
 have hP:=HP.out.below HB2.out
 have HZ2:=kp (HZ.out V1 HB2.out)
 obtain ⟨a0,a1,a2,a3,a4,a5⟩:=hP.b.six1
 have f1:=hP.b.free 1
 have hla:=hP.b.lt
 clear hP
 go_upto_region 6 with fail
 have hr:Bx (V1.setCell ⟨p.PB,1,none⟩ (.int .i64 ((k:Int)+1))) V.heap.size #[.int .u8 (2:Nat),.string t.text,.int .i64 t.pos]:=HR.out.fr (Fr.of_set V1 ⟨p.PB,1,none⟩ _) (fun e=>by have e':V.heap.size=p.PB:=e;have:=HB.out.size;omega)
 clear a0 a1 a2 a3 a4 a5 f1 hla r0 r1 r2 hlr
 generalize V1.setCell _ _=V3 at hr HZ2 ⊢
 have HR3:=kp hr
 obtain ⟨r0,r1,r2,_⟩:=hr.three
 have hlr:=hr.lt
 clear hr
 go_wp2_with fail
 refine (HN.out V3).mono ?_
 rintro e V4 ⟨rfl,hb4⟩
 have HZ4:=kp (And.intro (HZ2.out.1.below hb4) (HZ2.out.2.from hb4))
 clear hb4
 go_wp2_with fail
 go_ret
 exact ⟨rfl,HZ4.out⟩
def numNd (n:Int):Nd:=.mk 1 n ⟨#[]⟩ []
def varNd (s:ByteArray):Nd:=.mk 2 0 s []
structure FinH (w:World) (p:Ps):Prop where
 pb:p.PB<w.heap.size
 mb:p.MB<w.heap.size
 a:∀ b o,p.A=some ⟨b,o,none⟩→b<w.heap.size
theorem PsO.finH {w:World} {p:Ps} {k:Nat} (h:PsO w p k) (hk:0<p.toks.length):FinH w p:=⟨h.b.lt,h.m.lt,h.ltA hk⟩
theorem acc_no {w:World} {p:Ps} {k:Nat} (h:PsO w p k) {s:ByteArray} (hs:s≠⟨#[]⟩) (hk:(tkA p.toks k).text≠s) :
  Calls Tryz.prog 105 #[.pointer (some ⟨p.PB,0,none⟩),.string s] w fun e w'=>e=.returned (.bool false)∧PsO w' p k∧Fr w w' (fun k=>k=p.PB):=
 (accept_any h hs).mono fun e w' ⟨h1,h2,h3⟩=>⟨by rw [h1,decide_eq_false hk],by rw [if_neg hk] at h2;exact h2,h3⟩
theorem acc_yes {w:World} {p:Ps} {k:Nat} (h:PsO w p k) {s:ByteArray} (hs:s≠⟨#[]⟩) (hk:(tkA p.toks k).text=s) :
  Calls Tryz.prog 105 #[.pointer (some ⟨p.PB,0,none⟩),.string s] w fun e w'=>e=.returned (.bool true)∧PsO w' p (k+1)∧Fr w w' (fun k=>k=p.PB):=
 (accept_any h hs).mono fun e w' ⟨h1,h2,h3⟩=>⟨by rw [h1,decide_eq_true hk],by rw [if_pos hk] at h2;exact h2,h3⟩
theorem Bx.frP {w w':World} {b PB:Nat} {cs:Array Value} (h:Bx w b cs) (hf:Fr w w' (fun k=>k=PB)) (hn:PB<b):Bx w' b cs:=h.fr hf fun e=>by have e':b=PB:=e;omega
theorem place_var {p:Ps} {k:Nat} (hk:lnmB (tkA p.toks k).text=true) (hk1:(tkA p.toks (k+1)).text≠⟨#[91]⟩):NdC 181 [] p (varNd (tkA p.toks k).text) k (k+1):=fun w h=>by
 have hlt:k<p.toks.length:=by
  rcases Nat.lt_or_ge k p.toks.length with e | e
  ·exact e
  ·rw [tkA_ge e] at hk;exact absurd hk (by decide)
 have HB:=kp (blb w (Obj.cells #[.int .u8 0,.int .i64 0,.string ⟨#[]⟩,.slice none 0 0] 26))
 have HR:=kp (bxn w #[.int .u8 0,.int .i64 0,.string ⟨#[]⟩,.slice none 0 0] 26)
 have HH:=kp (h.finH (by omega))
 have HP:=kp (h.below HB.out)
 have HN:=kp (pname_any HP.out hk)
 have HA:=kp (fun (V:World) (hV:PsO V p (k+1))=>acc_no hV (s:=⟨#[91]⟩) (by decide) hk1)
 generalize (tkA p.toks k).text=s at HN ⊢
 clear h hk hlt hk1
 go_enter Tryz.func181,Tryz.ntmps181
 go_upto_region 1 with fail
 generalize w.alloc _=V at HB HR HP HN ⊢
 go_wp2_with fail
 refine HN.out.mono ?_
 rintro e V1 ⟨rfl,h1,h2⟩
 have H1:=kp (And.intro h1 (Fr.then (Fr.of_below HB.out _) h2))
 have HR1:=kp (HR.out.frP h2 HH.out.pb)
 clear h1 h2
 go_wp2_with fail
 refine (HA.out V1 H1.out.1).mono ?_
 rintro e V2 ⟨rfl,h1,h2⟩
 have H2:=kp (And.intro h1 (Fr.then H1.out.2 h2))
 have HR2:=kp (HR1.out.frP h2 HH.out.pb)
 clear h1 h2
 go_upto_region 3 with fail
 obtain ⟨r0,r1,r2,r3,f0,f1,f2,f3⟩:=HR2.out.four
 have hlr:=HR2.out.lt
 have HZ:=kp (nd_fin2 (k0:=2) (kz:=2) (l0:=0) (n0:=0) (s0:=s) (ks:=[]) (A:=none) (c:=0) rfl rfl HH.out.pb HH.out.mb HH.out.a H2.out.1 H2.out.2 HR2.out (Nat.le_refl _) (lo:=w.heap.size+1) (by omega) nds_nil ⟨Nat.le_refl _,fun _=>rfl⟩)
 go_wp2_with fail
 generalize World.setCell _ _ _=WF at HZ ⊢
 obtain ⟨q0,q1,q2,q3,_⟩:=HZ.out.1.four
 exact bodyPost_ret (v:=.agg #[.int .u8 2,.int .i64 0,.string s,.slice none 0 0]) (by simp [results,Tryz.results181,go_sem,q0,q1,q2,q3]) rfl HZ.out.2
theorem prim_num {p:Ps} {k:Nat} (hk:(tkA p.toks k).kind=2) (hsz:(tkA p.toks k).text.size≤18) {n:Int} (hn:Lib.atoi (tkA p.toks k).text.data.toList=some n) (h1:0≤n) (h2:n≤9223372036854775807):NdC 208 [] p (numNd n) k (k+1):=fun w h=>by
 have hlt:k<p.toks.length:=by
  rcases Nat.lt_or_ge k p.toks.length with e | e
  ·exact e
  ·rw [tkA_ge e] at hk;exact absurd hk (by decide)
 have HB:=kp (blb w (Obj.cells #[.int .u8 0,.int .i64 0,.string ⟨#[]⟩,.slice none 0 0] 26))
 have HR:=kp (bxn w #[.int .u8 0,.int .i64 0,.string ⟨#[]⟩,.slice none 0 0] 26)
 have HH:=kp (h.finH (by omega))
 have HP:=kp (h.below HB.out)
 have HK:=kp (peek_any HP.out)
 have HA:=kp (fun (V:World) (hV:PsO V p k)=>pnumber_any hV hk hsz hn h1 h2)
 rw [hk] at HK
 have hf0:=fld0
 clear h hk hlt hsz hn h1 h2
 generalize tkA p.toks k=t at HK
 go_enter Tryz.func208,Tryz.ntmps208
 go_upto_region 1 with fail
 generalize w.alloc _=V at HB HR HP HK ⊢
 go_wp2_with fail
 refine HK.out.mono ?_
 rintro e V1 ⟨rfl,h1⟩
 have H1:=kp (And.intro (HP.out.below h1) (Fr.from (PB:=p.PB) (Fr.of_below HB.out _) h1))
 have HR1:=kp (HR.out.below h1)
 clear h1
 go_wp2_with fail
 refine (HA.out V1 H1.out.1).mono ?_
 rintro e V2 ⟨rfl,h1,h2⟩
 have H2:=kp (And.intro h1 (Fr.then H1.out.2 h2))
 have HR2:=kp (HR1.out.frP h2 HH.out.pb)
 clear h1 h2
 obtain ⟨r0,r1,r2,r3,f0,f1,f2,f3⟩:=HR2.out.four
 have hlr:=HR2.out.lt
 have HZ:=kp (nd_fin2 (k0:=1) (kz:=1) (l0:=0) (n0:=n) (s0:=⟨#[]⟩) (ks:=[]) (A:=none) (c:=0) rfl rfl HH.out.pb HH.out.mb HH.out.a H2.out.1 H2.out.2 HR2.out (Nat.le_refl _) (lo:=w.heap.size+1) (by omega) nds_nil ⟨Nat.le_refl _,fun _=>rfl⟩)
 go_wp2_with fail
 generalize World.setCell _ _ _=WF at HZ ⊢
 obtain ⟨q0,q1,q2,q3,_⟩:=HZ.out.1.four
 exact bodyPost_ret (v:=.agg #[.int .u8 1,.int .i64 n,.string ⟨#[]⟩,.slice none 0 0]) (by simp [results,Tryz.results208,go_sem,q0,q1,q2,q3]) rfl HZ.out.2
theorem unary_prim {p:Ps} {k k':Nat} {x:Nd} (hlt:k<p.toks.length) (hm:(tkA p.toks k).text≠⟨#[45]⟩) (hx:(tkA p.toks k).text≠⟨#[33]⟩) (hC:NdC 208 [] p x k k'):NdC 199 [] p x k k':=fun w h=>by
 have HB:=kp (blb w (Obj.cells #[.int .u8 0,.int .i64 0,.string ⟨#[]⟩,.slice none 0 0] 26))
 have HR:=kp (bxn w #[.int .u8 0,.int .i64 0,.string ⟨#[]⟩,.slice none 0 0] 26)
 have HH:=kp (h.finH (by omega))
 have HP:=kp (h.below HB.out)
 have HA:=kp (fun (V:World) (hV:PsO V p k)=>acc_no hV (s:=⟨#[45]⟩) (by decide) hm)
 have HA2:=kp (fun (V:World) (hV:PsO V p k)=>acc_no hV (s:=⟨#[33]⟩) (by decide) hx)
 have HC:=kp hC
 have hzw:(w.alloc (Obj.cells #[.int .u8 0,.int .i64 0,.string ⟨#[]⟩,.slice none 0 0] 26)).heap.size=w.heap.size+1:=by simp
 clear h hm hx hC
 go_enter Tryz.func199,Tryz.ntmps199
 go_upto_region 1 with fail
 generalize w.alloc _=V at HB HR HP hzw ⊢
 have HV:=kp hzw
 clear hzw
 go_wp2_with fail
 refine (HA.out V HP.out).mono ?_
 rintro e V1 ⟨rfl,h1,h2⟩
 have H1:=kp (And.intro h1 (Fr.then (Fr.of_below HB.out _) h2))
 have HR1:=kp (HR.out.frP h2 HH.out.pb)
 have HS1:=kp h2.size
 clear h1 h2
 go_wp2_with fail
 refine (HA2.out V1 H1.out.1).mono ?_
 rintro e V2 ⟨rfl,h1,h2⟩
 have H2:=kp (And.intro h1 (Fr.then H1.out.2 h2))
 have HR2:=kp (HR1.out.frP h2 HH.out.pb)
 have HS2:=kp (Nat.le_trans HS1.out h2.size)
 clear h1 h2
 go_wp2_with fail
 refine (HC.out V2 H2.out.1).mono ?_
 rintro e V3 ⟨A,c,rfl,hD,hS,h1,h2⟩
 have H3:=kp (And.intro h1 (Fr.then H2.out.2 h2))
 have HR3:=kp (HR2.out.frP h2 HH.out.pb)
 obtain ⟨r0,r1,r2,r3,f0,f1,f2,f3⟩:=HR3.out.four
 have hlr:=HR3.out.lt
 have HZ:=kp (nd_fin HH.out.pb HH.out.mb H3.out.1 H3.out.2 HH.out.a HR3.out (Nat.le_refl _) (lo:=V2.heap.size) (by have:=HS2.out;have:=HV.out;omega) hD hS)
 clear h1 h2 hD hS
 go_wp2_with fail
 generalize World.setCell _ _ _=WF at HZ ⊢
 obtain ⟨q0,q1,q2,q3,_⟩:=HZ.out.1.four
 exact bodyPost_ret (v:=.agg (ndC x A c)) (by simp [results,Tryz.results199,go_sem,q0,q1,q2,q3]) rfl HZ.out.2
theorem expr_stop {p:Ps} {k k':Nat} {x:Nd} {lev:Int} (hlt:k<p.toks.length) (hC:NdC 199 [] p x k k') (hs:(tkA p.toks k').text.size≤maxLen) (hE:p.env (tkA p.toks k').text=none):NdC 183 [.int .i64 lev] p x k k':=fun w h=>by
 have HB:=kp (blb w (Obj.cells #[.int .u8 0,.int .i64 0,.string ⟨#[]⟩,.slice none 0 0] 26))
 have HR:=kp (bxn w #[.int .u8 0,.int .i64 0,.string ⟨#[]⟩,.slice none 0 0] 26)
 have HH:=kp (h.finH (by omega))
 have HP:=kp (h.below HB.out)
 have HC:=kp hC
 have HPK:=kp (fun (V:World) (hV:PsO V p k')=>peek_any hV)
 have hlk:∀ V,PsO V p k'→(Instr.lookup 87 (.map (some p.MB)) (.string (tkA p.toks k').text) true).run Tryz.prog V=.ok (.tuple #[.int .u8 0,.bool false]) V:=fun V hV=>by
  have:=mapU_look Tryz.underlying87 hV.m (tkA p.toks k').text hs
  rw [hE] at this
  exact this
 have HLK:=kp hlk
 have hf1:=fld1
 have hzw:(w.alloc (Obj.cells #[.int .u8 0,.int .i64 0,.string ⟨#[]⟩,.slice none 0 0] 26)).heap.size=w.heap.size+1:=by simp
 generalize tkA p.toks k'=t at HPK HLK
 clear h hC hlk hs hE
 go_enter Tryz.func183,Tryz.ntmps183
 go_upto_region 1 with fail
 generalize w.alloc _=V at HB HR HP hzw ⊢
 have HV:=kp hzw
 clear hzw
 go_wp2_with fail
 refine (HC.out V HP.out).mono ?_
 rintro e V1 ⟨A,c,rfl,hD,hS,h1,h2⟩
 have H1:=kp (And.intro h1 (Fr.then (Fr.of_below HB.out _) h2))
 have HR1:=kp (HR.out.frP h2 HH.out.pb)
 have HD1:=kp (And.intro hD hS)
 have HS1:=kp h2.size
 clear h1 h2 hD hS
 go_upto_region 2 with fail
 have HB2:=kp (blb V1 (Obj.cells (ndC x A c) 26))
 have HN2:=kp (bxn V1 (ndC x A c) 26)
 generalize V1.alloc _=V2 at HB2 HN2 ⊢
 have HR2:=kp (HR1.out.below HB2.out)
 have H2:=kp (And.intro (H1.out.1.below HB2.out) (H1.out.2.from HB2.out))
 obtain ⟨W,hW⟩:∃ W,W=V2:=⟨_,rfl⟩
 rw [← hW] at HN2 HR2 H2
 have HVV:=kp hW
 rw [← hW]
 clear hW
 go_loopw [] (fun wr=>wr=W) (fun _=>0)
 case atStart=>exact rfl
 case round=>
  obtain rfl:=hrel
  have HC2:=kp (HPK.out wr.drew (H2.out.1.below (bld (Below.refl _ _))))
  obtain ⟨_,_,_,a3,_,_⟩:=H2.out.1.b.six1
  have hla:=H2.out.1.b.lt
  have HT:=kp (fun (w8:World) (hb8:Below wr.drew.heap.size wr.drew w8)=>show PsO w8 p k'∧Below wr.heap.size wr w8 from have h:=bls (bld (Below.refl wr.heap.size wr)) (bld (Below.refl wr.heap.size wr)).size hb8;⟨H2.out.1.below h,h⟩)
  go_upto_region 2 with fail
  go_cut [6,7] (fun v6 v7 wc=>v6=.int .u8 0∧v7=.bool false∧Hid (PsO wc p k'∧Below wr.heap.size wr wc))
  case first=>
   go_region_law (
    go_simp;go_at_call 73;(with_reducible refine Calls.mono HC2.out ?_);rintro e w8 ⟨rfl,hb8⟩;have HM:=kp (HT.out w8 hb8);have hlk:=HLK.out w8 HM.out.1;have a3:=HM.out.1.b.six1.2.2.2.1;have hla:=HM.out.1.b.lt;clear hb8;dsimp only)
   all_goals
    go_simp
    go_wp2_with fail
    go_meet
    exact ⟨rfl,rfl,HM⟩
  case rest=>
   obtain ⟨rfl,rfl,HM⟩:=hcut
   have HN3:=kp (HN2.out.below HM.out.2)
   have HR3:=kp (HR2.out.below HM.out.2)
   obtain ⟨n0,n1,n2,n3,_⟩:=HN3.out.four
   have hln:=HN3.out.lt
   obtain ⟨r0,r1,r2,r3,f0,f1,f2,f3⟩:=HR3.out.four
   have hlr:=HR3.out.lt
   have HZ:=kp (nd_fin (x:=x) (A:=A) (c:=c) HH.out.pb HH.out.mb HM.out.1 (H2.out.2.from HM.out.2) HH.out.a HR3.out (Nat.le_refl _) (lo:=V.heap.size) (by have:=HV.out;omega) ((HD1.out.1.move (w':=wc) fun j h1 h2=>(HM.out.2.block j (Nat.lt_of_lt_of_le h2 (by rw [HVV.out];exact HB2.out.size))).trans (by rw [HVV.out];exact HB2.out.block j h2)).wide (Nat.le_refl _) (Nat.le_trans (by rw [HVV.out];exact HB2.out.size) HM.out.2.size)) HD1.out.2)
   go_wp2_with fail
   generalize World.setCell _ _ _=WF at HZ ⊢
   obtain ⟨q0,q1,q2,q3,_⟩:=HZ.out.1.four
   exact bodyPost_ret (v:=.agg (ndC x A c)) (by simp [results,Tryz.results183,go_sem,q0,q1,q2,q3]) rfl HZ.out.2
theorem nds_of {W:World} {g lo hi:Nat} {l:List Nd} (h1:lo≤g) (h2:g<hi) (hc:∀ (i:Nat) (y:Nd),l[i]?=some y→∃ A c,W.cell? ⟨g,i*4,none⟩=some (.int .u8 y.kind)∧W.cell? ⟨g,i*4+1,none⟩=some (.int .i64 y.num)∧W.cell? ⟨g,i*4+2,none⟩=some (.string y.name)∧W.cell? ⟨g,i*4+3,none⟩=some (.slice A y.kids.length c)∧NdsD W lo hi A y.kids):NdsD W lo hi (some ⟨g,0,none⟩) l:=fun Y hY k x hk=>by
 obtain ⟨A,c,c0,c1,c2,c3,hD⟩:=hc k x hk
 have hcell:∀ (j:Nat) (u:Value),W.cell? ⟨g,j,none⟩=some u→Y.cell? ⟨g,j,none⟩=some u:=fun j u hu=>by
  rw [World.cell?_of_block (hY g h1 h2)];exact hu
 have hks:=hD Y hY
 refine ⟨g,0,rfl,?_⟩
 rw [Nat.zero_add]
 refine NdO.mk (A:=A) (cap:=c) (b':=(A.getD ⟨0,0,none⟩).block) (o':=(A.getD ⟨0,0,none⟩).off) (hcell _ _ c0) (hcell _ _ c1) (hcell _ _ c2) (hcell _ _ c3) (fun hp=>?_) (fun kk y hy=>?_)
 ·obtain ⟨b',o',e',_⟩:=hks.at_ hp
  rw [e'];rfl
 ·obtain ⟨b',o',e',h'⟩:=hks kk y hy
  rw [e'];exact h'
theorem NdsD.keep {w w':World} {lo hi PB:Nat} {A:Option Addr} {l:List Nd} (h:NdsD w lo hi A l) (hf:Fr w w' (fun k=>k=PB)) (hp:PB<lo) (hh:hi≤w.heap.size):NdsD w' lo hi A l:=h.move fun k h1 h2=>hf.block k (by omega) fun e=>by have e':k=PB:=e;omega
theorem NdsD.up {w w':World} {lo hi:Nat} {A:Option Addr} {l:List Nd} (h:NdsD w lo hi A l) (hb:Below w.heap.size w w') (hh:hi≤w.heap.size):NdsD w' lo hi A l:=h.move fun k _ h2=>hb.block k (by omega)
theorem lit_eq (s a:ByteArray) (l:List UInt8) (h:a.toList=l):(s.toList == l)=decide (s=a):=by rw [← h,eqS_eq]
theorem atDecl_any {w:World} {p:Ps} {k:Nat} (h:PsO w p k) {b:Bool} (hb:b=(decide ((tkA p.toks k).text=⟨#[105,110,116]⟩)||decide ((tkA p.toks k).text=⟨#[97,114,114,97,121]⟩)||decide ((tkA p.toks k).text=⟨#[115,116,97,99,107]⟩))) :
  Calls Tryz.prog 71 #[.pointer (some ⟨p.PB,0,none⟩)] w fun e w'=>e=.returned (.bool b)∧Below w.heap.size w w':=by
 have HC:=kp (peek_any h)
 have hf1:=fld1
 have HQ:=kp hb
 have p1:=lit_eq (tkA p.toks k).text ⟨#[105,110,116]⟩ [105,110,116] (by decide +kernel)
 have p2:=lit_eq (tkA p.toks k).text ⟨#[97,114,114,97,121]⟩ [97,114,114,97,121] (by decide +kernel)
 have p3:=lit_eq (tkA p.toks k).text ⟨#[115,116,97,99,107]⟩ [115,116,97,99,107] (by decide +kernel)
 generalize decide ((tkA p.toks k).text=⟨#[105,110,116]⟩)=b1 at HQ p1
 generalize decide ((tkA p.toks k).text=⟨#[97,114,114,97,121]⟩)=b2 at HQ p2
 generalize decide ((tkA p.toks k).text=⟨#[115,116,97,99,107]⟩)=b3 at HQ p3
 generalize tkA p.toks k=t at HC p1 p2 p3
 clear h hb
 cases b1<;>cases b2<;>cases b3
 all_goals
  go_enter Tryz.func71,Tryz.ntmps71
  go_wp2_with fail
  refine HC.out.mono ?_
  rintro e V1 ⟨rfl,h1⟩
  have HB:=kp h1
  clear h1
  go_wp2_with fail
  go_ret
  exact ⟨by rw [HQ.out];rfl,HB.out⟩
def DcC (f:Nat) (p:Ps) (v:Vd) (k k':Nat):Prop:=∀ w,PsO w p k→Calls Tryz.prog f #[.pointer (some ⟨p.PB,0,none⟩)] w fun e w'=>e=.returned (.agg #[.string v.name,.int .u8 v.kind,.int .i64 v.len])∧PsO w' p k'∧Fr w w' (fun k=>k=p.PB)
theorem dc_fin {w W:World} {p:Ps} {k RB:Nat} {s:ByteArray} {kz n:Int} {u0 u1 u2:Value} (hH:FinH w p) (hP:PsO W p k) (hF:Fr w W (fun k=>k=p.PB)) (hR:Bx W RB #[u0,u1,u2]) (hRB:w.heap.size≤RB) :
  Bx (((W.setCell ⟨RB,0,none⟩ (.string s)).setCell ⟨RB,1,none⟩ (.int .u8 kz)).setCell ⟨RB,2,none⟩ (.int .i64 n)) RB #[.string s,.int .u8 kz,.int .i64 n]∧
  PsO (((W.setCell ⟨RB,0,none⟩ (.string s)).setCell ⟨RB,1,none⟩ (.int .u8 kz)).setCell ⟨RB,2,none⟩ (.int .i64 n)) p k∧Fr w (((W.setCell ⟨RB,0,none⟩ (.string s)).setCell ⟨RB,1,none⟩ (.int .u8 kz)).setCell ⟨RB,2,none⟩ (.int .i64 n)) (fun k=>k=p.PB):=by
 have hf:=Fr.set3 W RB (.string s) (.int .u8 kz) (.int .i64 n)
 have hp:=hH.pb
 have hm:=hH.mb
 refine ⟨hR.set3 _ _ _,hP.fr0 hf (fun e=>by have e':p.PB=RB:=e;omega) (fun e=>by have e':p.MB=RB:=e;omega) fun k hk e=>.inr fun b o hb e2=>by have e':k=RB:=e;have:=hH.a b o hb;omega,hF.trans hf fun k hk e=>by have e':k=RB:=e;omega⟩
theorem decl_int {p:Ps} {k:Nat} (hk:(tkA p.toks k).text=⟨#[105,110,116]⟩) (hn:lnmB (tkA p.toks (k+1)).text=true):DcC 74 p ⟨(tkA p.toks (k+1)).text,1,0⟩ k (k+2):=fun w h=>by
 have hlt:k<p.toks.length:=by
  rcases Nat.lt_or_ge k p.toks.length with e | e
  ·exact e
  ·rw [tkA_ge e] at hk;exact absurd hk (by decide)
 have HB:=kp (blb w (Obj.cells #[.string ⟨#[]⟩,.int .u8 0,.int .i64 0] 62))
 have HR:=kp (bxn w #[.string ⟨#[]⟩,.int .u8 0,.int .i64 0] 62)
 have HH:=kp (h.finH (by omega))
 have HP:=kp (h.below HB.out)
 have HA:=kp (fun (V:World) (hV:PsO V p k)=>acc_yes hV (s:=⟨#[105,110,116]⟩) (by decide) hk)
 have HN:=kp (fun (V:World) (hV:PsO V p (k+1))=>pname_any hV hn)
 generalize (tkA p.toks (k+1)).text=s at HN ⊢
 clear h hk hlt hn
 go_enter Tryz.func74,Tryz.ntmps74
 go_upto_region 1 with fail
 generalize w.alloc _=V at HB HR HP ⊢
 go_wp2_with fail
 refine (HA.out V HP.out).mono ?_
 rintro e V1 ⟨rfl,h1,h2⟩
 have H1:=kp (And.intro h1 (Fr.then (Fr.of_below HB.out _) h2))
 have HR1:=kp (HR.out.frP h2 HH.out.pb)
 clear h1 h2
 go_wp2_with fail
 refine (HN.out V1 H1.out.1).mono ?_
 rintro e V2 ⟨rfl,h1,h2⟩
 have H2:=kp (And.intro h1 (Fr.then H1.out.2 h2))
 have HR2:=kp (HR1.out.frP h2 HH.out.pb)
 clear h1 h2
 obtain ⟨r0,r1,r2,f0,f1,f2⟩:=HR2.out.three
 have hlr:=HR2.out.lt
 have HZ:=kp (dc_fin (s:=s) (kz:=1) (n:=0) HH.out H2.out.1 H2.out.2 HR2.out (Nat.le_refl _))
 go_wp2_with fail
 generalize World.setCell _ _ _=WF at HZ ⊢
 obtain ⟨q0,q1,q2,_⟩:=HZ.out.1.three
 exact bodyPost_ret (v:=.agg #[.string s,.int .u8 1,.int .i64 0]) (by simp [results,Tryz.results74,go_sem,q0,q1,q2]) rfl ⟨rfl,HZ.out.2⟩
theorem Bx.eight {w:World} {b:Nat} {u0 u1 u2 u3 u4 u5 u6 u7:Value} (h:Bx w b #[u0,u1,u2,u3,u4,u5,u6,u7]):w.cell? ⟨b,0,none⟩=some u0∧w.cell? ⟨b,1,none⟩=some u1∧w.cell? ⟨b,2,none⟩=some u2∧w.cell? ⟨b,3,none⟩=some u3∧w.cell? ⟨b,4,none⟩=some u4∧w.cell? ⟨b,5,none⟩=some u5∧w.cell? ⟨b,6,none⟩=some u6∧w.cell? ⟨b,7,none⟩=some u7:=
 ⟨h.cell rfl,h.cell rfl,h.cell rfl,h.cell rfl,h.cell rfl,h.cell rfl,h.cell rfl,h.cell rfl⟩
theorem PsO.next {w:World} {p:Ps} {k:Nat} (h:PsO w p k) (hk:k<p.toks.length):PsO (w.setCell ⟨p.PB,1,none⟩ (.int .i64 ((k:Int)+1))) p (k+1)∧Fr w (w.setCell ⟨p.PB,1,none⟩ (.int .i64 ((k:Int)+1))) (fun k=>k=p.PB):=h.move (k':=k+1) hk
theorem nds_two {W:World} {x y:Nd} {A B:Option Addr} {c d lo g:Nat} (hg:g<W.heap.size) (h1:lo≤g) (hb:Bx W g #[.int .u8 x.kind,.int .i64 x.num,.string x.name,.slice A x.kids.length c,.int .u8 y.kind,.int .i64 y.num,.string y.name,.slice B y.kids.length d]) (hx:NdsD W lo W.heap.size A x.kids) (hy:NdsD W lo W.heap.size B y.kids):NdsD W lo W.heap.size (some ⟨g,0,none⟩) [x,y]:=by
 obtain ⟨q0,q1,q2,q3,q4,q5,q6,q7⟩:=hb.eight
 refine nds_of h1 hg fun i z hi=>?_
 match i,hi with
 | 0,hi=>cases hi;exact ⟨A,c,q0,q1,q2,q3,hx⟩
 | 1,hi=>cases hi;exact ⟨B,d,q4,q5,q6,q7,hy⟩
 | i+2,hi=>simp at hi
theorem nd_ret {w V WF:World} {p:Ps} {k k0 l0:Nat} {kz n0:Int} {s0:ByteArray} {ks:List Nd} {A:Option Addr} {c RB:Nat} (hkz:(k0:Int)=kz) (hl:ks.length=l0) (hH:FinH w p) (hP:PsO V p k) (hF:Fr w V (fun k=>k=p.PB)) (hf:Fr V WF (fun k=>k=RB)) (hRB:w.heap.size≤RB) (hD:NdsD WF w.heap.size WF.heap.size A ks) (hS:SlOk A l0 c) :
  PnP p (.mk k0 n0 s0 ks) k w (.returned (.agg #[.int .u8 kz,.int .i64 n0,.string s0,.slice A l0 c])) WF:=by
 subst hkz hl
 have hp:=hH.pb
 have hm:=hH.mb
 exact ⟨A,c,rfl,hD,hS,hP.fr0 hf (fun e=>by have e':p.PB=RB:=e;omega) (fun e=>by have e':p.MB=RB:=e;omega) fun k hk e=>.inr fun b o hb e2=>by have e':k=RB:=e;have:=hH.a b o hb;omega,hF.trans hf fun k hk e=>by have e':k=RB:=e;omega⟩
theorem two_fin {w V:World} {p:Ps} {k k0:Nat} {kz n0:Int} {s0:ByteArray} {x y:Nd} {A B:Option Addr} {c d RB lo hi lo2 hi2:Nat} {u0 u1 u2 u3:Value} (T:TypeId) (hkz:(k0:Int)=kz) (hH:FinH w p) (hP:PsO V p k) (hF:Fr w V (fun k=>k=p.PB)) (hR:Bx V RB #[u0,u1,u2,u3]) (hRB:w.heap.size≤RB) (hx:NdsD V lo hi A x.kids) (hy:NdsD V lo2 hi2 B y.kids) (h1:RB<lo) (h2:RB<lo2) (h3:hi≤V.heap.size) (h4:hi2≤V.heap.size) :
  Bx (((((V.setCell ⟨RB,0,none⟩ (.int .u8 kz)).setCell ⟨RB,1,none⟩ (.int .i64 n0)).setCell ⟨RB,2,none⟩ (.string s0)).setCell ⟨RB,3,none⟩ (.slice (some ⟨V.heap.size,0,none⟩) 2 2)).alloc (Obj.cells #[.int .u8 x.kind,.int .i64 x.num,.string x.name,.slice A x.kids.length c,.int .u8 y.kind,.int .i64 y.num,.string y.name,.slice B y.kids.length d] T)) RB #[.int .u8 kz,.int .i64 n0,.string s0,.slice (some ⟨V.heap.size,0,none⟩) 2 2]∧
  PnP p (.mk k0 n0 s0 [x,y]) k w (.returned (.agg #[.int .u8 kz,.int .i64 n0,.string s0,.slice (some ⟨V.heap.size,0,none⟩) 2 2])) (((((V.setCell ⟨RB,0,none⟩ (.int .u8 kz)).setCell ⟨RB,1,none⟩ (.int .i64 n0)).setCell ⟨RB,2,none⟩ (.string s0)).setCell ⟨RB,3,none⟩ (.slice (some ⟨V.heap.size,0,none⟩) 2 2)).alloc (Obj.cells #[.int .u8 x.kind,.int .i64 x.num,.string x.name,.slice A x.kids.length c,.int .u8 y.kind,.int .i64 y.num,.string y.name,.slice B y.kids.length d] T)):=by
 have hf:=Fr.set4 V RB (.int .u8 kz) (.int .i64 n0) (.string s0) (.slice (some ⟨V.heap.size,0,none⟩) 2 2)
 have hb:=hR.set4 (.int .u8 kz) (.int .i64 n0) (.string s0) (.slice (some ⟨V.heap.size,0,none⟩) 2 2)
 have hz:((((V.setCell ⟨RB,0,none⟩ (.int .u8 kz)).setCell ⟨RB,1,none⟩ (.int .i64 n0)).setCell ⟨RB,2,none⟩ (.string s0)).setCell ⟨RB,3,none⟩ (.slice (some ⟨V.heap.size,0,none⟩) 2 2)).heap.size=V.heap.size:=by simp
 have hlt:=hR.lt
 generalize (((V.setCell ⟨RB,0,none⟩ (.int .u8 kz)).setCell ⟨RB,1,none⟩ (.int .i64 n0)).setCell ⟨RB,2,none⟩ (.string s0)).setCell ⟨RB,3,none⟩ (.slice (some ⟨V.heap.size,0,none⟩) 2 2)=U at *
 have hba:=blb U (Obj.cells #[.int .u8 x.kind,.int .i64 x.num,.string x.name,.slice A x.kids.length c,.int .u8 y.kind,.int .i64 y.num,.string y.name,.slice B y.kids.length d] T)
 have hbn:=bxn U #[.int .u8 x.kind,.int .i64 x.num,.string x.name,.slice A x.kids.length c,.int .u8 y.kind,.int .i64 y.num,.string y.name,.slice B y.kids.length d] T
 have hza:(U.alloc (Obj.cells #[.int .u8 x.kind,.int .i64 x.num,.string x.name,.slice A x.kids.length c,.int .u8 y.kind,.int .i64 y.num,.string y.name,.slice B y.kids.length d] T)).heap.size=V.heap.size+1:=by rw [← hz];simp
 generalize U.alloc _=WF at *
 rw [hz] at hbn
 refine ⟨hb.below hba,nd_ret hkz rfl hH hP hF (hf.trans (Fr.of_below hba _) fun _ _ e=>e) hRB ?_ ⟨Nat.le_refl _,fun e=>by cases e⟩⟩
 have hxU:NdsD U lo hi A x.kids:=hx.move fun j q1 q2=>hf.block j (by omega) fun e=>by have e':j=RB:=e;omega
 have hyU:NdsD U lo2 hi2 B y.kids:=hy.move fun j q1 q2=>hf.block j (by omega) fun e=>by have e':j=RB:=e;omega
 exact nds_two (by omega) (by omega) hbn ((hxU.up hba (by omega)).wide (by omega) (by omega)) ((hyU.up hba (by omega)).wide (by omega) (by omega))
theorem update_plus {p:Ps} {k k1 k2:Nat} {x y:Nd} (hlt:k<p.toks.length) (hx:NdC 181 [] p x k k1) (h1:(tkA p.toks k1).text=⟨#[43,61]⟩) (hy:NdC 183 [.int .i64 1] p y (k1+1) k2):NdC 167 [] p (.mk 40 0 ⟨#[]⟩ [x,y]) k k2:=fun w h=>by
 have HB:=kp (blb w (Obj.cells #[.int .u8 0,.int .i64 0,.string ⟨#[]⟩,.slice none 0 0] 26))
 have HR:=kp (bxn w #[.int .u8 0,.int .i64 0,.string ⟨#[]⟩,.slice none 0 0] 26)
 have HH:=kp (h.finH (by omega))
 have HP:=kp (h.below HB.out)
 have HX:=kp hx
 have HY:=kp hy
 have hlt1:k1<p.toks.length:=by
  rcases Nat.lt_or_ge k1 p.toks.length with e | e
  ·exact e
  ·rw [tkA_ge e] at h1;exact absurd h1 (by decide)
 have HPK:=kp (fun (V:World) (hV:PsO V p k1)=>peek_any hV)
 have e1:=lit_eq (tkA p.toks k1).text ⟨#[43,61]⟩ [43,61] (by decide +kernel)
 rw [decide_eq_true h1] at e1
 have hf1:=fld1
 have hw:IntKind.i64.wrap ((k1:Int)+1)=(k1:Int)+1:=by rw [IntKind.wrap_i64];have:=h.len;omega
 have HMV:=kp (fun (V:World) (hV:PsO V p k1)=>hV.next hlt1)
 have hzw:(w.alloc (Obj.cells #[.int .u8 0,.int .i64 0,.string ⟨#[]⟩,.slice none 0 0] 26)).heap.size=w.heap.size+1:=by simp
 generalize tkA p.toks k1=t at HPK e1
 clear h hx hy h1 hlt hlt1
 go_enter Tryz.func167,Tryz.ntmps167
 go_upto_region 1 with fail
 generalize w.alloc _=V at HB HR HP hzw ⊢
 have HV:=kp hzw
 clear hzw
 go_wp2_with fail
 refine (HX.out V HP.out).mono ?_
 rintro e V1 ⟨A,c,rfl,hD,hS,h1,h2⟩
 have H1:=kp (And.intro h1 (Fr.then (Fr.of_below HB.out _) h2))
 have HR1:=kp (HR.out.frP h2 HH.out.pb)
 have HD1:=kp (And.intro hD hS)
 have HS1:=kp h2.size
 clear h1 h2 hD hS
 go_upto_region 2 with fail
 have HB2:=kp (blb V1 (Obj.cells (ndC x A c) 26))
 have HN2:=kp (bxn V1 (ndC x A c) 26)
 generalize V1.alloc _=V2 at HB2 HN2 ⊢
 have HR2:=kp (HR1.out.below HB2.out)
 have H2:=kp (And.intro (H1.out.1.below HB2.out) (H1.out.2.from HB2.out))
 have HD2:=kp (HD1.out.1.up HB2.out (Nat.le_refl _))
 go_wp2_with fail
 refine (HPK.out V2 H2.out.1).mono ?_
 rintro e V3 ⟨rfl,hb3⟩
 have HR3:=kp (HR2.out.below hb3)
 have HN3:=kp (HN2.out.below hb3)
 have H3:=kp (And.intro (H2.out.1.below hb3) (H2.out.2.from hb3))
 have HD3:=kp (HD2.out.up hb3 HB2.out.size)
 have HS3:=kp (Nat.le_trans HB2.out.size hb3.size)
 clear hb3
 obtain ⟨a0,a1,a2,a3,a4,a5⟩:=H3.out.1.b.six1
 have f1:=H3.out.1.b.free 1
 have hla:=H3.out.1.b.lt
 have H4:=kp (HMV.out V3 H3.out.1)
 have hpb:p.PB<V1.heap.size:=Nat.lt_of_lt_of_le HH.out.pb H1.out.2.size
 have HR4:=kp (HR3.out.frP H4.out.2 HH.out.pb)
 have HN4:=kp (HN3.out.frP H4.out.2 hpb)
 have HD4:=kp (HD3.out.keep H4.out.2 (Nat.lt_of_lt_of_le HH.out.pb HB.out.size) HS3.out)
 have HS4:=kp (Nat.le_trans HS3.out H4.out.2.size)
 go_upto_region 19 with fail
 generalize V3.setCell _ _=V4 at H4 HR4 HN4 HD4 HS4 ⊢
 have HF4:=kp (Fr.then H3.out.2 H4.out.2)
 clear a0 a1 a2 a3 a4 a5 f1 hla
 go_wp2_with fail
 refine (HY.out V4 H4.out.1).mono ?_
 rintro e V5 ⟨B,d,rfl,hD,hS,h1,h2⟩
 have H5:=kp (And.intro h1 (Fr.then HF4.out h2))
 have HR5:=kp (HR4.out.frP h2 HH.out.pb)
 have HN5:=kp (HN4.out.frP h2 hpb)
 have HD5:=kp (HD4.out.keep h2 (Nat.lt_of_lt_of_le HH.out.pb HB.out.size) HS4.out)
 have HE5:=kp (And.intro hD hS)
 have HS5:=kp h2.size
 clear h1 h2 hD hS
 go_upto_region 20 with fail
 have HB6:=kp (blb V5 (Obj.cells (ndC y B d) 26))
 have HM6:=kp (bxn V5 (ndC y B d) 26)
 generalize V5.alloc _=V6 at HB6 HM6 ⊢
 have HR6:=kp (HR5.out.below HB6.out)
 have HN6:=kp (HN5.out.below HB6.out)
 obtain ⟨n0,n1,n2,n3,_⟩:=HN6.out.four
 obtain ⟨m0,m1,m2,m3,_⟩:=HM6.out.four
 obtain ⟨r0,r1,r2,r3,f0,f1,f2,f3⟩:=HR6.out.four
 have hln:=HN6.out.lt
 have hlm:=HM6.out.lt
 have hlr:=HR6.out.lt
 have HZ:=kp (two_fin (c:=c) (d:=d) (k0:=40) (kz:=40) (n0:=0) (s0:=⟨#[]⟩) 26 rfl HH.out (H5.out.1.below HB6.out) (H5.out.2.from HB6.out) HR6.out (Nat.le_refl _) (lo:=V.heap.size) (hi:=V1.heap.size) (lo2:=V4.heap.size) (hi2:=V5.heap.size) (HD5.out.up HB6.out (Nat.le_trans HS4.out HS5.out)) (HE5.out.1.up HB6.out (Nat.le_refl _)) (by have:=HV.out;omega) (by have:=HV.out;have:=HS1.out;have:=HS4.out;omega) (Nat.le_trans HS4.out (Nat.le_trans HS5.out HB6.out.size)) HB6.out.size)
 go_wp2_with fail
 generalize World.alloc _ _=WF at HZ ⊢
 obtain ⟨q0,q1,q2,q3,_⟩:=HZ.out.1.four
 exact bodyPost_ret (v:=.agg #[.int .u8 40,.int .i64 0,.string ⟨#[]⟩,.slice (some ⟨V6.heap.size,0,none⟩) 2 2]) (by simp [results,Tryz.results167,go_sem,q0,q1,q2,q3]) rfl HZ.out.2
def stKw:List ByteArray:=[⟨#[112,117,115,104]⟩,⟨#[112,111,112]⟩,⟨#[114,101,97,100]⟩,⟨#[117,110,114,101,97,100]⟩,⟨#[119,114,105,116,101]⟩,⟨#[117,110,119,114,105,116,101]⟩,⟨#[99,97,108,108]⟩,⟨#[117,110,99,97,108,108]⟩,⟨#[105,102]⟩,⟨#[102,114,111,109]⟩,⟨#[108,111,99,97,108]⟩]
theorem stmt_upd {p:Ps} {k k':Nat} {x:Nd} (hlt:k<p.toks.length) (hk:∀ s∈stKw,(tkA p.toks k).text≠s) (hC:NdC 167 [] p x k k'):NdC 143 [] p x k k':=fun w h=>by
 have HB:=kp (blb w (Obj.cells #[.int .u8 0,.int .i64 0,.string ⟨#[]⟩,.slice none 0 0] 26))
 have HR:=kp (bxn w #[.int .u8 0,.int .i64 0,.string ⟨#[]⟩,.slice none 0 0] 26)
 have HH:=kp (h.finH (by omega))
 have HP:=kp (h.below HB.out)
 have HPK:=kp (peek_any HP.out)
 have HC:=kp hC
 have e0:=lit_eq (tkA p.toks k).text ⟨#[112,117,115,104]⟩ [112,117,115,104] (by decide +kernel)
 rw [decide_eq_false (hk ⟨#[112,117,115,104]⟩ (by simp [stKw]))] at e0
 have e1:=lit_eq (tkA p.toks k).text ⟨#[112,111,112]⟩ [112,111,112] (by decide +kernel)
 rw [decide_eq_false (hk ⟨#[112,111,112]⟩ (by simp [stKw]))] at e1
 have e2:=lit_eq (tkA p.toks k).text ⟨#[114,101,97,100]⟩ [114,101,97,100] (by decide +kernel)
 rw [decide_eq_false (hk ⟨#[114,101,97,100]⟩ (by simp [stKw]))] at e2
 have e3:=lit_eq (tkA p.toks k).text ⟨#[117,110,114,101,97,100]⟩ [117,110,114,101,97,100] (by decide +kernel)
 rw [decide_eq_false (hk ⟨#[117,110,114,101,97,100]⟩ (by simp [stKw]))] at e3
 have e4:=lit_eq (tkA p.toks k).text ⟨#[119,114,105,116,101]⟩ [119,114,105,116,101] (by decide +kernel)
 rw [decide_eq_false (hk ⟨#[119,114,105,116,101]⟩ (by simp [stKw]))] at e4
 have e5:=lit_eq (tkA p.toks k).text ⟨#[117,110,119,114,105,116,101]⟩ [117,110,119,114,105,116,101] (by decide +kernel)
 rw [decide_eq_false (hk ⟨#[117,110,119,114,105,116,101]⟩ (by simp [stKw]))] at e5
 have e6:=lit_eq (tkA p.toks k).text ⟨#[99,97,108,108]⟩ [99,97,108,108] (by decide +kernel)
 rw [decide_eq_false (hk ⟨#[99,97,108,108]⟩ (by simp [stKw]))] at e6
 have e7:=lit_eq (tkA p.toks k).text ⟨#[117,110,99,97,108,108]⟩ [117,110,99,97,108,108] (by decide +kernel)
 rw [decide_eq_false (hk ⟨#[117,110,99,97,108,108]⟩ (by simp [stKw]))] at e7
 have e8:=lit_eq (tkA p.toks k).text ⟨#[105,102]⟩ [105,102] (by decide +kernel)
 rw [decide_eq_false (hk ⟨#[105,102]⟩ (by simp [stKw]))] at e8
 have e9:=lit_eq (tkA p.toks k).text ⟨#[102,114,111,109]⟩ [102,114,111,109] (by decide +kernel)
 rw [decide_eq_false (hk ⟨#[102,114,111,109]⟩ (by simp [stKw]))] at e9
 have e10:=lit_eq (tkA p.toks k).text ⟨#[108,111,99,97,108]⟩ [108,111,99,97,108] (by decide +kernel)
 rw [decide_eq_false (hk ⟨#[108,111,99,97,108]⟩ (by simp [stKw]))] at e10
 have hf1:=fld1
 have hzw:(w.alloc (Obj.cells #[.int .u8 0,.int .i64 0,.string ⟨#[]⟩,.slice none 0 0] 26)).heap.size=w.heap.size+1:=by simp
 generalize tkA p.toks k=t at HPK e0 e1 e2 e3 e4 e5 e6 e7 e8 e9 e10
 clear h hk hC hlt
 go_enter Tryz.func143,Tryz.ntmps143
 go_upto_region 1 with fail
 generalize w.alloc _=V at HB HR HP HPK hzw ⊢
 have HV:=kp hzw
 clear hzw
 go_wp2_with fail
 refine HPK.out.mono ?_
 rintro e V1 ⟨rfl,hb1⟩
 have H1:=kp (And.intro (HP.out.below hb1) (Fr.from (PB:=p.PB) (Fr.of_below HB.out _) hb1))
 have HR1:=kp (HR.out.below hb1)
 have HS1:=kp hb1.size
 clear hb1
 go_wp2_with fail
 refine (HC.out V1 H1.out.1).mono ?_
 rintro e V2 ⟨A,c,rfl,hD,hS,h1,h2⟩
 have H2:=kp (And.intro h1 (Fr.then H1.out.2 h2))
 have HR2:=kp (HR1.out.frP h2 HH.out.pb)
 obtain ⟨r0,r1,r2,r3,f0,f1,f2,f3⟩:=HR2.out.four
 have hlr:=HR2.out.lt
 have HZ:=kp (nd_fin HH.out.pb HH.out.mb H2.out.1 H2.out.2 HH.out.a HR2.out (Nat.le_refl _) (lo:=V1.heap.size) (by have:=HS1.out;have:=HV.out;omega) hD hS)
 clear h1 h2 hD hS
 go_wp2_with fail
 generalize World.setCell _ _ _=WF at HZ ⊢
 obtain ⟨q0,q1,q2,q3,_⟩:=HZ.out.1.four
 exact bodyPost_ret (v:=.agg (ndC x A c)) (by simp [results,Tryz.results143,go_sem,q0,q1,q2,q3]) rfl HZ.out.2
end Go.Proofs.YtgbomnibedefoaaGreatDoor
