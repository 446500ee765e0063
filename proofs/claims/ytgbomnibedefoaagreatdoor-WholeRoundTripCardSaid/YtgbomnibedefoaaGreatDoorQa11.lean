import Derived.BigRegion
import Derived.Test.YtgbomnibedefoaaGreatDoorQa08
set_option maxRecDepth 100000
set_option maxHeartbeats 8000000
namespace Go.Proofs.YtgbomnibedefoaaGreatDoor
open Go.ChangeShapes Go.WideShapes Go.ChangeAt Go.RowKit Go.Sort Go.Maps
structure Ps where
 PB:Nat
 A:Option Addr
 toks:List Tok
 cap:Nat
 en:Int
 off:Int
 MB:Nat
 mn:Nat
 env:ByteArray→Option Nat
structure PsO (w:World) (p:Ps) (k:Nat):Prop where
 b:Bx w p.PB #[.slice p.A p.toks.length p.cap,.int .i64 k,.int .i64 p.en,.map (some p.MB),.int .i64 p.off,.int .i64 0]
 t:TksAt w p.PB p.A p.toks
 m:MapU w p.MB p.mn p.env
 ne:p.MB≠p.PB
 le:k≤p.toks.length
 len:p.toks.length≤100000
 tx:∀ t∈p.toks,t.text.size≤100000∧t.kind<256
theorem PsO.fr0 {w w':World} {p:Ps} {k:Nat} (h:PsO w p k) {m:Nat→Prop} (hf:Fr w w' m) (h1:¬ m p.PB) (h2:¬ m p.MB) (h3:∀ k,k<w.heap.size→m k→k=p.PB∨∀ b o,p.A=some ⟨b,o,none⟩→k≠b):PsO w' p k:=
 ⟨h.b.fr hf h1,fun j t hj=>by
  obtain ⟨b,o,e,hn,c0,c1,c2⟩:=h.t j t hj
  have hb:=block_lt_of_cell c0
  have hm:¬ m b:=fun hm=>by
   rcases h3 b hb hm with e2 | e2
   ·exact hn e2
   ·exact e2 b o e rfl
  exact ⟨b,o,e,hn,hf.cell c0 hm,hf.cell c1 hm,hf.cell c2 hm⟩,h.m.fr hf h2,h.ne,h.le,h.len,h.tx⟩
theorem PsO.below {w w':World} {p:Ps} {k:Nat} (h:PsO w p k) (hb:Below w.heap.size w w'):PsO w' p k:=
 h.fr0 (Fr.of_below hb fun _=>False) id id fun _ _ e=>e.elim
theorem Bx.fr6 {w:World} {b:Nat} {u0 u1 u2 u3 u4 u5:Value} (h:Bx w b #[u0,u1,u2,u3,u4,u5]) (v:Value):Bx (w.setCell ⟨b,1,none⟩ v) b #[u0,v,u2,u3,u4,u5]:=h.set 1 v
theorem PsO.move {w:World} {p:Ps} {k k':Nat} (h:PsO w p k) (hk:k'≤p.toks.length):PsO (w.setCell ⟨p.PB,1,none⟩ (.int .i64 k')) p k'∧Fr w (w.setCell ⟨p.PB,1,none⟩ (.int .i64 k')) (fun k=>k=p.PB):=by
 have hf:=Fr.of_set w ⟨p.PB,1,none⟩ (.int .i64 k')
 exact ⟨⟨h.b.fr6 _,h.t.fr hf,h.m.fr hf h.ne,h.ne,hk,h.len,h.tx⟩,hf⟩
theorem tks_at {w:World} {PB:Nat} {A:Option Addr} {l:List Tok} (h:TksAt w PB A l) {k:Nat} (hk:k<l.length):∃ b o,A=some ⟨b,o,none⟩∧b<w.heap.size∧b≠PB∧w.cell? ⟨b,o+k*3,none⟩=some (.int .u8 (tkA l k).kind)∧w.cell? ⟨b,o+k*3+1,none⟩=some (.string (tkA l k).text)∧w.cell? ⟨b,o+k*3+2,none⟩=some (.int .i64 (tkA l k).pos):=by
 rw [tkA_lt hk]
 obtain ⟨b,o,e,hn,h0,h1,h2⟩:=h k _ (List.getElem?_eq_getElem hk)
 exact ⟨b,o,e,block_lt_of_cell h0,hn,h0,h1,h2⟩
theorem peek_any {w:World} {p:Ps} {k:Nat} (h:PsO w p k) :
  Calls Tryz.prog 73 #[.pointer (some ⟨p.PB,0,none⟩)] w fun e w'=>e=.returned (.agg #[.int .u8 (tkA p.toks k).kind,.string (tkA p.toks k).text,.int .i64 (tkA p.toks k).pos])∧Below w.heap.size w w':=by
 have HB:=kp (blb w (Obj.cells #[.int .u8 0,.string ⟨#[]⟩,.int .i64 0] 130))
 have HR:=kp (bxn w #[.int .u8 0,.string ⟨#[]⟩,.int .i64 0] 130)
 have HP:=kp (h.below HB.out)
 have hl:(k:Int)≤p.toks.length:=by have:=h.le;omega
 by_cases hk:k=p.toks.length
 ·have HE:=kp (tkA_ge (l:=p.toks) (k:=k) (by omega))
  have hq:((k:Int) == (p.toks.length:Int))=true:=by rw [beqD,decide_eq_true hk]
  clear hk h
  go_enter Tryz.func73,Tryz.ntmps73
  go_upto_region 1 with fail
  generalize w.alloc _=V at HB HR HP ⊢
  obtain ⟨a0,a1,a2,a3,a4,a5⟩:=HP.out.b.six1
  have hla:=HP.out.b.lt
  obtain ⟨r0,r1,r2,f0,f1,f2⟩:=HR.out.three
  have hlr:=HR.out.lt
  go_quiet (fail)
  go_upto_region 2 with fail
  generalize hV2:V.drewN _=V2
  have HB2:=kp (show Below w.heap.size w V2 from hV2▸bdn HB.out _)
  have HR2:=kp (show Bx V2 w.heap.size #[.int .u8 0,.string ⟨#[]⟩,.int .i64 0] from hV2▸HR.out)
  clear hV2
  obtain ⟨r0,r1,r2,f0,f1,f2⟩:=HR2.out.three
  have hlr:=HR2.out.lt
  go_wp2_with fail
  have HR3:=HR2.out.set3 (.int .u8 0) (.string ⟨#[]⟩) (.int .i64 0)
  have HB3:=below_set3 HB2.out (b:=w.heap.size) (Nat.le_refl _) (.int .u8 0) (.string ⟨#[]⟩) (.int .i64 0)
  generalize World.setCell _ _ _=V3 at HR3 HB3 ⊢
  obtain ⟨q0,q1,q2,_⟩:=HR3.three
  exact bodyPost_ret (v:=.agg #[.int .u8 0,.string ⟨#[]⟩,.int .i64 0]) (by simp [results,Tryz.results73,go_sem,q0,q1,q2]) rfl ⟨by rw [HE.out];rfl,HB3⟩
 ·have hk2:k<p.toks.length:=by omega
  have hq:((k:Int) == (p.toks.length:Int))=false:=by rw [beqD,decide_eq_false hk]
  obtain ⟨b,o,hA,hb,hn,t0,t1,t2⟩:=tks_at HP.out.t hk2
  have i0:(0:Int)≤k:=by omega
  have i1:(k:Int)<p.toks.length:=by omega
  generalize tkA p.toks k=t at *
  clear hk h
  go_enter Tryz.func73,Tryz.ntmps73
  go_upto_region 1 with fail
  generalize w.alloc _=V at HB HR HP t0 t1 t2 hb ⊢
  obtain ⟨a0,a1,a2,a3,a4,a5⟩:=HP.out.b.six1
  rw [hA] at a0
  have hla:=HP.out.b.lt
  obtain ⟨r0,r1,r2,f0,f1,f2⟩:=HR.out.three
  have hlr:=HR.out.lt
  go_quiet (fail)
  go_upto_region 3 with fail
  generalize hV2:V.drewN _=V2
  have HB2:=kp (show Below w.heap.size w V2 from hV2▸bdn HB.out _)
  have HR2:=kp (show Bx V2 w.heap.size #[.int .u8 0,.string ⟨#[]⟩,.int .i64 0] from hV2▸HR.out)
  have hPB:Bx V2 p.PB #[.slice (some ⟨b,o,none⟩) p.toks.length p.cap,.int .i64 k,.int .i64 p.en,.map (some p.MB),.int .i64 p.off,.int .i64 0]:=hV2▸hA▸HP.out.b
  have t0:V2.cell? ⟨b,o+k*3,none⟩=some (.int .u8 t.kind):=hV2▸t0
  have t1:V2.cell? ⟨b,o+k*3+1,none⟩=some (.string t.text):=hV2▸t1
  have t2:V2.cell? ⟨b,o+k*3+2,none⟩=some (.int .i64 t.pos):=hV2▸t2
  obtain ⟨a0,a1,a2,a3,a4,a5⟩:=hPB.six1
  have hla:=hPB.lt
  have hb:=block_lt_of_cell t0
  clear hV2 hPB
  obtain ⟨r0,r1,r2,f0,f1,f2⟩:=HR2.out.three
  have hlr:=HR2.out.lt
  go_region
  go_wp2_with fail
  have HR3:=HR2.out.set3 (.int .u8 t.kind) (.string t.text) (.int .i64 t.pos)
  have HB3:=below_set3 HB2.out (b:=w.heap.size) (Nat.le_refl _) (.int .u8 t.kind) (.string t.text) (.int .i64 t.pos)
  generalize World.setCell _ _ _=V3 at HR3 HB3 ⊢
  obtain ⟨q0,q1,q2,_⟩:=HR3.three
  exact bodyPost_ret (v:=t.val) (by simp [results,Tryz.results73,go_sem,q0,q1,q2,Tok.val]) rfl ⟨rfl,bld HB3⟩
theorem fld0 (a b c:Value) (W:World):(Instr.field 130 (.agg #[a,b,c]) 0).run Tryz.prog W=.ok a W:=by kernel_rfl
theorem fld1 (a b c:Value) (W:World):(Instr.field 130 (.agg #[a,b,c]) 1).run Tryz.prog W=.ok b W:=by kernel_rfl
theorem fld2 (a b c:Value) (W:World):(Instr.field 130 (.agg #[a,b,c]) 2).run Tryz.prog W=.ok c W:=by kernel_rfl
def AccP (p:Ps) (k:Nat) (s:ByteArray) (w:World) (e:Ending) (w':World):Prop:=
 e=.returned (.bool (decide ((tkA p.toks k).text=s)))∧PsO w' p (if (tkA p.toks k).text=s then k+1 else k)∧Fr w w' (fun k=>k=p.PB)
theorem accept_any {w:World} {p:Ps} {k:Nat} (h:PsO w p k) {s:ByteArray} (hs:s≠⟨#[]⟩) :
  Calls Tryz.prog 105 #[.pointer (some ⟨p.PB,0,none⟩),.string s] w (AccP p k s w):=by
 have HC:=kp (peek_any h)
 have HP:=kp h
 by_cases hk:(tkA p.toks k).text=s
 ·have hlt:k<p.toks.length:=by
   rcases Nat.lt_or_ge k p.toks.length with e | e
   ·exact e
   ·exact absurd (by rw [← hk,tkA_ge e];rfl) hs
  have HZ:=kp (fun (V:World) (hb:Below w.heap.size w V)=>show AccP p k s w (.returned (.bool true)) (V.setCell ⟨p.PB,1,none⟩ (.int .i64 ((k:Int)+1))) from by
   obtain ⟨h1,h2⟩:=(h.below hb).move (k':=k+1) hlt
   refine ⟨by rw [decide_eq_true hk],by rw [if_pos hk];exact h1,((Fr.of_below hb _).trans h2 fun _ _ e=>e)⟩)
  have hq:((tkA p.toks k).text.toList == s.toList)=true:=by rw [eqS_eq,decide_eq_true hk]
  have hw:IntKind.i64.wrap ((k:Int)+1)=(k:Int)+1:=by rw [IntKind.wrap_i64];have:=h.len;have:=h.le;omega
  have hl1:=h.len
  have hl2:=h.le
  generalize tkA p.toks k=t at HC hq
  clear h hk
  have hf1:=fld1
  go_enter Tryz.func105,Tryz.ntmps105
  go_wp2_with fail
  refine HC.out.mono ?_
  rintro e V ⟨rfl,hb⟩
  have HZ2:=kp (HZ.out V hb)
  have hP:=HP.out.below hb
  obtain ⟨a0,a1,a2,a3,a4,a5⟩:=hP.b.six1
  have f1:=hP.b.free 1
  have hla:=hP.b.lt
  clear hb hP
  go_wp2_with fail
  go_ret
  exact HZ2.out
 ·have HZ:=kp (fun (V:World) (hb:Below w.heap.size w V)=>show AccP p k s w (.returned (.bool false)) V from ⟨by rw [decide_eq_false hk],by rw [if_neg hk];exact h.below hb,Fr.of_below hb _⟩)
  have hq:((tkA p.toks k).text.toList == s.toList)=false:=by rw [eqS_eq,decide_eq_false hk]
  generalize tkA p.toks k=t at HC hq
  clear h hk
  have hf1:=fld1
  go_enter Tryz.func105,Tryz.ntmps105
  go_wp2_with fail
  refine HC.out.mono ?_
  rintro e V ⟨rfl,hb⟩
  have HZ2:=kp (HZ.out V hb)
  clear hb
  go_wp2_with fail
  go_ret
  exact HZ2.out
theorem expect_any {w:World} {p:Ps} {k:Nat} (h:PsO w p k) {s:ByteArray} (hs:s≠⟨#[]⟩) (hk:(tkA p.toks k).text=s) :
  Calls Tryz.prog 76 #[.pointer (some ⟨p.PB,0,none⟩),.string s] w fun e w'=>e=.returned (.tuple #[])∧PsO w' p (k+1)∧Fr w w' (fun k=>k=p.PB):=by
 have HC:=kp (show Calls Tryz.prog 105 #[.pointer (some ⟨p.PB,0,none⟩),.string s] w fun e w'=>e=.returned (.bool true)∧PsO w' p (k+1)∧Fr w w' (fun k=>k=p.PB) from (accept_any h hs).mono fun e w' ⟨h1,h2,h3⟩=>⟨by rw [h1,decide_eq_true hk],by rw [if_pos hk] at h2;exact h2,h3⟩)
 clear h hk hs
 go_enter Tryz.func76,Tryz.ntmps76
 go_wp2_with fail
 refine HC.out.mono ?_
 rintro e V ⟨rfl,h1,h2⟩
 have HZ:=kp (And.intro h1 h2)
 clear h1 h2
 go_wp2_with fail
 go_end0
 exact ⟨rfl,HZ.out⟩
theorem pname_any {w:World} {p:Ps} {k:Nat} (h:PsO w p k) (hk:lnmB (tkA p.toks k).text=true) :
  Calls Tryz.prog 106 #[.pointer (some ⟨p.PB,0,none⟩)] w fun e w'=>e=.returned (.string (tkA p.toks k).text)∧PsO w' p (k+1)∧Fr w w' (fun k=>k=p.PB):=by
 have hlt:k<p.toks.length:=by
  rcases Nat.lt_or_ge k p.toks.length with e | e
  ·exact e
  ·rw [tkA_ge e] at hk;exact absurd hk (by decide)
 have hsz:(tkA p.toks k).text.size≤100000:=by rw [tkA_lt hlt];exact (h.tx _ (List.getElem_mem hlt)).1
 have HC:=kp (peek_any h)
 have HP:=kp h
 have HN:=kp (fun (V:World)=>show Calls Tryz.prog 49 #[.string (tkA p.toks k).text] V fun e w'=>e=.returned (.bool true)∧Below V.heap.size V w' from by have:=name_any (tkA p.toks k).text V (by omega);rwa [hk] at this)
 have hw:IntKind.i64.wrap ((k:Int)+1)=(k:Int)+1:=by rw [IntKind.wrap_i64];have:=h.len;have:=h.le;omega
 have HZ:=kp (fun (V:World) (hb:Below w.heap.size w V)=>show PsO (V.setCell ⟨p.PB,1,none⟩ (.int .i64 ((k:Int)+1))) p (k+1)∧Fr w (V.setCell ⟨p.PB,1,none⟩ (.int .i64 ((k:Int)+1))) (fun k=>k=p.PB) from by
  obtain ⟨h1,h2⟩:=(h.below hb).move (k':=k+1) hlt
  exact ⟨h1,((Fr.of_below hb _).trans h2 fun _ _ e=>e)⟩)
 have hlp:=h.b.lt
 generalize tkA p.toks k=t at HC HN ⊢
 clear h hk hlt hsz
 go_enter Tryz.func106,Tryz.ntmps106
 go_wp2_with fail
 refine HC.out.mono ?_
 rintro e V ⟨rfl,hb⟩
 have HB:=kp hb
 clear hb
 go_upto_region 2 with fail
 have HB1:=kp (blb V (Obj.cells #[.int .u8 t.kind,.string t.text,.int .i64 t.pos] 130))
 have HR:=kp (bxn V #[.int .u8 t.kind,.string t.text,.int .i64 t.pos] 130)
 generalize V.alloc _=V1 at HB1 HR ⊢
 have HB2:=kp (bls HB.out HB.out.size HB1.out)
 obtain ⟨r0,r1,r2,_⟩:=HR.out.three
 have hlr:=HR.out.lt
 go_wp2_with fail
 refine (HN.out V1).mono ?_
 rintro e V2 ⟨rfl,hb2⟩
 have HB3:=kp (bls HB2.out HB2.out.size hb2)
 have HR2:=kp (HR.out.below hb2)
 have hP:=HP.out.below HB3.out
 have HZ2:=kp (HZ.out V2 HB3.out)
 obtain ⟨a0,a1,a2,a3,a4,a5⟩:=hP.b.six1
 have f1:=hP.b.free 1
 have hla:=hP.b.lt
 clear hb2 hP r0 r1 r2 hlr
 go_upto_region 6 with fail
 have hr:Bx (V2.setCell ⟨p.PB,1,none⟩ (.int .i64 ((k:Int)+1))) V.heap.size #[.int .u8 t.kind,.string t.text,.int .i64 t.pos]:=HR2.out.fr (Fr.of_set V2 ⟨p.PB,1,none⟩ _) (fun e=>by have e':V.heap.size=p.PB:=e;have:=HB.out.size;omega)
 generalize V2.setCell _ _=V3 at hr HZ2 ⊢
 obtain ⟨r0,r1,r2,_⟩:=hr.three
 have hlr:=hr.lt
 clear hr
 go_wp2_with fail
 go_ret
 exact ⟨rfl,HZ2.out⟩
end Go.Proofs.YtgbomnibedefoaaGreatDoor
