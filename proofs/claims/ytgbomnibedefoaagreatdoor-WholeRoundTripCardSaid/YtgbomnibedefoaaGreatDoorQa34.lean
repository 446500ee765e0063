import Derived.Test.YtgbomnibedefoaaGreatDoorQa22
import Derived.Test.YtgbomnibedefoaaGreatDoorQa33
set_option maxRecDepth 100000
set_option maxHeartbeats 8000000
namespace Go.Proofs.YtgbomnibedefoaaGreatDoor
open Go.ChangeShapes Go.WideShapes Go.ChangeAt Go.RowKit Go.Sort Go.Maps
def symL:List ByteArray:=[⟨#[]⟩,⟨#[]⟩,⟨#[]⟩,⟨#[]⟩,⟨#[]⟩,⟨#[]⟩,⟨#[45]⟩,⟨#[33]⟩,⟨#[43]⟩,⟨#[45]⟩,⟨#[42]⟩,⟨#[47]⟩,⟨#[37]⟩,⟨#[38]⟩,⟨#[124]⟩,⟨#[94]⟩,⟨#[61,61]⟩,⟨#[33,61]⟩,⟨#[60]⟩,⟨#[60,61]⟩,⟨#[62]⟩,⟨#[62,61]⟩,⟨#[38,38]⟩,⟨#[124,124]⟩,⟨#[]⟩,⟨#[]⟩,⟨#[]⟩,⟨#[]⟩,⟨#[]⟩,⟨#[]⟩,⟨#[]⟩,⟨#[]⟩,⟨#[]⟩,⟨#[]⟩,⟨#[]⟩,⟨#[]⟩,⟨#[]⟩,⟨#[]⟩,⟨#[]⟩,⟨#[]⟩,⟨#[43,61]⟩,⟨#[45,61]⟩,⟨#[94,61]⟩]
def SymW (w:World):Prop:=∀ (k:Nat) (s:ByteArray),symL[k]?=some s→w.cell? ⟨0,k,none⟩=some (.string s)
theorem SymW.below {w w':World} (h:SymW w) (hb:Below w.heap.size w w'):SymW w':=fun k s hk=>blc hb (h k s hk)
theorem SymW.fr {w w':World} {m:Nat→Prop} (h:SymW w) (hf:Fr w w' m) (hn:¬ m 0):SymW w':=fun k s hk=>hf.cell (h k s hk) hn
def symS (k:Nat):ByteArray:=symL[k]?.getD ⟨#[]⟩
theorem symL_len:symL.length=43:=rfl
theorem symbol_any {w:World} (h:SymW w) {k:Nat} (hk:k<43) :
  Calls Tryz.prog 70 #[.int .u8 k] w fun e w'=>e=.returned (.string (symS k))∧w=w':=by
 have hc:=h k (symS k) (by unfold symS;rw [List.getElem?_eq_getElem (by rw [symL_len];exact hk)];rfl)
 have hl:=block_lt_of_cell hc
 generalize symS k=s at *
 have r1:(k:Int)<43:=by omega
 have r0:(0:Int)≤k:=by omega
 have hw:IntKind.i64.wrap (k:Int)=k:=by rw [IntKind.wrap_i64];omega
 clear h
 go_enter Tryz.func70,Tryz.ntmps70
 go_wp2_with fail
 go_ret
 exact ⟨rfl,rfl⟩
def opsL (n:Nat):List Value:=(List.range n).map fun i=>Value.int .u8 ((8+i:Nat):Int)
theorem opsL_succ (n:Nat):opsL (n+1)=opsL n++[Value.int .u8 ((8+n:Nat):Int)]:=by unfold opsL;rw [List.range_succ,List.map_append];rfl
theorem info_u8:(Tryz.prog.info? 5).map (fun i=>(i.zero,i.size,i.bytes))=some (some (.int .u8 0),1,1):=by kernel_rfl
def OpsP (w:World) (e:Ending) (w':World):Prop:=∃ A c,e=.returned (.slice A 16 c)∧w'.ownsRow w.heap.size 5 1 (.slice A 16 c) 16 (opsL 16)∧Below w.heap.size w w'
theorem operators_any (w:World):Calls Tryz.prog 69 #[] w (OpsP w):=by
 obtain ⟨i0,hi0,hz0,hz1,hz2⟩:=info_parts info_u8
 have HI0:=kp (And.intro hi0 (And.intro hz0 (And.intro hz1 hz2)))
 clear hi0 hz0 hz1 hz2
 go_enter Tryz.func69,Tryz.ntmps69
 go_upto_region 3 with fail
 go_loopw [1,2] (fun l o wr=>∃ (i:Nat) (A:Option Addr) (c:Nat),i≤16∧o=.int .u8 ((8+i:Nat):Int)∧l=.slice A i c∧Hid (wr.ownsRow w.heap.size 5 1 (.slice A i c) i (opsL i)∧Below w.heap.size w wr)) (fun _ o _=>24 - (intOf o).toNat)
 case atStart=>exact ⟨0,none,0,by omega,rfl,rfl,kp ⟨World.ownsRow_nil _ _ _ _,Below.refl _ _⟩⟩
 case round=>
  obtain ⟨i,A,c,hi,rfl,rfl,HR⟩:=hrel
  by_cases hin:i<16
  ·have r1:((8+i:Nat):Int)≤23:=by omega
   obtain ⟨z,hz⟩:∃ z:Int,z=((8+i:Nat):Int):=⟨_,rfl⟩
   rw [← hz] at r1 ⊢
   have hzl:z<100:=by omega
   have hw:IntKind.u8.wrap (z+1)=z+1:=by rw [IntKind.wrap_u8];omega
   have HZ:=kp hz
   clear hz
   go_wp2_with (at_builtin;go_loud (refine wpList_app _ rfl _ _ 125 rfl w.heap.size 5 i0 (.int .u8 0) 1 1 Tryz.underlying125 HI0.out.1 HI0.out.2.1 HI0.out.2.2.1 HI0.out.2.2.2 rfl (by decide) (.slice A i c) i (opsL i) rfl (obl HR.out.1 (blb _ _)) (some ⟨wr.heap.size,0,none⟩) 1 1 [.int .u8 z] rfl rfl (cnu wr rfl [.int .u8 z] _) (fun u hu=>by simp at hu;rcases hu with rfl;rfl) (by unfold maxLen;omega) (by omega) (by have:=HR.out.2.size;simp;omega) ?_;intro v' w9 hown' hgrow hat;obtain ⟨A9,c9,rfl,hc9,hqq⟩:=ofb hown';have HM:=kp (And.intro hown' ((Fr.of_grown hgrow).toBelow (bls HR.out.2 HR.out.2.size (blb wr _)) (by have:=HR.out.2.size;simp;omega) fun g hg=>obg HR.out.1 g hg.symm));clear hqq hc9 hown' hgrow hat))
   have hz':=HZ.out
   refine ⟨⟨i+1,A9,c9,by omega,by rw [hz'];congr 1,rfl,kp ⟨?_,HM.out.2⟩⟩,by simp [intOf];omega⟩
   rw [opsL_succ,← hz']
   exact HM.out.1
  ·obtain rfl:i=16:=by omega
   have r1:¬ ((8+16:Nat):Int)≤23:=by decide
   clear hi hin
   go_wp2_with fail
   go_ret
   exact ⟨_,_,rfl,HR.out⟩
structure LexS (s:ByteArray) (ts:List Tok) (ps:Nat→Nat):Prop where
 z:ps 0=0
 st:∀ i t,ts[i]?=some t→∃ sz:Nat,firstR (s.extract (ps i) s.size)=(t.kind,(sz:Int))∧1≤sz∧ps (i+1)=ps i+sz∧ps (i+1)≤s.size∧t.text=s.extract (ps i) (ps (i+1))∧t.pos=((ps i:Nat):Int)
 e:ps ts.length=s.size
 l:s.size≤65536
def tkCs (l:List Tok):List Value:=l.flatMap Tok.cs
theorem tkCs_take {l:List Tok} {i:Nat} {t:Tok} (h:l[i]?=some t):tkCs (l.take (i+1))=tkCs (l.take i)++t.cs:=by
 have hl:=(List.getElem?_eq_some_iff.1 h).1
 rw [← List.take_append_getElem hl,Option.some.inj ((List.getElem?_eq_getElem hl).symm.trans h)]
 unfold tkCs;rw [List.flatMap_append];simp
theorem tkCs_get {l:List Tok} {k:Nat} {t:Tok} (hk:l[k]?=some t):(tkCs l)[k*3]?=some (.int .u8 t.kind)∧(tkCs l)[k*3+1]?=some (.string t.text)∧(tkCs l)[k*3+2]?=some (.int .i64 t.pos):=by
 induction l generalizing k with
 | nil=>simp at hk
 | cons x r ih=>
   have e:tkCs (x::r)=.int .u8 x.kind::.string x.text::.int .i64 x.pos::tkCs r:=by unfold tkCs;rw [List.flatMap_cons];rfl
   rw [e]
   cases k with
   | zero=>simp at hk;subst hk;exact ⟨rfl,rfl,rfl⟩
   | succ k=>
     obtain ⟨q0,q1,q2⟩:=ih (k:=k) (by simpa using hk)
     rw [show (k+1)*3=k*3+1+1+1 by omega]
     exact ⟨by simpa using q0,by simpa using q1,by simpa using q2⟩
theorem tks_own {w Y:World} {B PB:Nat} {A:Option Addr} {c:Nat} {l:List Tok} (h:w.ownsRow B 130 3 (.slice A l.length c) l.length (tkCs l)) (hp:∀ g,(Value.slice A l.length c).ownBlock=some g→g≠PB) (hY:∀ g,(Value.slice A l.length c).ownBlock=some g→Y.heap[g]?=w.heap[g]?):TksAt Y PB A l:=by
 have hY2:=hY
 rcases h.2 with ⟨e,h0⟩ | ⟨g,cap,cur,e,hg,hh,hc1,hc2,hc3,hc4⟩
 ·injection e with e1 e2 e3
  subst e1 e3
  intro k x hk
  have:=(List.getElem?_eq_some_iff.1 hk).1;omega
 ·injection e with e1 e2 e3
  subst e1 e3
  intro k x hk
  have hcell:∀ (j:Nat) (u:Value),(tkCs l)[j]?=some u→Y.cell? ⟨g,j,none⟩=some u:=fun j u hu=>by
   have:=h.cells (g:=g) rfl j u hu
   rw [add0] at this
   rw [World.cell?_of_block (hY g rfl)];exact this
  obtain ⟨q0,q1,q2⟩:=tkCs_get hk
  refine ⟨g,0,rfl,hp g rfl,?_⟩
  rw [Nat.zero_add]
  exact ⟨hcell _ _ q0,hcell _ _ q1,hcell _ _ q2⟩
theorem info_tk:(Tryz.prog.info? 130).map (fun i=>(i.zero,i.size,i.bytes))=some (some (.agg #[.int .u8 0,.string ⟨#[]⟩,.int .i64 0]),3,32):=by kernel_rfl
def LxP (ts:List Tok) (w:World) (e:Ending) (w':World):Prop:=∃ A c,e=.returned (.tuple #[.slice A ts.length c,.int .i64 0,.int .i64 0])∧w'.ownsRow w.heap.size 130 3 (.slice A ts.length c) ts.length (tkCs ts)∧Below w.heap.size w w'
theorem ps_le {s:ByteArray} {ts:List Tok} {ps:Nat→Nat} (h:LexS s ts ps):∀ i,i≤ts.length→i≤ps i∧ps i≤s.size:=by
 intro i
 induction i with
 | zero=>intro _;rw [h.z];omega
 | succ i ih=>
   intro hi
   obtain ⟨sz,_,h2,h3,h4,_⟩:=h.st i _ (List.getElem?_eq_getElem (show i<ts.length by omega))
   have:=ih (by omega)
   omega
theorem lex_any {s:ByteArray} {ts:List Tok} {ps:Nat→Nat} (h:LexS s ts ps) (w:World):Calls Tryz.prog 67 #[.string s] w (LxP ts w):=by
 obtain ⟨i0,hi0,hz0,hz1,hz2⟩:=info_parts info_tk
 have HI0:=kp (And.intro hi0 (And.intro hz0 (And.intro hz1 hz2)))
 have HS:=kp h
 have r0:¬ (65536:Int)<s.size:=by have:=h.l;omega
 have hss:s.size≤65536:=h.l
 have hlen:ts.length≤65536:=by have:=ps_le h _ (Nat.le_refl _);omega
 clear hi0 hz0 hz1 hz2 h
 go_enter Tryz.func67,Tryz.ntmps67
 go_upto_region 5 with fail
 go_loopw [5,6] (fun l o wr=>∃ (i:Nat) (A:Option Addr) (c:Nat),i≤ts.length∧o=.int .i64 (ps i:Nat)∧l=.slice A i c∧Hid (wr.ownsRow w.heap.size 130 3 (.slice A i c) i (tkCs (ts.take i))∧Below w.heap.size w wr)) (fun _ o _=>s.size - (intOf o).toNat)
 case atStart=>exact ⟨0,none,0,by omega,by rw [HS.out.z];rfl,rfl,kp ⟨World.ownsRow_nil _ _ _ _,Below.refl _ _⟩⟩
 case round=>
  obtain ⟨i,A,c,hi,rfl,rfl,HR⟩:=hrel
  by_cases hin:i<ts.length
  ·obtain ⟨sz,s1,s2,s3,s4,s5,s6⟩:=HS.out.st i _ (List.getElem?_eq_getElem hin)
   have HT:=kp (List.getElem?_eq_getElem hin)
   generalize ts[i]=t at s1 s5 s6 HT
   have hpl:=(ps_le HS.out i hi).2
   have r1:((ps i:Nat):Int)<s.size:=by omega
   have r2:(0:Int)≤(ps i:Nat):=by omega
   have HF:=kp (show Calls Tryz.prog 80 #[.string (s.extract (ps i) s.size)] wr fun e w'=>e=.returned (.tuple #[.int .u8 t.kind,.int .i64 (sz:Int)])∧Below wr.heap.size wr w' from by
    have:=first_any (s.extract (ps i) s.size) wr (by rw [ByteArray.size_extract];omega) (by rw [ByteArray.size_extract];omega)
    rw [s1] at this
    exact this.mono fun e w' ⟨h1,h2⟩=>⟨h1,h2▸Below.refl _ _⟩)
   have hq:((sz:Int) == 0)=false:=beqF (b:=0) (by omega)
   have hw:IntKind.i64.wrap ((ps i:Nat)+(sz:Int))=((ps (i+1):Nat):Int):=by rw [IntKind.wrap_i64,s3];omega
   have r3:((ps i:Nat):Int)≤(ps (i+1):Nat):=by omega
   have r4:((ps (i+1):Nat):Int)≤s.size:=by omega
   have r5:(0:Int)≤(ps (i+1):Nat):=by omega
   have HL:=kp (And.intro s2 s3)
   have H56:=kp (And.intro s5 s6)
   clear s1 s2 s3 s4 s5 s6
   go_wp2_with fail
   refine HF.out.mono ?_
   rintro e W1 ⟨rfl,hb⟩
   have HB:=kp hb
   clear hb
   have HO:=kp (obl HR.out.1 HB.out)
   go_wp2_with (at_builtin;go_loud (refine wpList_app _ rfl _ _ 86 rfl w.heap.size 130 i0 (.agg #[.int .u8 0,.string ⟨#[]⟩,.int .i64 0]) 3 32 Tryz.underlying86 HI0.out.1 HI0.out.2.1 HI0.out.2.2.1 HI0.out.2.2.2 rfl (by decide) (.slice A i c) i (tkCs (ts.take i)) rfl (obl HO.out (blb _ _)) (some ⟨W1.heap.size,0,none⟩) 1 1 [.int .u8 t.kind,.string (s.extract (ps i) (ps (i+1))),.int .i64 (ps i:Nat)] rfl rfl (cnu W1 rfl [.int .u8 t.kind,.string (s.extract (ps i) (ps (i+1))),.int .i64 (ps i:Nat)] _) (fun u hu=>by simp at hu;rcases hu with rfl | rfl | rfl<;>rfl) (by unfold maxLen;omega) (by omega) (by have:=HR.out.2.size;have:=HB.out.size;simp;omega) ?_;intro v' w9 hown' hgrow hat;obtain ⟨A9,c9,rfl,hc9,hqq⟩:=ofb hown';have HM:=kp (And.intro hown' ((Fr.of_grown hgrow).toBelow (bls (bls HR.out.2 HR.out.2.size HB.out) (by have:=HR.out.2.size;have:=HB.out.size;omega) (blb W1 _)) (by have:=HR.out.2.size;have:=HB.out.size;simp;omega) fun g hg=>obg HR.out.1 g hg.symm));clear hqq hc9 hown' hgrow hat))
   refine ⟨⟨i+1,A9,c9,by omega,rfl,rfl,kp ⟨?_,HM.out.2⟩⟩,by have:=HL.out;simp [intOf];omega⟩
   rw [tkCs_take HT.out,Tok.cs,H56.out.1,H56.out.2]
   exact HM.out.1
  ·obtain rfl:i=ts.length:=by omega
   have r1:¬ ((ps ts.length:Nat):Int)<s.size:=by rw [HS.out.e];omega
   have HZ:=kp (show LxP ts w (.returned (.tuple #[.slice A ts.length c,.int .i64 0,.int .i64 0])) wr from ⟨A,c,rfl,by have:=HR.out.1;rwa [List.take_length] at this,HR.out.2⟩)
   clear hi hin
   go_wp2_with fail
   exact bodyPost_ret (v:=.tuple #[.slice A ts.length c,.int .i64 0,.int .i64 0]) (by simp [results,Tryz.results67,go_sem]) rfl HZ.out
def solB (t:Tok):Bool:=decide (t.kind≠4)&&decide (t.kind≠5)
def solP (ts:List Tok) (w:World) (e:Ending) (w':World):Prop:=∃ A c,e=.returned (.slice A (ts.filter solB).length c)∧w'.ownsRow w.heap.size 130 3 (.slice A (ts.filter solB).length c) (ts.filter solB).length (tkCs (ts.filter solB))∧Below w.heap.size w w'
theorem tks_cells {w:World} {A:Option Addr} {l:List Tok} (h:CellsAt w A (tkCs l)) {k:Nat} (hk:k<l.length):∃ b o,A=some ⟨b,o,none⟩∧b<w.heap.size∧w.cell? ⟨b,o+k*3,none⟩=some (.int .u8 l[k].kind)∧w.cell? ⟨b,o+k*3+1,none⟩=some (.string l[k].text)∧w.cell? ⟨b,o+k*3+2,none⟩=some (.int .i64 l[k].pos):=by
 obtain ⟨q0,q1,q2⟩:=tkCs_get (List.getElem?_eq_getElem hk)
 obtain ⟨b,o,e,h0⟩:=h _ _ q0
 obtain ⟨b1,o1,e1,h1⟩:=h _ _ q1
 obtain ⟨b2,o2,e2,h2⟩:=h _ _ q2
 rw [e] at e1 e2
 injection e1 with e1
 injection e1 with p1 p2
 injection e2 with e2
 injection e2 with p3 p4
 subst p1 p2 p3 p4
 exact ⟨b,o,e,block_lt_of_cell h0,h0,by rw [Nat.add_assoc];exact h1,by rw [Nat.add_assoc];exact h2⟩
theorem fil_take {l:List Tok} {k:Nat} (hk:k<l.length):(l.take (k+1)).filter solB=(l.take k).filter solB++(if solB l[k]=true then [l[k]] else []):=by
 rw [← List.take_append_getElem hk,List.filter_append,List.filter_cons,List.filter_nil]
structure SolI (ts:List Tok) (w:World) (k m:Nat) (v:Value) (wr:World):Prop where
 own:wr.ownsRow w.heap.size 130 3 v m (tkCs ((ts.take k).filter solB))
 m:m=((ts.take k).filter solB).length
 b:Below w.heap.size w wr
theorem solid_any {ts:List Tok} {w:World} {A0:Option Addr} {c0:Nat} (hA:CellsAt w A0 (tkCs ts)) (hl:ts.length≤65536):Calls Tryz.prog 68 #[.slice A0 ts.length c0] w (solP ts w):=by
 obtain ⟨i0,hi0,hz0,hz1,hz2⟩:=info_parts info_tk
 have HI0:=kp (And.intro hi0 (And.intro hz0 (And.intro hz1 hz2)))
 have HA:=kp hA
 clear hi0 hz0 hz1 hz2 hA
 go_enter Tryz.func68,Tryz.ntmps68
 go_upto_region 3 with fail
 go_loopw [3,8] (fun l o wr=>∃ (k m:Nat) (A:Option Addr) (c:Nat),k≤ts.length∧o=.int .i64 k∧l=.slice A m c∧Hid (SolI ts w k m (.slice A m c) wr)) (fun _ o _=>ts.length - (intOf o).toNat)
 case atStart=>exact ⟨0,0,none,0,by omega,rfl,rfl,kp ⟨World.ownsRow_nil _ _ _ _,rfl,Below.refl _ _⟩⟩
 case round=>
  obtain ⟨k,m,A,c,hk,rfl,rfl,HR⟩:=hrel
  by_cases hin:k<ts.length
  ·have HAR:=kp (show CellsAt wr A0 (tkCs ts) from HA.out.mono HR.out.b)
   obtain ⟨bk,ok,rfl,hbk,k0,k1,k2⟩:=tks_cells HAR.out hin
   have HFT:=kp (fil_take hin)
   have r0:(0:Int)≤k:=by omega
   have r1:(k:Int)<ts.length:=by omega
   have hml:m≤65536:=by
    have:=HR.out.m
    have:=List.length_filter_le solB (ts.take k)
    have:=List.length_take_le k ts
    omega
   generalize ts[k]=t at k0 k1 k2 HFT
   go_upto_region 5 with fail
   have HB1:=kp (blb wr (Obj.cells #[.int .u8 t.kind,.string t.text,.int .i64 t.pos] 130))
   have HT1:=kp (bxn wr #[.int .u8 t.kind,.string t.text,.int .i64 t.pos] 130)
   generalize wr.alloc _=W at HB1 HT1 ⊢
   obtain ⟨t0,t1,t2,_⟩:=HT1.out.three
   have hlt:=HT1.out.lt
   have q4:((t.kind:Int) != 4)=!decide (t.kind=4):=congrArg Bool.not (beqD t.kind 4)
   have q5:((t.kind:Int) != 5)=!decide (t.kind=5):=congrArg Bool.not (beqD t.kind 5)
   have HBW:=kp (bls HR.out.b HR.out.b.size HB1.out)
   have HOW:=kp (obl HR.out.own HB1.out)
   clear k0 k1 k2 hbk
   by_cases h4:t.kind=4
   ·have HS:=kp (show solB t=false by unfold solB;simp [h4])
    have HZ:=kp (show SolI ts w (k+1) m (.slice A m c) W from by
     refine ⟨?_,?_,HBW.out⟩
     ·rw [HFT.out,if_neg (by rw [HS.out];decide),List.append_nil];exact HOW.out
     ·rw [HFT.out,if_neg (by rw [HS.out];decide),List.append_nil];exact HR.out.m)
    rw [decide_eq_true h4] at q4
    rw [Bool.not_true] at q4
    clear h4 q5
    go_wp2_with fail
    exact ⟨⟨k+1,m,A,c,by omega,by go_num,rfl,HZ⟩,by simp [intOf];omega⟩
   by_cases h5:t.kind=5
   ·have HS:=kp (show solB t=false by unfold solB;simp [h5])
    have HZ:=kp (show SolI ts w (k+1) m (.slice A m c) W from by
     refine ⟨?_,?_,HBW.out⟩
     ·rw [HFT.out,if_neg (by rw [HS.out];decide),List.append_nil];exact HOW.out
     ·rw [HFT.out,if_neg (by rw [HS.out];decide),List.append_nil];exact HR.out.m)
    rw [decide_eq_true h5,Bool.not_true] at q5
    rw [decide_eq_false h4,Bool.not_false] at q4
    clear h4 h5
    go_wp2_with fail
    exact ⟨⟨k+1,m,A,c,by omega,by go_num,rfl,HZ⟩,by simp [intOf];omega⟩
   ·have HS:=kp (show solB t=true by unfold solB;simp [h4,h5])
    rw [decide_eq_false h5,Bool.not_false] at q5
    rw [decide_eq_false h4,Bool.not_false] at q4
    clear h4 h5
    go_wp2_with (at_builtin;go_loud (refine wpList_app _ rfl _ _ 86 rfl w.heap.size 130 i0 (.agg #[.int .u8 0,.string ⟨#[]⟩,.int .i64 0]) 3 32 Tryz.underlying86 HI0.out.1 HI0.out.2.1 HI0.out.2.2.1 HI0.out.2.2.2 rfl (by decide) (.slice A m c) m _ rfl (obl HOW.out (blb _ _)) (some ⟨W.heap.size,0,none⟩) 1 1 [.int .u8 t.kind,.string t.text,.int .i64 t.pos] rfl rfl (cnu W rfl [.int .u8 t.kind,.string t.text,.int .i64 t.pos] _) (fun u hu=>by simp at hu;rcases hu with rfl | rfl | rfl<;>rfl) (by unfold maxLen;omega) (by omega) (by have:=HBW.out.size;simp;omega) ?_;intro v' w9 hown' hgrow hat;obtain ⟨A9,c9,rfl,hc9,hqq⟩:=ofb hown';have HM:=kp (And.intro hown' ((Fr.of_grown hgrow).toBelow (bls HBW.out HBW.out.size (blb W _)) (by have:=HBW.out.size;simp;omega) fun g hg=>obg HOW.out g hg.symm));clear hqq hc9 hown' hgrow hat))
    have HZ:=kp (show SolI ts w (k+1) (m+1) (.slice A9 (m+1) c9) w9 from by
     refine ⟨?_,?_,HM.out.2⟩
     ·rw [HFT.out,if_pos HS.out]
      have e:tkCs ((ts.take k).filter solB++[t])=tkCs ((ts.take k).filter solB)++[.int .u8 t.kind,.string t.text,.int .i64 t.pos]:=by unfold tkCs;rw [List.flatMap_append];simp [Tok.cs]
      rw [e];exact HM.out.1
     ·rw [HFT.out,if_pos HS.out,List.length_append,← HR.out.m];rfl)
    exact ⟨⟨k+1,m+1,A9,c9,by omega,by go_num,rfl,HZ⟩,by simp [intOf];omega⟩
  ·obtain rfl:k=ts.length:=by omega
   have HZ:=kp (show solP ts w (.returned (.slice A m c)) wr from by
    obtain ⟨h1,h2,h3⟩:=HR.out
    rw [List.take_length] at h1 h2
    subst h2
    exact ⟨A,c,rfl,h1,h3⟩)
   clear hk hin
   go_wp2_with fail
   go_ret
   exact HZ.out
def envI:Nat→ByteArray→Option Nat
 | 0=>fun _=>none
 | i+1=>setU (envI i) (symS (8+i)) (some (8+i))
structure StI (w:World) (g0:Nat) (PB MB:Nat) (A:Option Addr) (toks:List Tok) (cap:Nat) (en:Int) (i:Nat) (wr:World):Prop where
 ps:PsO wr ⟨PB,A,toks,cap,en,0,MB,i,envI i⟩ 0
 b:Below w.heap.size w wr
 sy:SymW wr
 a:∀ b o,A=some ⟨b,o,none⟩→b<MB
 mb:w.heap.size≤MB
 pb:MB<PB
 g:g0<w.heap.size
theorem TksAt.fr2 {w w':World} {PB:Nat} {A:Option Addr} {l:List Tok} (h:TksAt w PB A l) {m:Nat→Prop} (hf:Fr w w' m) (ha:∀ b o,A=some ⟨b,o,none⟩→¬ m b):TksAt w' PB A l:=fun k t hk=>by
 obtain ⟨b,o,e,hn,h0,h1,h2⟩:=h k t hk
 have:=ha b o e
 exact ⟨b,o,e,hn,hf.cell h0 this,hf.cell h1 this,hf.cell h2 this⟩
theorem StI.next {w wr w9:World} {PB MB cap i:Nat} {A:Option Addr} {toks:List Tok} {en:Int} (h:StI w 0 PB MB A toks cap en i wr) (hm:MapU w9 MB (i+1) (setU (envI i) (symS (8+i)) (some (8+i)))) (ht:wr.drew.mapTurned w9 MB):StI w 0 PB MB A toks cap en (i+1) w9:=by
 have hf:Fr wr w9 (fun k=>k=MB):=(Fr.of_below (bld (Below.refl wr.heap.size wr)) _).trans (Fr.of_turned ht) fun _ _ e=>e
 have h1:=h.mb
 have h2:=h.pb
 have h3:=h.g
 refine ⟨⟨h.ps.b.fr hf fun e=>by have e':PB=MB:=e;omega,h.ps.t.fr2 hf fun b o e e2=>by have e':b=MB:=e2;have:=h.a b o e;omega,hm,by show MB≠PB;omega,h.ps.le,h.ps.len,h.ps.tx⟩,hf.toBelow h.b h.b.size fun k e=>by have e':k=MB:=e;omega,h.sy.fr hf fun e=>by have e':0=MB:=e;omega,h.a,h1,h2,h3⟩
def StrP (ts:List Tok) (en:Int) (w:World) (e:Ending) (w':World):Prop:=∃ PB MB A cap,e=.returned (.pointer (some ⟨PB,0,none⟩))∧PsO w' ⟨PB,A,ts,cap,en,0,MB,16,envI 16⟩ 0∧w.heap.size≤PB∧Below w.heap.size w w'
theorem symS_le:∀ j,j<43→(symS j).size≤2:=by decide +kernel
theorem run_mkU (W:World):(Instr.makeMap 87 none).run Tryz.prog W=.ok (.map (some W.heap.size)) (W.alloc (.map #[] 0)):=by kernel_rfl
theorem start_parsed {s:ByteArray} {ts:List Tok} {ps:Nat→Nat} (h:LexS s ts ps) (hk:∀ t∈ts,t.text.size≤100000∧t.kind<256) {w:World} (hs:SymW w):Calls Tryz.prog 44 #[.string s] w (StrP (ts.filter solB) s.size w):=by
 have HX:=kp (lex_any h w)
 have hlen:ts.length≤65536:=by have:=ps_le h _ (Nat.le_refl _);have:=h.l;omega
 have HSO:=kp (fun (V:World) (A:Option Addr) (c:Nat) (hV:CellsAt V A (tkCs ts))=>solid_any (c0:=c) hV hlen)
 have HSY:=kp hs
 have HTX:=kp (fun (t:Tok) (ht:t∈ts.filter solB)=>hk t (List.mem_filter.1 ht).1)
 have hlf:(ts.filter solB).length≤65536:=Nat.le_trans (List.length_filter_le _ _) hlen
 have hgl:0<w.heap.size:=by
  have:=block_lt_of_cell (hs 0 ⟨#[]⟩ rfl)
  exact this
 have hmk:=run_mkU
 clear h hk hs
 go_enter Tryz.func44,Tryz.ntmps44
 go_wp2_with fail
 refine HX.out.mono ?_
 rintro e W1 ⟨A1,c1,rfl,ho1,hb1⟩
 obtain ⟨A1',c1',e1,hc1⟩:=cells_of_own ho1
 injection e1 with q1 q2 q3
 subst q1 q3
 have HB1:=kp hb1
 have HS1:=kp (HSO.out W1 A1 c1 hc1)
 clear ho1 hb1 hc1
 go_wp2_with fail
 refine HS1.out.mono ?_
 rintro e W2 ⟨A2,c2,rfl,ho2,hb2⟩
 have HB2:=kp (bls HB1.out HB1.out.size hb2)
 have HO2:=kp ho2
 clear ho2 hb2
 go_upto_region 3 with fail
 generalize ts.filter solB=toks at *
 have HI:=kp (show StI w 0 (W2.heap.size+1) W2.heap.size A2 toks c2 s.size 0 ((W2.alloc (.map #[] 0)).alloc (Obj.cells #[.slice A2 toks.length c2,.int .i64 0,.int .i64 s.size,.map (some W2.heap.size),.int .i64 0,.int .i64 0] 89)) from by
  have hw2:=HB2.out.size
  have hba:=two_box W2 (.map #[] 0) (Obj.cells #[.slice A2 toks.length c2,.int .i64 0,.int .i64 s.size,.map (some W2.heap.size),.int .i64 0,.int .i64 0] 89)
  have hgl2:∀ g,(Value.slice A2 toks.length c2).ownBlock=some g→g<W2.heap.size:=fun g hg=>(HO2.out.lt g hg).2
  have ha:∀ b o,A2=some ⟨b,o,none⟩→b<W2.heap.size:=fun b o e=>hgl2 b (by rw [e];rfl)
  refine ⟨⟨?_,?_,?_,by show W2.heap.size≠W2.heap.size+1;omega,Nat.zero_le _,by show toks.length≤100000;omega,HTX.out⟩,bls HB2.out hw2 hba,HSY.out.below (bls HB2.out hw2 hba),ha,hw2,Nat.lt_succ_self _,hgl⟩
  ·have:=bxn (W2.alloc (.map #[] 0)) #[.slice A2 toks.length c2,.int .i64 0,.int .i64 s.size,.map (some W2.heap.size),.int .i64 0,.int .i64 0] 89
   rwa [World.size_alloc] at this
  ·exact tks_own HO2.out (fun g hg e=>by have:=hgl2 g hg;have e':g=W2.heap.size+1:=e;omega) fun g hg=>hba.block g (hgl2 g hg)
  ·exact (mapU_made W2).fr (Fr.of_below (blb _ _) fun _=>False) id)
 generalize (W2.alloc _).alloc _=W3 at HI ⊢
 generalize W2.heap.size+1=PB at HI ⊢
 generalize W2.heap.size=MB at HI ⊢
 go_wp2_with fail
 refine (operators_any W3).mono ?_
 rintro e W4 ⟨A4,c4,rfl,ho4,hb4⟩
 have HI4:=kp (show StI w 0 PB MB A2 toks c2 s.size 0 W4 from ⟨HI.out.ps.below hb4,bls HI.out.b HI.out.b.size hb4,HI.out.sy.below hb4,HI.out.a,HI.out.mb,HI.out.pb,HI.out.g⟩)
 have HO4:=kp ho4
 have HL4:=kp (show MB<W3.heap.size from HI.out.ps.m.lt)
 clear ho4 hb4
 go_upto_region 4 with fail
 go_loopw [26] (fun o wr=>∃ i:Nat,i≤16∧o=.int .i64 i∧Hid (StI w 0 PB MB A2 toks c2 s.size i wr∧wr.ownsRow W3.heap.size 5 1 (.slice A4 16 c4) 16 (opsL 16))) (fun o _=>16 - (intOf o).toNat)
 case atStart=>exact ⟨0,by omega,rfl,kp ⟨HI4.out,HO4.out⟩⟩
 case round=>
  obtain ⟨i,hi,rfl,HR⟩:=hrel
  by_cases hin:i<16
  ·obtain ⟨A4',c4',e4,hc4⟩:=cells_of_own HR.out.2
   injection e4 with q1 q2 q3
   subst q1 q3
   obtain ⟨b,o,rfl,hcell⟩:=hc4 i (.int .u8 ((8+i:Nat):Int)) (by unfold opsL;rw [List.getElem?_map,List.getElem?_range hin];rfl)
   have hlb:=block_lt_of_cell hcell
   have r0:(0:Int)≤i:=by omega
   have r1:(i:Int)<16:=by omega
   have HC:=kp (fun (V:World) (hV:SymW V)=>symbol_any hV (show 8+i<43 by omega))
   obtain ⟨w9,hput,hm9,ht9⟩:=mapU_put Tryz.underlying87 (HR.out.1.ps.m.fr (Fr.of_below (bld (Below.refl wr.heap.size wr)) fun _=>False) id) (by show i<maxLen;unfold maxLen;omega) (symS (8+i)) (by have:=symS_le (8+i) (by omega);unfold maxLen;omega) (8+i) (by omega)
   have HN:=kp (show StI w 0 PB MB A2 toks c2 s.size (i+1) w9∧w9.ownsRow W3.heap.size 5 1 (.slice (some ⟨b,o,none⟩) 16 c4) 16 (opsL 16) from ⟨HR.out.1.next hm9 ht9,((Fr.of_below (bld (Below.refl wr.heap.size wr)) (fun k=>k=MB)).trans (Fr.of_turned ht9) fun _ _ e=>e).own HR.out.2 fun g hg e=>by have e':g=MB:=e;have:=obg HR.out.2 g hg;have:=HL4.out;omega⟩)
   have HCW:=kp (HC.out wr.drew (HR.out.1.sy.below (bld (Below.refl _ _))))
   obtain ⟨_,_,_,a3,_,_⟩:=HR.out.1.ps.b.six1
   have hla:=HR.out.1.ps.b.lt
   clear hm9 ht9 hc4
   generalize ((8+i:Nat):Int)=z at hcell hput HCW
   generalize symS (8+i)=y at hput HCW
   go_upto_region 6 with fail
   go_region_law (first
    | (go_simp;go_at_call 70;(with_reducible refine Calls.mono HCW.out ?_);rintro e w8 ⟨rfl,rfl⟩;dsimp only)
    | fail)
   all_goals
    go_simp
    go_wp2_with fail
    exact ⟨⟨i+1,by omega,by go_num,HN⟩,by simp [intOf];omega⟩
  ·obtain rfl:i=16:=by omega
   have HZ:=kp (show StrP toks s.size w (.returned (.pointer (some ⟨PB,0,none⟩))) wr from ⟨PB,MB,A2,c2,rfl,HR.out.1.ps,Nat.le_trans HR.out.1.mb (Nat.le_of_lt HR.out.1.pb),HR.out.1.b⟩)
   clear hi hin
   go_wp2_with fail
   go_ret
   exact HZ.out
def PgD (w:World) (lo hi:Nat) (Av Am:Option Addr) (P:Pg):Prop:=∀ Y:World,(∀ j,lo≤j→j<hi→Y.heap[j]?=w.heap[j]?)→PgAt Y Av none Am P
theorem PgD.move {w w':World} {lo hi:Nat} {Av Am:Option Addr} {P:Pg} (h:PgD w lo hi Av Am P) (hk:∀ k,lo≤k→k<hi→w'.heap[k]?=w.heap[k]?):PgD w' lo hi Av Am P:=fun Y hY=>h Y fun k h1 h2=>(hY k h1 h2).trans (hk k h1 h2)
theorem PgD.wide {w:World} {lo hi lo' hi':Nat} {Av Am:Option Addr} {P:Pg} (h:PgD w lo hi Av Am P) (h1:lo'≤lo) (h2:hi≤hi'):PgD w lo' hi' Av Am P:=fun Y hY=>h Y fun k h3 h4=>hY k (Nat.le_trans h1 h3) (Nat.lt_of_lt_of_le h4 h2)
theorem PgD.at_ {w:World} {lo hi:Nat} {Av Am:Option Addr} {P:Pg} (h:PgD w lo hi Av Am P):PgAt w Av none Am P:=h w fun _ _ _=>rfl
def PrP (P:Pg) (w:World) (e:Ending) (w':World):Prop:=∃ Av cv Am cm,e=.returned (.tuple #[.agg (pgC P Av none Am cv 0 cm),.int .i64 0,.int .i64 0])∧PgD w' w.heap.size w'.heap.size Av Am P∧SlOk Av P.vars.length cv∧Below w.heap.size w w'
def PaP (P:Pg) (w:World) (e:Ending) (w':World):Prop:=∃ Av cv Am cm,e=.returned (.agg (pgC P Av none Am cv 0 cm))∧PgD w' w.heap.size w'.heap.size Av Am P∧SlOk Av P.vars.length cv∧Below w.heap.size w w'
theorem pg_fin {w V3 WF:World} {lo hi RB:Nat} {Av Am:Option Addr} {P:Pg} (hB:Below w.heap.size w V3) (hD:PgD V3 lo hi Av Am P) (hf:Fr V3 WF (fun k=>k=RB)) (h1:w.heap.size≤RB) (h2:RB<lo) (h3:hi≤V3.heap.size):PgD WF w.heap.size WF.heap.size Av Am P∧Below w.heap.size w WF:=
 ⟨(hD.move fun k q1 q2=>hf.block k (by omega) fun e=>by have e':k=RB:=e;omega).wide (by omega) (Nat.le_trans h3 hf.size),hf.toBelow hB hB.size fun k e=>by have e':k=RB:=e;omega⟩
theorem pProgram_any {s:ByteArray} {ts:List Tok} {ps:Nat→Nat} {P:Pg} (h:LexS s ts ps) (hk:∀ t∈ts,t.text.size≤100000∧t.kind<256) (hC:∀ (p:Ps) (w:World),p.toks=ts.filter solB→p.env=envI 16→PsO w p 0→Calls Tryz.prog 45 #[.pointer (some ⟨p.PB,0,none⟩)] w (PgP p P p.toks.length w)) {w:World} (hs:SymW w) :
  Calls Tryz.prog 21 #[.string s] w (PrP P w):=by
 have HB:=kp (blb w (Obj.cells pg0 28))
 have HR:=kp (bxn w pg0 28)
 have hzw:(w.alloc (Obj.cells pg0 28)).heap.size=w.heap.size+1:=by simp
 have HST:=kp (start_parsed h hk (hs.below HB.out))
 have HC:=kp hC
 generalize ts.filter solB=toks at HST HC
 have hss:(s.size:Int)=s.size:=rfl
 clear h hk hC hs
 go_enter Tryz.func21,Tryz.ntmps21
 go_upto_region 1 with fail
 generalize w.alloc _=V at HB HR HST hzw ⊢
 have HV:=kp hzw
 clear hzw hss
 go_wp2_with fail
 refine HST.out.mono ?_
 rintro e V1 ⟨PB,MB,A,cap,rfl,hps,hpb,hb1⟩
 have HP1:=kp hps
 have HB1:=kp (bls HB.out HB.out.size hb1)
 have HR1:=kp (HR.out.below hb1)
 have HS1:=kp (And.intro hpb hb1.size)
 have HC1:=kp (show Calls Tryz.prog 45 #[.pointer (some ⟨PB,0,none⟩)] V1 (PgP ⟨PB,A,toks,cap,s.size,0,MB,16,envI 16⟩ P toks.length V1) from HC.out ⟨PB,A,toks,cap,s.size,0,MB,16,envI 16⟩ V1 rfl rfl hps)
 clear hps hpb hb1
 go_wp2_with fail
 refine HC1.out.mono ?_
 rintro e V2 ⟨Av,cv,Am,cm,rfl,hD,hS,hp2,hf2⟩
 have HD2:=kp (show PgD V2 V1.heap.size V2.heap.size Av Am P from hD)
 have HSL:=kp hS
 have HP2:=kp hp2
 have HB2:=kp (show Below w.heap.size w V2 from hf2.toBelow HB1.out HB1.out.size fun k e=>by have e':k=PB:=e;have:=HS1.out.1;have:=HV.out;omega)
 have HR2:=kp (show Bx V2 w.heap.size pg0 from HR1.out.fr hf2 fun e=>by have e':w.heap.size=PB:=e;have:=HS1.out.1;have:=HV.out;omega)
 have HF2:=kp hf2.size
 clear hD hS hp2 hf2
 go_upto_region 3 with fail
 have HB3:=kp (blb V2 (Obj.cells (pgC P Av none Am cv 0 cm) 28))
 have HN3:=kp (bxn V2 (pgC P Av none Am cv 0 cm) 28)
 generalize V2.alloc _=V3 at HB3 HN3 ⊢
 have HB4:=kp (bls HB2.out HB2.out.size HB3.out)
 have HFI:=kp (finish_ok (HP2.out.below HB3.out))
 go_wp2_with fail
 refine HFI.out.mono ?_
 rintro e V4 ⟨rfl,hb4⟩
 have HB5:=kp (bls HB4.out HB4.out.size hb4)
 have HN4:=kp (HN3.out.below hb4)
 have HR4:=kp ((HR2.out.below HB3.out).below hb4)
 have HD4:=kp (HD2.out.move (w':=V4) fun k _ h2=>(hb4.block k (Nat.lt_of_lt_of_le h2 HB3.out.size)).trans (HB3.out.block k h2))
 have HS4:=kp (Nat.le_trans HB3.out.size hb4.size)
 have hP4:=(HP2.out.below HB3.out).below hb4
 obtain ⟨a0,a1,a2,a3,a4,a5⟩:=hP4.b.six1
 have hla:=hP4.b.lt
 clear hb4 hP4 a0 a1 a2 a3 a4
 obtain ⟨n0,n1,n2,n3,n4,n5⟩:=HN4.out.six1
 have hln:=HN4.out.lt
 obtain ⟨⟨r0,r1,r2,r3,r4,r5⟩,f0,f1,f2,f3,f4,f5⟩:=HR4.out.six
 have hlr:=HR4.out.lt
 have HQ:=kp (HR4.out.set6 (.slice Av P.vars.length cv) (.slice none P.procs.length 0) (.int .u8 P.main.kind) (.int .i64 P.main.num) (.string P.main.name) (.slice Am P.main.kids.length cm))
 have HFF:=kp (Fr.set6 V4 w.heap.size (.slice Av P.vars.length cv) (.slice none P.procs.length 0) (.int .u8 P.main.kind) (.int .i64 P.main.num) (.string P.main.name) (.slice Am P.main.kids.length cm))
 have HZ:=kp (fun (WF:World) (hf:Fr V4 WF (fun k=>k=w.heap.size))=>pg_fin HB5.out HD4.out hf (Nat.le_refl _) (by have:=HS1.out.2;have:=HV.out;omega) HS4.out)
 go_wp2_with fail
 generalize World.setCell _ _ _=WF at HQ HFF ⊢
 obtain ⟨q0,q1,q2,q3,q4,q5⟩:=HQ.out.six1
 have HZ2:=HZ.out WF HFF.out
 exact bodyPost_ret (v:=.tuple #[.agg (pgC P Av none Am cv 0 cm),.int .i64 0,.int .i64 0]) (by simp [results,Tryz.results21,go_sem,q0,q1,q2,q3,q4,q5]) rfl ⟨Av,cv,Am,cm,rfl,HZ2.1,HSL.out,HZ2.2⟩
theorem parsed_any {s:ByteArray} {P:Pg} {w:World} (hC:∀ V,Below w.heap.size w V→Calls Tryz.prog 21 #[.string s] V (PrP P V)) :
  Calls Tryz.prog 10 #[.string s] w (PaP P w):=by
 have HB:=kp (blb w (Obj.cells pg0 28))
 have HR:=kp (bxn w pg0 28)
 have hzw:(w.alloc (Obj.cells pg0 28)).heap.size=w.heap.size+1:=by simp
 have HC:=kp (hC _ HB.out)
 clear hC
 go_enter Tryz.func10,Tryz.ntmps10
 go_upto_region 1 with fail
 generalize w.alloc _=V at HB HR HC hzw ⊢
 have HV:=kp hzw
 clear hzw
 go_wp2_with fail
 refine HC.out.mono ?_
 rintro e V2 ⟨Av,cv,Am,cm,rfl,hD,hS,hb⟩
 have HB2:=kp (bls HB.out HB.out.size hb)
 have HR2:=kp (HR.out.below hb)
 have HD2:=kp hD
 have HSL:=kp hS
 clear hD hS hb
 go_upto_region 2 with fail
 have HB3:=kp (blb V2 (Obj.cells (pgC P Av none Am cv 0 cm) 28))
 have HN3:=kp (bxn V2 (pgC P Av none Am cv 0 cm) 28)
 generalize V2.alloc _=V3 at HB3 HN3 ⊢
 have HB4:=kp (bls HB2.out HB2.out.size HB3.out)
 have HR4:=kp (HR2.out.below HB3.out)
 have HD4:=kp (HD2.out.move (w':=V3) fun k _ h2=>HB3.out.block k h2)
 obtain ⟨n0,n1,n2,n3,n4,n5⟩:=HN3.out.six1
 have hln:=HN3.out.lt
 obtain ⟨⟨r0,r1,r2,r3,r4,r5⟩,f0,f1,f2,f3,f4,f5⟩:=HR4.out.six
 have hlr:=HR4.out.lt
 have HQ:=kp (HR4.out.set6 (.slice Av P.vars.length cv) (.slice none P.procs.length 0) (.int .u8 P.main.kind) (.int .i64 P.main.num) (.string P.main.name) (.slice Am P.main.kids.length cm))
 have HFF:=kp (Fr.set6 V3 w.heap.size (.slice Av P.vars.length cv) (.slice none P.procs.length 0) (.int .u8 P.main.kind) (.int .i64 P.main.num) (.string P.main.name) (.slice Am P.main.kids.length cm))
 have HZ:=kp (fun (WF:World) (hf:Fr V3 WF (fun k=>k=w.heap.size))=>pg_fin HB4.out HD4.out hf (Nat.le_refl _) (by have:=HV.out;omega) HB3.out.size)
 go_wp2_with fail
 generalize World.setCell _ _ _=WF at HQ HFF ⊢
 obtain ⟨q0,q1,q2,q3,q4,q5⟩:=HQ.out.six1
 have HZ2:=HZ.out WF HFF.out
 exact bodyPost_ret (v:=.agg (pgC P Av none Am cv 0 cm)) (by simp [results,Tryz.results10,go_sem,q0,q1,q2,q3,q4,q5]) rfl ⟨Av,cv,Am,cm,rfl,HZ2.1,HSL.out,HZ2.2⟩
def awS:ByteArray:=⟨#[105,110,116,32,120,10,109,97,105,110,32,123,10,120,32,43,61,32,51,59,10,125,10]⟩
def awPs:List Nat:=[0,3,4,5,6,10,11,12,13,14,15,17,18,19,20,21,22,23]
def awP (i:Nat):Nat:=awPs.getD i 23
def awK:List Nat:=[1,4,1,4,1,4,3,4,1,4,3,4,2,3,4,3,4]
def awT:List Tok:=(List.range 17).map fun i=>⟨awK.getD i 0,awS.extract (awP i) (awP (i+1)),awP i⟩
def lexB (s:ByteArray) (ts:List Tok) (ps:Nat→Nat) (i:Nat):Bool:=
 match ts[i]? with
 | none=>true
 | some t=>decide (firstR (s.extract (ps i) s.size)=(t.kind,((ps (i+1) - ps i:Nat):Int)))&&decide (1≤ps (i+1) - ps i)&&decide (ps (i+1)=ps i+(ps (i+1) - ps i))&&decide (ps (i+1)≤s.size)&&decide (t.text=s.extract (ps i) (ps (i+1)))&&decide (t.pos=((ps i:Nat):Int))
theorem lex_ok {s:ByteArray} {ts:List Tok} {ps:Nat→Nat} (hz:ps 0=0) (he:ps ts.length=s.size) (hl:s.size≤65536) (h:(List.range ts.length).all (lexB s ts ps)=true):LexS s ts ps where
 z:=hz
 st:=fun i t ht=>by
  have:=List.all_eq_true.1 h i (List.mem_range.2 (List.getElem?_eq_some_iff.1 ht).1)
  unfold lexB at this
  rw [ht] at this
  simp only [Bool.and_eq_true,decide_eq_true_eq] at this
  obtain ⟨⟨⟨⟨⟨h1,h2⟩,h3⟩,h4⟩,h5⟩,h6⟩:=this
  exact ⟨_,h1,h2,h3,h4,h5,h6⟩
 e:=he
 l:=hl
theorem awLex:LexS awS awT awP:=lex_ok rfl rfl (by decide) (by decide +kernel)
theorem awTx:∀ t∈awT,t.text.size≤100000∧t.kind<256:=by decide +kernel
def awF:List Tok:=[⟨1,⟨#[105,110,116]⟩,0⟩,⟨1,⟨#[120]⟩,4⟩,⟨1,⟨#[109,97,105,110]⟩,6⟩,⟨3,⟨#[123]⟩,11⟩,⟨1,⟨#[120]⟩,13⟩,⟨3,⟨#[43,61]⟩,15⟩,⟨2,⟨#[51]⟩,18⟩,⟨3,⟨#[59]⟩,19⟩,⟨3,⟨#[125]⟩,21⟩]
theorem awFil:awT.filter solB=awF:=by kernel_rfl
def awM:Nd:=.mk 57 0 ⟨#[]⟩ [.mk 40 0 ⟨#[]⟩ [varNd ⟨#[120]⟩,numNd 3]]
def awPg:Pg:=⟨[⟨⟨#[120]⟩,1,0⟩],[],awM⟩
theorem env_semi:envI 16 ⟨#[59]⟩=none:=by decide +kernel
theorem awProg (p:Ps) (w:World) (ht:p.toks=awF) (he:p.env=envI 16) (h:PsO w p 0):Calls Tryz.prog 45 #[.pointer (some ⟨p.PB,0,none⟩)] w (PgP p awPg p.toks.length w):=by
 have hl:p.toks.length=9:=by rw [ht];rfl
 have t0:(tkA p.toks 0).text=⟨#[105,110,116]⟩:=by rw [ht];rfl
 have t1:(tkA p.toks (0+1)).text=⟨#[120]⟩:=by rw [ht];rfl
 have t2:(tkA p.toks 2).text=⟨#[109,97,105,110]⟩:=by rw [ht];rfl
 have t3:(tkA p.toks 3).text=⟨#[123]⟩:=by rw [ht];rfl
 have t4:(tkA p.toks 4).text=⟨#[120]⟩:=by rw [ht];rfl
 have t5:(tkA p.toks 5).text=⟨#[43,61]⟩:=by rw [ht];rfl
 have t6:(tkA p.toks 6).text=⟨#[51]⟩:=by rw [ht];rfl
 have k6:(tkA p.toks 6).kind=2:=by rw [ht];rfl
 have t7:(tkA p.toks 7).text=⟨#[59]⟩:=by rw [ht];rfl
 have t8:(tkA p.toks 8).text=⟨#[125]⟩:=by rw [ht];rfl
 have hx:lnmB ⟨#[120]⟩=true:=by decide +kernel
 have cd:DcC 74 p ⟨⟨#[120]⟩,1,0⟩ 0 2:=t1▸decl_int t0 (by rw [t1];exact hx)
 have cp:NdC 181 [] p (varNd ⟨#[120]⟩) 4 5:=t4▸place_var (k:=4) (by rw [t4];exact hx) (by rw [t5];decide)
 have cn:NdC 208 [] p (numNd 3) 6 7:=prim_num k6 (by rw [t6];decide) (by rw [t6];decide +kernel) (by decide) (by decide)
 have cu:NdC 199 [] p (numNd 3) 6 7:=unary_prim (by omega) (by rw [t6];decide) (by rw [t6];decide) cn
 have ce:NdC 183 [.int .i64 1] p (numNd 3) 6 7:=expr_stop (by omega) cu (by rw [t7];decide) (by rw [he,t7];exact env_semi)
 have cup:NdC 167 [] p (.mk 40 0 ⟨#[]⟩ [varNd ⟨#[120]⟩,numNd 3]) 4 7:=update_plus (by omega) cp t5 ce
 have cst:NdC 143 [] p (.mk 40 0 ⟨#[]⟩ [varNd ⟨#[120]⟩,numNd 3]) 4 7:=stmt_upd (by omega) (by rw [t4];decide +kernel) cup
 have cb:NdC 109 [] p awM 3 9:=block_parsed (ks:=fun i=>if i=0 then 4 else 8) (es:=fun _=>7) ⟨t3,rfl,fun i x hi=>by
  match i,hi with
  | 0,hi=>cases hi;exact ⟨cst,by show (tkA p.toks 4).text≠_;rw [t4];decide,t7,rfl,by decide⟩
  | i+1,hi=>simp at hi,t8,by decide⟩
 have cbo:NdC 77 [] p awM 3 9:=body_parsed (by decide) (by decide) (by omega) cb
 rw [hl]
 exact program_parsed (vs:=[⟨⟨#[120]⟩,1,0⟩]) (x:=awM) (ks:=fun i=>if i=0 then 0 else 2) ⟨rfl,fun i v hi=>by
  match i,hi with
  | 0,hi=>cases hi;exact ⟨cd,by show dclB (tkA p.toks 0).text=true;rw [t0];decide +kernel,by decide⟩
  | i+1,hi=>simp at hi,by show dclB (tkA p.toks 2).text=false;rw [t2];decide +kernel,by decide⟩ (by omega) t2 cbo h
theorem awParsed {w:World} (hs:SymW w):Calls Tryz.prog 10 #[.string awS] w (PaP awPg w):=
 parsed_any fun _ hV=>pProgram_any awLex awTx (fun p w ht he hp=>awProg p w (ht.trans awFil) he hp) (hs.below hV)
end Go.Proofs.YtgbomnibedefoaaGreatDoor
