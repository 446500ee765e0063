import Derived.Deep.DeepCutAuto
import Derived.Test.YtgbomnibedefoaaGreatDoorQa05
set_option maxRecDepth 100000
set_option maxHeartbeats 8000000
namespace Go.Proofs.YtgbomnibedefoaaGreatDoor
open Go.ChangeShapes Go.WideShapes Go.ChangeAt Go.RowKit Go.Sort
def NdFn (f:Nat) (b:Bool) (x:Nd):Prop:=∀ (A:Option Addr) (cap:Nat) (w:World),NdsAt w A x.kids→
 Calls Tryz.prog f #[.agg #[.int .u8 x.kind,.int .i64 x.num,.string x.name,.slice A x.kids.length cap]] w fun e w'=>e=.returned (.bool b)∧Below w.heap.size w w'
abbrev ndC (x:Nd) (A:Option Addr) (cap:Nat):Array Value:=#[.int .u8 x.kind,.int .i64 x.num,.string x.name,.slice A x.kids.length cap]
theorem beq0 (n:Int):(n == 0)=decide (n=0):=by
 by_cases h:n=0
 ·subst h;rfl
 ·rw [decide_eq_false h];exact beq_eq_false_iff_ne.2 h
theorem nil_true {s:ByteArray} (h:s.size=0):(s.toList == ([]:List UInt8))=true:=by rw [emp_of h];decide +kernel
theorem nil_eq (s:ByteArray):(s.toList == ([]:List UInt8))=decide (s.size=0):=by
 by_cases h:s.size=0
 ·rw [nil_true h,decide_eq_true h]
 ·rw [nil_false (by omega),decide_eq_false h]
def plainB (x:Nd):Bool:=decide (x.num=0)&&decide (x.name.size=0)
def namedB (x:Nd):Bool:=decide (x.num=0)&&lnmB x.name
theorem plain_any (x:Nd):NdFn 28 (plainB x) x:=fun A cap w _=>by
 have HE:=kp (show plainB x=(decide (x.num=0)&&decide (x.name.size=0)) from rfl)
 have h0:=beq0 x.num
 have h1:=nil_eq x.name
 have HB:=kp (blb w (Obj.cells #[.int .u8 x.kind,.int .i64 x.num,.string x.name,.slice A x.kids.length cap] 26))
 generalize decide (x.num=0)=b0 at *
 generalize decide (x.name.size=0)=b1 at *
 cases b0 <;>
 ·go_enter Tryz.func28,Tryz.ntmps28
  go_wp2_with fail
  go_ret
  exact ⟨by rw [HE.out];rfl,HB.out⟩
theorem named_any (x:Nd) (hs:x.name.size≤9223372036854775807):NdFn 32 (namedB x) x:=fun A cap w _=>by
 have HE:=kp (show namedB x=(decide (x.num=0)&&lnmB x.name) from rfl)
 have h0:=beq0 x.num
 have HB:=kp (blb w (Obj.cells #[.int .u8 x.kind,.int .i64 x.num,.string x.name,.slice A x.kids.length cap] 26))
 have HN:=kp (name_any x.name (w.alloc (Obj.cells #[.int .u8 x.kind,.int .i64 x.num,.string x.name,.slice A x.kids.length cap] 26)) hs)
 clear hs
 generalize decide (x.num=0)=b0 at *
 generalize lnmB x.name=b1 at *
 cases b0
 ·go_enter Tryz.func32,Tryz.ntmps32
  go_wp2_with fail
  go_ret
  exact ⟨by rw [HE.out];rfl,HB.out⟩
 ·go_enter Tryz.func32,Tryz.ntmps32
  go_wp2_with fail
  refine HN.out.mono ?_
  rintro e w' ⟨rfl,hb⟩
  have HB2:=kp (bls HB.out HB.out.size hb)
  clear hb
  go_wp2_with fail
  go_ret
  exact ⟨by rw [HE.out];rfl,HB2.out⟩
def FnsAt (w:World) (A:Option Addr) (fs:List Nat):Prop:=∀ (k:Nat) (f:Nat),fs[k]?=some f→∃ b o,A=some ⟨b,o,none⟩∧w.cell? ⟨b,o+k,none⟩=some (.func (.func f) #[] #[])
theorem FnsAt.mono {w w':World} {A:Option Addr} {l:List Nat} (h:FnsAt w A l) (hb:Below w.heap.size w w'):FnsAt w' A l:=fun k x hk=>by
 obtain ⟨b,o,e,h1⟩:=h k x hk
 exact ⟨b,o,e,blc hb h1⟩
theorem all_take {bs:List Bool} {k:Nat} (h:k<bs.length):(bs.take (k+1)).all id=((bs.take k).all id&&bs[k]):=by
 rw [List.take_succ_eq_append_getElem h,List.all_append];simp
theorem all_false {bs:List Bool} {k:Nat} (h:k<bs.length) (hb:bs[k]=false):bs.all id=false:=by
 rw [List.all_eq_false];exact ⟨bs[k],List.getElem_mem h,by rw [hb];decide⟩
theorem kids_any {x:Nd} (fs:List Nat) (bs:List Bool) (hen:∀ f∈fs,EntF f) (hll:x.kids.length=fs.length→fs.length=bs.length) (hl9:fs.length≤9) (hf:x.kids.length=fs.length→∀ (i f:Nat) (b:Bool) (y:Nd),fs[i]?=some f→bs[i]?=some b→x.kids[i]?=some y→NdFn f b y) (A:Option Addr) (cap:Nat) (At:Option Addr) (ct:Nat) (w:World) (hK:NdsAt w A x.kids) (hT:FnsAt w At fs) :
  Calls Tryz.prog 29 #[.agg #[.int .u8 x.kind,.int .i64 x.num,.string x.name,.slice A x.kids.length cap],.slice At fs.length ct] w fun e w'=>e=.returned (.bool (decide (x.kids.length=fs.length)&&bs.all id))∧Below w.heap.size w w':=by
 have HBX:=kp (blb w (Obj.cells #[.int .u8 x.kind,.int .i64 x.num,.string x.name,.slice A x.kids.length cap] 26))
 have HRX:=kp (bxn w #[.int .u8 x.kind,.int .i64 x.num,.string x.name,.slice A x.kids.length cap] 26)
 have HK:=kp (hK.mono HBX.out)
 have HT:=kp (hT.mono HBX.out)
 have hne:((x.kids.length:Int) != (fs.length:Int))=!decide (x.kids.length=fs.length):=by rw [bne,beqD]
 clear hK hT
 by_cases hl:x.kids.length=fs.length
 rotate_left
 ·rw [decide_eq_false hl] at hne ⊢
  clear hen hll hf
  go_enter Tryz.func29,Tryz.ntmps29
  go_wp2_with fail
  go_ret
  exact ⟨rfl,HBX.out⟩
 ·rw [decide_eq_true hl] at hne ⊢
  have HL:=kp hl
  have HF:=kp (And.intro hen (And.intro (hll hl) hf))
  clear hen hll hf
  rw [hl] at HBX HRX HK HT hne ⊢
  clear hl
  go_enter Tryz.func29,Tryz.ntmps29
  go_upto_region 1 with fail
  generalize w.alloc _=W at HBX HRX HK HT ⊢
  obtain ⟨a0,a1,a2,a3,_⟩:=HRX.out.four
  have hlt:=HRX.out.lt
  go_wp2_with fail
  go_loopw [15] (fun i wr=>∃ k:Nat,k≤fs.length∧i=.int .i64 k∧Hid (Below W.heap.size W wr∧(bs.take k).all id=true)) (fun i _=>fs.length - (intOf i).toNat)
  case atStart=>exact ⟨0,by omega,rfl,kp ⟨Below.refl _ _,rfl⟩⟩
  case round=>
   obtain ⟨k,hk,rfl,HR⟩:=hrel
   have HRW:=kp (HRX.out.below HR.out.1)
   obtain ⟨a0,a1,a2,a3,_⟩:=HRW.out.four
   have hlt:=HRW.out.lt
   by_cases hin:k<fs.length
   ·have hkb:k<bs.length:=by rw [← HF.out.2.1];exact hin
    have hkk:k<x.kids.length:=by rw [HL.out];exact hin
    obtain ⟨b,o,rfl,hcf⟩:=HT.out k fs[k] (List.getElem?_eq_getElem hin)
    have hcf:=blc HR.out.1 hcf
    have hlb:=block_lt_of_cell hcf
    obtain ⟨bk,ok,A',cap',rfl,hbk,k0,k1,k2,k3,hKK⟩:=(HK.out.mono HR.out.1).kid hkk
    have hen:∀ (args:Array Value) (w:World),(callFunc fs[k] args).run Tryz.prog w=.ok (.enter fs[k] args) w:=HF.out.1 fs[k] (List.getElem_mem hin)
    have HC:=kp (HF.out.2.2 HL.out k fs[k] bs[k] x.kids[k] (List.getElem?_eq_getElem hin) (List.getElem?_eq_getElem hkb) (List.getElem?_eq_getElem hkk) A' cap' wr hKK)
    have HA:=kp (all_take hkb)
    have HZ:=kp (fun h=>all_false hkb h)
    have r0:(0:Int)≤k:=by omega
    have r1:(k:Int)<fs.length:=by omega
    clear hKK
    generalize x.kids[k]=y at *
    generalize bs[k]=c at *
    generalize fs[k]=f at *
    clear hkb hkk
    cases c with
    | true=>
      go_wp2_with fail
      refine HC.out.mono ?_
      rintro e w' ⟨rfl,hb⟩
      have HN:=kp (show Below W.heap.size W w'∧(bs.take (k+1)).all id=true from ⟨bls HR.out.1 HR.out.1.size hb,by rw [HA.out,HR.out.2];rfl⟩)
      clear hb
      go_wp2_with fail
      exact ⟨⟨k+1,by omega,by go_num,HN⟩,by simp [intOf];omega⟩
    | false=>
      go_wp2_with fail
      refine HC.out.mono ?_
      rintro e w' ⟨rfl,hb⟩
      have HN:=kp (show bs.all id=false∧Below w.heap.size w w' from ⟨HZ.out trivial,bls HBX.out HBX.out.size (bls HR.out.1 HR.out.1.size hb)⟩)
      clear hb
      go_wp2_with fail
      go_ret
      exact ⟨by rw [HN.out.1];rfl,HN.out.2⟩
   ·obtain rfl:k=fs.length:=by omega
    have HN:=kp (show bs.all id=true∧Below w.heap.size w wr from ⟨by have h:=HR.out.2;rw [HF.out.2.1,List.take_length] at h;exact h,bls HBX.out HBX.out.size HR.out.1⟩)
    go_wp2_with fail
    go_ret
    exact ⟨by rw [HN.out.1];rfl,HN.out.2⟩
theorem every_any {f:Nat} (g:Nd→Bool) (hen:EntF f) (l:List Nd) (hl:l.length≤9223372036854775807) (hf:∀ y∈l,NdFn f (g y) y) (A:Option Addr) (cap:Nat) (w:World) (hK:NdsAt w A l) :
  Calls Tryz.prog 33 #[.slice A l.length cap,.func (.func f) #[] #[]] w fun e w'=>e=.returned (.bool (l.all g))∧Below w.heap.size w w':=by
 have HK:=kp hK
 have HF:=kp hf
 have hen:∀ (args:Array Value) (w:World),(callFunc f args).run Tryz.prog w=.ok (.enter f args) w:=hen
 clear hK hf
 go_enter Tryz.func33,Tryz.ntmps33
 go_wp2_with fail
 go_loopw [9] (fun i wr=>∃ k:Nat,k≤l.length∧i=.int .i64 k∧Hid (Below w.heap.size w wr∧(l.take k).all g=true)) (fun i _=>l.length - (intOf i).toNat)
 case atStart=>exact ⟨0,by omega,rfl,kp ⟨Below.refl _ _,rfl⟩⟩
 case round=>
  obtain ⟨k,hk,rfl,HR⟩:=hrel
  by_cases hin:k<l.length
  ·obtain ⟨bk,ok,A',cap',rfl,hbk,k0,k1,k2,k3,hKK⟩:=(HK.out.mono HR.out.1).kid hin
   have HBX:=kp (blb wr (Obj.cells #[.int .u8 l[k].kind,.int .i64 l[k].num,.string l[k].name,.slice A' l[k].kids.length cap'] 26))
   have HRX:=kp (bxn wr #[.int .u8 l[k].kind,.int .i64 l[k].num,.string l[k].name,.slice A' l[k].kids.length cap'] 26)
   have HC:=kp (HF.out l[k] (List.getElem_mem hin) A' cap' (wr.alloc (Obj.cells #[.int .u8 l[k].kind,.int .i64 l[k].num,.string l[k].name,.slice A' l[k].kids.length cap'] 26)) (hKK.mono HBX.out))
   have HA:=kp (show (l.take (k+1)).all g=((l.take k).all g&&g l[k]) by rw [List.take_succ_eq_append_getElem hin,List.all_append];simp)
   have HZ:=kp (show g l[k]=false→l.all g=false from fun h=>by rw [List.all_eq_false];exact ⟨l[k],List.getElem_mem hin,by rw [h];decide⟩)
   have r0:(0:Int)≤k:=by omega
   have r1:(k:Int)<l.length:=by omega
   clear hKK
   generalize g l[k]=c at *
   generalize l[k]=y at *
   cases c with
   | true=>
     go_upto_region 4 with fail
     generalize wr.alloc _=W at HBX HRX HC ⊢
     obtain ⟨a0,a1,a2,a3,_⟩:=HRX.out.four
     have hlt:=HRX.out.lt
     go_wp2_with fail
     refine HC.out.mono ?_
     rintro e w' ⟨rfl,hb⟩
     have HN:=kp (show Below w.heap.size w w'∧(l.take (k+1)).all g=true from ⟨bls HR.out.1 HR.out.1.size (bls HBX.out HBX.out.size hb),by rw [HA.out,HR.out.2];rfl⟩)
     clear hb a0 a1 a2 a3 hlt
     go_wp2_with fail
     exact ⟨⟨k+1,by omega,by go_num,HN⟩,by simp [intOf];omega⟩
   | false=>
     go_upto_region 4 with fail
     generalize wr.alloc _=W at HBX HRX HC ⊢
     obtain ⟨a0,a1,a2,a3,_⟩:=HRX.out.four
     have hlt:=HRX.out.lt
     go_wp2_with fail
     refine HC.out.mono ?_
     rintro e w' ⟨rfl,hb⟩
     have HN:=kp (show l.all g=false∧Below w.heap.size w w' from ⟨HZ.out trivial,bls HR.out.1 HR.out.1.size (bls HBX.out HBX.out.size hb)⟩)
     clear hb a0 a1 a2 a3 hlt
     go_wp2_with fail
     go_ret
     exact ⟨by rw [HN.out.1];rfl,HN.out.2⟩
  ·obtain rfl:k=l.length:=by omega
   have HN:=kp (show l.all g=true∧Below w.heap.size w wr from ⟨by have h:=HR.out.2;rw [List.take_length] at h;exact h,HR.out.1⟩)
   go_wp2_with fail
   go_ret
   exact ⟨by rw [HN.out.1];rfl,HN.out.2⟩
def isExK (k:Nat) (num:Int) (name:ByteArray) (n:Nat) (bs:List Bool):Bool:=
 if k=1 then decide (0≤num)&&decide (name.size=0)&&decide (n=0)
 else if k=2∨k=4∨k=5 then (decide (num=0)&&lnmB name)&&decide (n=0)
 else if k=3 then (decide (num=0)&&lnmB name)&&(decide (n=1)&&bs.all id)
 else if k=6∨k=7 then (decide (num=0)&&decide (name.size=0))&&(decide (n=1)&&bs.all id)
 else if 8≤k∧k≤23 then (decide (num=0)&&decide (name.size=0))&&(decide (n=2)&&bs.all id)
 else false
mutual
def isExT:Nd→Bool
 | .mk k num name kids=>isExK k num name kids.length (isExTL kids)
def isExTL:List Nd→List Bool
 | []=>[]
 | x::r=>isExT x::isExTL r
end
theorem isExTL_eq:∀ l:List Nd,isExTL l=l.map isExT
 | []=>rfl
 | x::r=>by rw [isExTL,isExTL_eq r];rfl
theorem isExT_eq (x:Nd):isExT x=isExK x.kind x.num x.name x.kids.length (x.kids.map isExT):=by cases x;rw [isExT,isExTL_eq];rfl
theorem fns_one (w:World) (f:Nat) (T:TypeId):FnsAt (w.alloc (Obj.cells #[.func (.func f) #[] #[]] T)) (some ⟨w.heap.size,0,none⟩) [f]:=fun k g hk=>by
 match k,hk with
 | 0,hk=>cases hk;exact ⟨w.heap.size,0,rfl,(bxn w _ T).cell rfl⟩
 | k+1,hk=>simp at hk
theorem fns_two (w:World) (f g:Nat) (T:TypeId):FnsAt (w.alloc (Obj.cells #[.func (.func f) #[] #[],.func (.func g) #[] #[]] T)) (some ⟨w.heap.size,0,none⟩) [f,g]:=fun k h hk=>by
 match k,hk with
 | 0,hk=>cases hk;exact ⟨w.heap.size,0,rfl,(bxn w _ T).cell rfl⟩
 | 1,hk=>cases hk;exact ⟨w.heap.size,0,rfl,(bxn w _ T).cell rfl⟩
 | k+2,hk=>simp at hk
theorem ent_IsExpr:EntF 31:=fun _ _=>by kernel_rfl
def ExIH (x:Nd):Prop:=∀ (i:Nat) (y:Nd),x.kids[i]?=some y→NdFn 31 (isExT y) y
theorem kids_ex1 {x:Nd} (ih:ExIH x) (A:Option Addr) (cap:Nat) (w:World) (hK:NdsAt w A x.kids) (At:Option Addr) (ct:Nat) (hT:FnsAt w At [31]) :
  Calls Tryz.prog 29 #[.agg (ndC x A cap),.slice At 1 ct] w fun e w'=>e=.returned (.bool (decide (x.kids.length=1)&&(x.kids.map isExT).all id))∧Below w.heap.size w w':=
 kids_any [31] (x.kids.map isExT) (fun f hf=>by rw [List.mem_singleton.1 hf];exact ent_IsExpr) (fun h=>by rw [List.length_map];exact h.symm) (by decide) (fun _ i f b y h1 h2 h3=>by
  rw [List.getElem?_map,h3] at h2
  cases h2
  match i,h1 with
  | 0,h1=>cases h1;exact ih 0 y h3
  | i+1,h1=>simp at h1) A cap At ct w hK hT
theorem kids_ex2 {x:Nd} (ih:ExIH x) (A:Option Addr) (cap:Nat) (w:World) (hK:NdsAt w A x.kids) (At:Option Addr) (ct:Nat) (hT:FnsAt w At [31,31]) :
  Calls Tryz.prog 29 #[.agg (ndC x A cap),.slice At 2 ct] w fun e w'=>e=.returned (.bool (decide (x.kids.length=2)&&(x.kids.map isExT).all id))∧Below w.heap.size w w':=
 kids_any [31,31] (x.kids.map isExT) (fun f hf=>by simp at hf;rw [hf];exact ent_IsExpr) (fun h=>by rw [List.length_map];exact h.symm) (by decide) (fun _ i f b y h1 h2 h3=>by
  rw [List.getElem?_map,h3] at h2
  cases h2
  match i,h1 with
  | 0,h1=>cases h1;exact ih 0 y h3
  | 1,h1=>cases h1;exact ih 1 y h3
  | i+2,h1=>simp at h1) A cap At ct w hK hT
theorem isEx_1 {x:Nd} (hk:x.kind=1) (hs:x.name.size≤9223372036854775807) (ih:ExIH x):NdFn 31 (isExT x) x:=fun A cap w hK=>by
 have HE:=kp (show isExT x=(decide (0≤x.num)&&decide (x.name.size=0)&&decide (x.kids.length=0)) by rw [isExT_eq];unfold isExK;rw [if_pos hk])
 have HB:=kp (blb w (Obj.cells (ndC x A cap) 26))
 have HRX:=kp (bxn w (ndC x A cap) 26)
 have HK:=kp (hK.mono HB.out)
 have HS:=kp hs
 have HIH:=kp ih
 have q1:((x.kind:Int) == 1)=true:=by rw [hk];rfl
 clear hK hs ih
 clear hk
 have h2:=nil_eq x.name
 have h3:((x.kids.length:Int) == 0)=decide (x.kids.length=0):=beqD _ 0
 by_cases hn:0≤x.num
 ·rw [decide_eq_true hn,Bool.true_and] at HE
  generalize decide (x.name.size=0)=b1 at *
  generalize decide (x.kids.length=0)=b2 at *
  cases b1 <;>
  ·go_enter Tryz.func31,Tryz.ntmps31
   go_upto_region 1 with fail
   generalize w.alloc _=W at HB HRX HK ⊢
   obtain ⟨a0,a1,a2,a3,_⟩:=HRX.out.four
   have hlt:=HRX.out.lt
   go_wp2_with fail
   go_ret
   exact ⟨by rw [HE.out];rfl,HB.out⟩
 ·rw [decide_eq_false hn,Bool.false_and,Bool.false_and] at HE
  go_enter Tryz.func31,Tryz.ntmps31
  go_upto_region 1 with fail
  generalize w.alloc _=W at HB HRX HK ⊢
  obtain ⟨a0,a1,a2,a3,_⟩:=HRX.out.four
  have hlt:=HRX.out.lt
  go_wp2_with fail
  go_ret
  exact ⟨by rw [HE.out];rfl,HB.out⟩
theorem isEx_2 {x:Nd} (hk:x.kind=2) (hs:x.name.size≤9223372036854775807) (ih:ExIH x):NdFn 31 (isExT x) x:=fun A cap w hK=>by
 have HE:=kp (show isExT x=(namedB x&&decide (x.kids.length=0)) by rw [isExT_eq];unfold isExK;rw [if_neg (by omega),if_pos (by omega)];rfl)
 have HB:=kp (blb w (Obj.cells (ndC x A cap) 26))
 have HRX:=kp (bxn w (ndC x A cap) 26)
 have HK:=kp (hK.mono HB.out)
 have HS:=kp hs
 have HIH:=kp ih
 have q1:((x.kind:Int) == 1)=false:=beqF (b:=1) (by omega)
 have q2:((x.kind:Int) == 2)=true:=by rw [hk];rfl
 clear hK hs ih
 clear hk
 have h3:((x.kids.length:Int) == 0)=decide (x.kids.length=0):=beqD _ 0
 generalize decide (x.kids.length=0)=b2 at *
 go_enter Tryz.func31,Tryz.ntmps31
 go_upto_region 1 with fail
 generalize w.alloc _=W at HB HRX HK ⊢
 obtain ⟨a0,a1,a2,a3,_⟩:=HRX.out.four
 have hlt:=HRX.out.lt
 have HN:=kp (named_any x HS.out A cap W HK.out)
 generalize namedB x=b1 at *
 cases b1 <;>
 ·go_wp2_with fail
  refine HN.out.mono ?_
  rintro e w1 ⟨rfl,hb⟩
  have HB1:=kp (bls HB.out HB.out.size hb)
  obtain ⟨a0,a1,a2,a3,_⟩:=(HRX.out.below hb).four
  have hlt:=(HRX.out.below hb).lt
  clear hb
  go_wp2_with fail
  go_ret
  exact ⟨by rw [HE.out];rfl,HB1.out⟩
theorem isEx_4 {x:Nd} (hk:x.kind=4) (hs:x.name.size≤9223372036854775807) (ih:ExIH x):NdFn 31 (isExT x) x:=fun A cap w hK=>by
 have HE:=kp (show isExT x=(namedB x&&decide (x.kids.length=0)) by rw [isExT_eq];unfold isExK;rw [if_neg (by omega),if_pos (by omega)];rfl)
 have HB:=kp (blb w (Obj.cells (ndC x A cap) 26))
 have HRX:=kp (bxn w (ndC x A cap) 26)
 have HK:=kp (hK.mono HB.out)
 have HS:=kp hs
 have HIH:=kp ih
 have q1:((x.kind:Int) == 1)=false:=beqF (b:=1) (by omega)
 have q2:((x.kind:Int) == 2)=false:=beqF (b:=2) (by omega)
 have q4:((x.kind:Int) == 4)=true:=by rw [hk];rfl
 clear hK hs ih
 clear hk
 have h3:((x.kids.length:Int) == 0)=decide (x.kids.length=0):=beqD _ 0
 generalize decide (x.kids.length=0)=b2 at *
 go_enter Tryz.func31,Tryz.ntmps31
 go_upto_region 1 with fail
 generalize w.alloc _=W at HB HRX HK ⊢
 obtain ⟨a0,a1,a2,a3,_⟩:=HRX.out.four
 have hlt:=HRX.out.lt
 have HN:=kp (named_any x HS.out A cap W HK.out)
 generalize namedB x=b1 at *
 cases b1 <;>
 ·go_wp2_with fail
  refine HN.out.mono ?_
  rintro e w1 ⟨rfl,hb⟩
  have HB1:=kp (bls HB.out HB.out.size hb)
  obtain ⟨a0,a1,a2,a3,_⟩:=(HRX.out.below hb).four
  have hlt:=(HRX.out.below hb).lt
  clear hb
  go_wp2_with fail
  go_ret
  exact ⟨by rw [HE.out];rfl,HB1.out⟩
theorem isEx_5 {x:Nd} (hk:x.kind=5) (hs:x.name.size≤9223372036854775807) (ih:ExIH x):NdFn 31 (isExT x) x:=fun A cap w hK=>by
 have HE:=kp (show isExT x=(namedB x&&decide (x.kids.length=0)) by rw [isExT_eq];unfold isExK;rw [if_neg (by omega),if_pos (by omega)];rfl)
 have HB:=kp (blb w (Obj.cells (ndC x A cap) 26))
 have HRX:=kp (bxn w (ndC x A cap) 26)
 have HK:=kp (hK.mono HB.out)
 have HS:=kp hs
 have HIH:=kp ih
 have q1:((x.kind:Int) == 1)=false:=beqF (b:=1) (by omega)
 have q2:((x.kind:Int) == 2)=false:=beqF (b:=2) (by omega)
 have q4:((x.kind:Int) == 4)=false:=beqF (b:=4) (by omega)
 have q5:((x.kind:Int) == 5)=true:=by rw [hk];rfl
 clear hK hs ih
 clear hk
 have h3:((x.kids.length:Int) == 0)=decide (x.kids.length=0):=beqD _ 0
 generalize decide (x.kids.length=0)=b2 at *
 go_enter Tryz.func31,Tryz.ntmps31
 go_upto_region 1 with fail
 generalize w.alloc _=W at HB HRX HK ⊢
 obtain ⟨a0,a1,a2,a3,_⟩:=HRX.out.four
 have hlt:=HRX.out.lt
 have HN:=kp (named_any x HS.out A cap W HK.out)
 generalize namedB x=b1 at *
 cases b1 <;>
 ·go_wp2_with fail
  refine HN.out.mono ?_
  rintro e w1 ⟨rfl,hb⟩
  have HB1:=kp (bls HB.out HB.out.size hb)
  obtain ⟨a0,a1,a2,a3,_⟩:=(HRX.out.below hb).four
  have hlt:=(HRX.out.below hb).lt
  clear hb
  go_wp2_with fail
  go_ret
  exact ⟨by rw [HE.out];rfl,HB1.out⟩
theorem isEx_3 {x:Nd} (hk:x.kind=3) (hs:x.name.size≤9223372036854775807) (ih:ExIH x):NdFn 31 (isExT x) x:=fun A cap w hK=>by
 have HE:=kp (show isExT x=(namedB x&&(decide (x.kids.length=1)&&(x.kids.map isExT).all id)) by rw [isExT_eq];unfold isExK;rw [if_neg (by omega),if_neg (by omega),if_pos hk];rfl)
 have HB:=kp (blb w (Obj.cells (ndC x A cap) 26))
 have HRX:=kp (bxn w (ndC x A cap) 26)
 have HK:=kp (hK.mono HB.out)
 have HS:=kp hs
 have HIH:=kp ih
 have q1:((x.kind:Int) == 1)=false:=beqF (b:=1) (by omega)
 have q2:((x.kind:Int) == 2)=false:=beqF (b:=2) (by omega)
 have q4:((x.kind:Int) == 4)=false:=beqF (b:=4) (by omega)
 have q5:((x.kind:Int) == 5)=false:=beqF (b:=5) (by omega)
 have q3:((x.kind:Int) == 3)=true:=by rw [hk];rfl
 clear hK hs ih
 clear hk
 go_enter Tryz.func31,Tryz.ntmps31
 go_upto_region 1 with fail
 generalize w.alloc _=W at HB HRX HK ⊢
 obtain ⟨a0,a1,a2,a3,_⟩:=HRX.out.four
 have hlt:=HRX.out.lt
 have HN:=kp (named_any x HS.out A cap W HK.out)
 generalize namedB x=b1 at *
 cases b1
 ·go_wp2_with fail
  refine HN.out.mono ?_
  rintro e w1 ⟨rfl,hb⟩
  have HB1:=kp (bls HB.out HB.out.size hb)
  obtain ⟨a0,a1,a2,a3,_⟩:=(HRX.out.below hb).four
  have hlt:=(HRX.out.below hb).lt
  clear hb
  go_wp2_with fail
  go_ret
  exact ⟨by rw [HE.out];rfl,HB1.out⟩
 ·go_wp2_with fail
  refine HN.out.mono ?_
  rintro e w1 ⟨rfl,hb⟩
  have HB1:=kp (bls HB.out HB.out.size hb)
  obtain ⟨a0,a1,a2,a3,_⟩:=(HRX.out.below hb).four
  have hlt:=(HRX.out.below hb).lt
  have HBS:=kp (blb w1 (Obj.cells #[.func (.func 31) #[] #[]] 47))
  have HKS:=kp (kids_ex1 HIH.out A cap (w1.alloc (Obj.cells #[.func (.func 31) #[] #[]] 47)) ((HK.out.mono hb).mono HBS.out) (some ⟨w1.heap.size,0,none⟩) 1 (fns_one w1 31 47))
  clear hb
  generalize (decide (x.kids.length=1)&&(x.kids.map isExT).all id)=b2 at *
  go_wp2_with fail
  refine HKS.out.mono ?_
  rintro e w2 ⟨rfl,hb⟩
  have HB2:=kp (bls HB1.out HB1.out.size (bls HBS.out HBS.out.size hb))
  clear hb
  go_wp2_with fail
  go_ret
  exact ⟨by rw [HE.out];rfl,HB2.out⟩
theorem isEx_6 {x:Nd} (hk:x.kind=6) (hs:x.name.size≤9223372036854775807) (ih:ExIH x):NdFn 31 (isExT x) x:=fun A cap w hK=>by
 have HE:=kp (show isExT x=(plainB x&&(decide (x.kids.length=1)&&(x.kids.map isExT).all id)) by rw [isExT_eq];unfold isExK;rw [if_neg (by omega),if_neg (by omega),if_neg (by omega),if_pos (by omega)];rfl)
 have HB:=kp (blb w (Obj.cells (ndC x A cap) 26))
 have HRX:=kp (bxn w (ndC x A cap) 26)
 have HK:=kp (hK.mono HB.out)
 have HS:=kp hs
 have HIH:=kp ih
 have q1:((x.kind:Int) == 1)=false:=beqF (b:=1) (by omega)
 have q2:((x.kind:Int) == 2)=false:=beqF (b:=2) (by omega)
 have q4:((x.kind:Int) == 4)=false:=beqF (b:=4) (by omega)
 have q5:((x.kind:Int) == 5)=false:=beqF (b:=5) (by omega)
 have q3:((x.kind:Int) == 3)=false:=beqF (b:=3) (by omega)
 have q6:((x.kind:Int) == 6)=true:=by rw [hk];rfl
 clear hK hs ih
 clear hk
 go_enter Tryz.func31,Tryz.ntmps31
 go_upto_region 1 with fail
 generalize w.alloc _=W at HB HRX HK ⊢
 obtain ⟨a0,a1,a2,a3,_⟩:=HRX.out.four
 have hlt:=HRX.out.lt
 have HN:=kp (plain_any x A cap W HK.out)
 generalize plainB x=b1 at *
 cases b1
 ·go_wp2_with fail
  refine HN.out.mono ?_
  rintro e w1 ⟨rfl,hb⟩
  have HB1:=kp (bls HB.out HB.out.size hb)
  obtain ⟨a0,a1,a2,a3,_⟩:=(HRX.out.below hb).four
  have hlt:=(HRX.out.below hb).lt
  clear hb
  go_wp2_with fail
  go_ret
  exact ⟨by rw [HE.out];rfl,HB1.out⟩
 ·go_wp2_with fail
  refine HN.out.mono ?_
  rintro e w1 ⟨rfl,hb⟩
  have HB1:=kp (bls HB.out HB.out.size hb)
  obtain ⟨a0,a1,a2,a3,_⟩:=(HRX.out.below hb).four
  have hlt:=(HRX.out.below hb).lt
  have HBS:=kp (blb w1 (Obj.cells #[.func (.func 31) #[] #[]] 47))
  have HKS:=kp (kids_ex1 HIH.out A cap (w1.alloc (Obj.cells #[.func (.func 31) #[] #[]] 47)) ((HK.out.mono hb).mono HBS.out) (some ⟨w1.heap.size,0,none⟩) 1 (fns_one w1 31 47))
  clear hb
  generalize (decide (x.kids.length=1)&&(x.kids.map isExT).all id)=b2 at *
  go_wp2_with fail
  refine HKS.out.mono ?_
  rintro e w2 ⟨rfl,hb⟩
  have HB2:=kp (bls HB1.out HB1.out.size (bls HBS.out HBS.out.size hb))
  clear hb
  go_wp2_with fail
  go_ret
  exact ⟨by rw [HE.out];rfl,HB2.out⟩
theorem isEx_7 {x:Nd} (hk:x.kind=7) (hs:x.name.size≤9223372036854775807) (ih:ExIH x):NdFn 31 (isExT x) x:=fun A cap w hK=>by
 have HE:=kp (show isExT x=(plainB x&&(decide (x.kids.length=1)&&(x.kids.map isExT).all id)) by rw [isExT_eq];unfold isExK;rw [if_neg (by omega),if_neg (by omega),if_neg (by omega),if_pos (by omega)];rfl)
 have HB:=kp (blb w (Obj.cells (ndC x A cap) 26))
 have HRX:=kp (bxn w (ndC x A cap) 26)
 have HK:=kp (hK.mono HB.out)
 have HS:=kp hs
 have HIH:=kp ih
 have q1:((x.kind:Int) == 1)=false:=beqF (b:=1) (by omega)
 have q2:((x.kind:Int) == 2)=false:=beqF (b:=2) (by omega)
 have q4:((x.kind:Int) == 4)=false:=beqF (b:=4) (by omega)
 have q5:((x.kind:Int) == 5)=false:=beqF (b:=5) (by omega)
 have q3:((x.kind:Int) == 3)=false:=beqF (b:=3) (by omega)
 have q6:((x.kind:Int) == 6)=false:=beqF (b:=6) (by omega)
 have q7:((x.kind:Int) == 7)=true:=by rw [hk];rfl
 clear hK hs ih
 clear hk
 go_enter Tryz.func31,Tryz.ntmps31
 go_upto_region 1 with fail
 generalize w.alloc _=W at HB HRX HK ⊢
 obtain ⟨a0,a1,a2,a3,_⟩:=HRX.out.four
 have hlt:=HRX.out.lt
 have HN:=kp (plain_any x A cap W HK.out)
 generalize plainB x=b1 at *
 cases b1
 ·go_wp2_with fail
  refine HN.out.mono ?_
  rintro e w1 ⟨rfl,hb⟩
  have HB1:=kp (bls HB.out HB.out.size hb)
  obtain ⟨a0,a1,a2,a3,_⟩:=(HRX.out.below hb).four
  have hlt:=(HRX.out.below hb).lt
  clear hb
  go_wp2_with fail
  go_ret
  exact ⟨by rw [HE.out];rfl,HB1.out⟩
 ·go_wp2_with fail
  refine HN.out.mono ?_
  rintro e w1 ⟨rfl,hb⟩
  have HB1:=kp (bls HB.out HB.out.size hb)
  obtain ⟨a0,a1,a2,a3,_⟩:=(HRX.out.below hb).four
  have hlt:=(HRX.out.below hb).lt
  have HBS:=kp (blb w1 (Obj.cells #[.func (.func 31) #[] #[]] 47))
  have HKS:=kp (kids_ex1 HIH.out A cap (w1.alloc (Obj.cells #[.func (.func 31) #[] #[]] 47)) ((HK.out.mono hb).mono HBS.out) (some ⟨w1.heap.size,0,none⟩) 1 (fns_one w1 31 47))
  clear hb
  generalize (decide (x.kids.length=1)&&(x.kids.map isExT).all id)=b2 at *
  go_wp2_with fail
  refine HKS.out.mono ?_
  rintro e w2 ⟨rfl,hb⟩
  have HB2:=kp (bls HB1.out HB1.out.size (bls HBS.out HBS.out.size hb))
  clear hb
  go_wp2_with fail
  go_ret
  exact ⟨by rw [HE.out];rfl,HB2.out⟩
theorem isEx_8 {x:Nd} (hk:8≤x.kind) (hk2:x.kind≤23) (hs:x.name.size≤9223372036854775807) (ih:ExIH x):NdFn 31 (isExT x) x:=fun A cap w hK=>by
 have HE:=kp (show isExT x=(plainB x&&(decide (x.kids.length=2)&&(x.kids.map isExT).all id)) by rw [isExT_eq];unfold isExK;rw [if_neg (by omega),if_neg (by omega),if_neg (by omega),if_neg (by omega),if_pos (by omega)];rfl)
 have HB:=kp (blb w (Obj.cells (ndC x A cap) 26))
 have HRX:=kp (bxn w (ndC x A cap) 26)
 have HK:=kp (hK.mono HB.out)
 have HS:=kp hs
 have HIH:=kp ih
 have q1:((x.kind:Int) == 1)=false:=beqF (b:=1) (by omega)
 have q2:((x.kind:Int) == 2)=false:=beqF (b:=2) (by omega)
 have q4:((x.kind:Int) == 4)=false:=beqF (b:=4) (by omega)
 have q5:((x.kind:Int) == 5)=false:=beqF (b:=5) (by omega)
 have q3:((x.kind:Int) == 3)=false:=beqF (b:=3) (by omega)
 have q6:((x.kind:Int) == 6)=false:=beqF (b:=6) (by omega)
 have q7:((x.kind:Int) == 7)=false:=beqF (b:=7) (by omega)
 have r8:(8:Int)≤x.kind:=by omega
 have r23:(x.kind:Int)≤23:=by omega
 clear hK hs ih
 clear hk hk2
 go_enter Tryz.func31,Tryz.ntmps31
 go_upto_region 1 with fail
 generalize w.alloc _=W at HB HRX HK ⊢
 obtain ⟨a0,a1,a2,a3,_⟩:=HRX.out.four
 have hlt:=HRX.out.lt
 have HN:=kp (plain_any x A cap W HK.out)
 generalize plainB x=b1 at *
 cases b1
 ·go_wp2_with fail
  refine HN.out.mono ?_
  rintro e w1 ⟨rfl,hb⟩
  have HB1:=kp (bls HB.out HB.out.size hb)
  obtain ⟨a0,a1,a2,a3,_⟩:=(HRX.out.below hb).four
  have hlt:=(HRX.out.below hb).lt
  clear hb
  go_wp2_with fail
  go_ret
  exact ⟨by rw [HE.out];rfl,HB1.out⟩
 ·go_wp2_with fail
  refine HN.out.mono ?_
  rintro e w1 ⟨rfl,hb⟩
  have HB1:=kp (bls HB.out HB.out.size hb)
  obtain ⟨a0,a1,a2,a3,_⟩:=(HRX.out.below hb).four
  have hlt:=(HRX.out.below hb).lt
  have HBS:=kp (blb w1 (Obj.cells #[.func (.func 31) #[] #[],.func (.func 31) #[] #[]] 47))
  have HKS:=kp (kids_ex2 HIH.out A cap (w1.alloc (Obj.cells #[.func (.func 31) #[] #[],.func (.func 31) #[] #[]] 47)) ((HK.out.mono hb).mono HBS.out) (some ⟨w1.heap.size,0,none⟩) 2 (fns_two w1 31 31 47))
  clear hb
  generalize (decide (x.kids.length=2)&&(x.kids.map isExT).all id)=b2 at *
  go_wp2_with fail
  refine HKS.out.mono ?_
  rintro e w2 ⟨rfl,hb⟩
  have HB2:=kp (bls HB1.out HB1.out.size (bls HBS.out HBS.out.size hb))
  clear hb
  go_wp2_with fail
  go_ret
  exact ⟨by rw [HE.out];rfl,HB2.out⟩
theorem isEx_0 {x:Nd} (hk:x.kind=0) (hs:x.name.size≤9223372036854775807) (ih:ExIH x):NdFn 31 (isExT x) x:=fun A cap w hK=>by
 have HE:=kp (show isExT x=false by rw [isExT_eq];unfold isExK;rw [if_neg (by omega),if_neg (by omega),if_neg (by omega),if_neg (by omega),if_neg (by omega)])
 have HB:=kp (blb w (Obj.cells (ndC x A cap) 26))
 have HRX:=kp (bxn w (ndC x A cap) 26)
 have HK:=kp (hK.mono HB.out)
 have HS:=kp hs
 have HIH:=kp ih
 have q1:((x.kind:Int) == 1)=false:=beqF (b:=1) (by omega)
 have q2:((x.kind:Int) == 2)=false:=beqF (b:=2) (by omega)
 have q4:((x.kind:Int) == 4)=false:=beqF (b:=4) (by omega)
 have q5:((x.kind:Int) == 5)=false:=beqF (b:=5) (by omega)
 have q3:((x.kind:Int) == 3)=false:=beqF (b:=3) (by omega)
 have q6:((x.kind:Int) == 6)=false:=beqF (b:=6) (by omega)
 have q7:((x.kind:Int) == 7)=false:=beqF (b:=7) (by omega)
 have r8:¬ (8:Int)≤x.kind:=by omega
 clear hK hs ih
 clear hk
 go_enter Tryz.func31,Tryz.ntmps31
 go_upto_region 1 with fail
 generalize w.alloc _=W at HB HRX HK ⊢
 obtain ⟨a0,a1,a2,a3,_⟩:=HRX.out.four
 have hlt:=HRX.out.lt
 go_wp2_with fail
 go_ret
 exact ⟨by rw [HE.out];rfl,HB.out⟩
theorem isEx_24 {x:Nd} (hk:24≤x.kind) (hs:x.name.size≤9223372036854775807) (ih:ExIH x):NdFn 31 (isExT x) x:=fun A cap w hK=>by
 have HE:=kp (show isExT x=false by rw [isExT_eq];unfold isExK;rw [if_neg (by omega),if_neg (by omega),if_neg (by omega),if_neg (by omega),if_neg (by omega)])
 have HB:=kp (blb w (Obj.cells (ndC x A cap) 26))
 have HRX:=kp (bxn w (ndC x A cap) 26)
 have HK:=kp (hK.mono HB.out)
 have HS:=kp hs
 have HIH:=kp ih
 have q1:((x.kind:Int) == 1)=false:=beqF (b:=1) (by omega)
 have q2:((x.kind:Int) == 2)=false:=beqF (b:=2) (by omega)
 have q4:((x.kind:Int) == 4)=false:=beqF (b:=4) (by omega)
 have q5:((x.kind:Int) == 5)=false:=beqF (b:=5) (by omega)
 have q3:((x.kind:Int) == 3)=false:=beqF (b:=3) (by omega)
 have q6:((x.kind:Int) == 6)=false:=beqF (b:=6) (by omega)
 have q7:((x.kind:Int) == 7)=false:=beqF (b:=7) (by omega)
 have r8:(8:Int)≤x.kind:=by omega
 have r23:¬ (x.kind:Int)≤23:=by omega
 clear hK hs ih
 clear hk
 go_enter Tryz.func31,Tryz.ntmps31
 go_upto_region 1 with fail
 generalize w.alloc _=W at HB HRX HK ⊢
 obtain ⟨a0,a1,a2,a3,_⟩:=HRX.out.four
 have hlt:=HRX.out.lt
 go_wp2_with fail
 go_ret
 exact ⟨by rw [HE.out];rfl,HB.out⟩
theorem isEx_any:∀ (N:Nat) (x:Nd),SizeOf.sizeOf x≤N→NdFit x→NdFn 31 (isExT x) x:=by
 intro N
 induction N with
 | zero=>intro x hx;exfalso;cases x;simp at hx
 | succ N ih=>
   intro x hx hf
   have hs:=hf.facts.2.2.1
   have ih':ExIH x:=fun i y hy=>ih y (by have:=Nd.kid_lt hy;omega) (hf.kid hy)
   have hk:x.kind=0∨x.kind=1∨x.kind=2∨x.kind=3∨x.kind=4∨x.kind=5∨x.kind=6∨x.kind=7∨(8≤x.kind∧x.kind≤23)∨24≤x.kind:=by omega
   rcases hk with h | h | h | h | h | h | h | h | ⟨h,h2⟩ | h
   ·exact isEx_0 h hs ih'
   ·exact isEx_1 h hs ih'
   ·exact isEx_2 h hs ih'
   ·exact isEx_3 h hs ih'
   ·exact isEx_4 h hs ih'
   ·exact isEx_5 h hs ih'
   ·exact isEx_6 h hs ih'
   ·exact isEx_7 h hs ih'
   ·exact isEx_8 h h2 hs ih'
   ·exact isEx_24 h hs ih'
theorem isExpr_any (x:Nd) (hf:NdFit x):NdFn 31 (isExT x) x:=isEx_any _ x (Nat.le_refl _) hf
end Go.Proofs.YtgbomnibedefoaaGreatDoor
