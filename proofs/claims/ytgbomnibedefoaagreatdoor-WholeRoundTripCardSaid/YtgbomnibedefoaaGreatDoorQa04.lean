import Derived.Lib.Bytealg
import Derived.Test.YtgbomnibedefoaaGreatDoorQa02
set_option maxRecDepth 100000
set_option maxHeartbeats 8000000
namespace Go.Proofs.YtgbomnibedefoaaGreatDoor
open Go.ChangeShapes Go.WideShapes Go.ChangeAt Go.RowKit Go.Sort
def letB (c:Nat):Bool:=decide (97≤c)&&decide (c≤122)
def digB (c:Nat):Bool:=decide (48≤c)&&decide (c≤57)
def blkB (c:Nat):Bool:=decide (c=32)||decide (c=9)||decide (c=13)||decide (c=10)
def wrdB (c:Nat):Bool:=letB c||digB c
def nlB (c:Nat):Bool:=!decide (c=10)
def EntF (f:Nat):Prop:=∀ (args:Array Value) (w:World),(callFunc f args).run Tryz.prog w=.ok (.enter f args) w
def ClsC (f:Nat) (p:Nat→Bool):Prop:=∀ (c:Nat) (w:World),Calls Tryz.prog f #[.int .u8 c] w fun e w'=>e=.returned (.bool (p c))∧w=w'
theorem letter_any:ClsC 111 letB:=fun c w=>by
 by_cases h1:(97:Int)≤c
 ·by_cases h2:(c:Int)≤122
  ·go_enter Tryz.func111,Tryz.ntmps111
   go_wp2_with fail
   go_ret
   exact ⟨ret_bool (by unfold letB;rw [decide_eq_true (by omega:97≤c),decide_eq_true (by omega:c≤122)];rfl),rfl⟩
  ·go_enter Tryz.func111,Tryz.ntmps111
   go_wp2_with fail
   go_ret
   exact ⟨ret_bool (by unfold letB;rw [decide_eq_false (by omega:¬ c≤122),Bool.and_false]),rfl⟩
 ·go_enter Tryz.func111,Tryz.ntmps111
  go_wp2_with fail
  go_ret
  exact ⟨ret_bool (by unfold letB;rw [decide_eq_false (by omega:¬ 97≤c),Bool.false_and]),rfl⟩
theorem digit_any:ClsC 114 digB:=fun c w=>by
 by_cases h1:(48:Int)≤c
 ·by_cases h2:(c:Int)≤57
  ·go_enter Tryz.func114,Tryz.ntmps114
   go_wp2_with fail
   go_ret
   exact ⟨ret_bool (by unfold digB;rw [decide_eq_true (by omega:48≤c),decide_eq_true (by omega:c≤57)];rfl),rfl⟩
  ·go_enter Tryz.func114,Tryz.ntmps114
   go_wp2_with fail
   go_ret
   exact ⟨ret_bool (by unfold digB;rw [decide_eq_false (by omega:¬ c≤57),Bool.and_false]),rfl⟩
 ·go_enter Tryz.func114,Tryz.ntmps114
  go_wp2_with fail
  go_ret
  exact ⟨ret_bool (by unfold digB;rw [decide_eq_false (by omega:¬ 48≤c),Bool.false_and]),rfl⟩
theorem blank_any:ClsC 115 blkB:=fun c w=>by
 have e1:((c:Int) == 32)=decide (c=32):=beqD c 32
 have e2:((c:Int) == 9)=decide (c=9):=beqD c 9
 have e3:((c:Int) == 13)=decide (c=13):=beqD c 13
 have e4:((c:Int) == 10)=decide (c=10):=beqD c 10
 have HE:=kp (show blkB c=(decide (c=32)||decide (c=9)||decide (c=13)||decide (c=10)) from rfl)
 generalize decide (c=32)=b1 at *
 generalize decide (c=9)=b2 at *
 generalize decide (c=13)=b3 at *
 generalize decide (c=10)=b4 at *
 cases b1<;>cases b2<;>cases b3<;>cases b4 <;>
 ·go_enter Tryz.func115,Tryz.ntmps115
  go_wp2_with fail
  go_ret
  exact ⟨ret_bool HE.out.symm,rfl⟩
theorem first1_any:ClsC 113 wrdB:=fun c w=>by
 have HL:=kp (letter_any c w)
 have HD:=kp (digit_any c w)
 have HE:=kp (show wrdB c=(letB c||digB c) from rfl)
 generalize letB c=b1 at *
 generalize digB c=b2 at *
 cases b1
 ·go_enter Tryz.func113,Tryz.ntmps113
  go_wp2_with fail
  refine HL.out.mono ?_
  rintro e w' ⟨rfl,rfl⟩
  go_wp2_with fail
  refine HD.out.mono ?_
  rintro e w' ⟨rfl,rfl⟩
  go_wp2_with fail
  go_ret
  exact ⟨ret_bool (by rw [HE.out];cases b2<;>rfl),rfl⟩
 ·go_enter Tryz.func113,Tryz.ntmps113
  go_wp2_with fail
  refine HL.out.mono ?_
  rintro e w' ⟨rfl,rfl⟩
  go_wp2_with fail
  go_ret
  exact ⟨ret_bool (by rw [HE.out];rfl),rfl⟩
theorem first2_any:ClsC 116 nlB:=fun c w=>by
 have e4:((c:Int) != 10)=!decide (c=10):=by rw [bne,show ((c:Int) == 10)=decide (c=10) from beqD c 10]
 have HE:=kp (show nlB c=!decide (c=10) from rfl)
 generalize decide (c=10)=b4 at *
 go_enter Tryz.func116,Tryz.ntmps116
 go_wp2_with fail
 go_ret
 exact ⟨ret_bool HE.out.symm,rfl⟩
def spanN (p:Nat→Bool):List UInt8→Nat
 | []=>0
 | c::r=>if p c.toNat then spanN p r+1 else 0
theorem spanN_drop (p:Nat→Bool) {l:List UInt8} {k:Nat} (h:k<l.length):spanN p (l.drop k)=if p (l[k].toNat) then spanN p (l.drop (k+1))+1 else 0:=by
 rw [List.drop_eq_getElem_cons h,spanN]
theorem bsz (s:ByteArray):s.data.toList.length=s.size:=by rw [Array.length_toList];rfl
theorem bget {s:ByteArray} {k:Nat} (_h:k<s.size) (h':k<s.data.toList.length):s.data.toList[k]=s[k]:=by
 rw [Array.getElem_toList];rfl
theorem span_any {f:Nat} {p:Nat→Bool} (hen:EntF f) (hp:ClsC f p) (s:ByteArray) (w:World) (hs:s.size≤9223372036854775807) :
  Calls Tryz.prog 112 #[.string s,.func (.func f) #[] #[]] w fun e w'=>e=.returned (.int .i64 (spanN p s.data.toList))∧w=w':=by
 have HP:=kp hp
 clear hp
 have hen:∀ (args:Array Value) (w:World),(callFunc f args).run Tryz.prog w=.ok (.enter f args) w:=hen
 go_enter Tryz.func112,Tryz.ntmps112
 go_wp2_with fail
 go_loopw [8] (fun i wr=>∃ k:Nat,k≤s.size∧i=.int .i64 k∧w=wr∧Hid (spanN p s.data.toList=k+spanN p (s.data.toList.drop k))) (fun i _=>s.size - (intOf i).toNat)
 case atStart=>exact ⟨0,by omega,rfl,rfl,kp (by simp)⟩
 case round=>
  obtain ⟨k,hk,rfl,rfl,HS⟩:=hrel
  by_cases hin:k<s.size
  ·have hl:k<s.data.toList.length:=by rw [bsz];exact hin
   have HD:=kp (spanN_drop p hl)
   rw [bget hin hl] at HD
   have r0:(0:Int)≤k:=by omega
   have r1:(k:Int)<s.size:=by omega
   have HC:=kp (HP.out (s[k].toNat) w)
   cases hb:p (s[k].toNat) with
   | true=>
     rw [hb] at HC HD
     have HN:=kp (show spanN p s.data.toList=(k+1)+spanN p (s.data.toList.drop (k+1)) by rw [HS.out,HD.out,if_pos rfl];omega)
     clear hb
     go_wp2_with fail
     refine HC.out.mono ?_
     rintro e w' ⟨rfl,rfl⟩
     go_wp2_with fail
     exact ⟨⟨k+1,by omega,by go_num,trivial,HN⟩,by simp [intOf];omega⟩
   | false=>
     rw [hb] at HC HD
     have HN:=kp (show spanN p s.data.toList=k by rw [HS.out,HD.out];simp)
     clear hb
     go_wp2_with fail
     refine HC.out.mono ?_
     rintro e w' ⟨rfl,rfl⟩
     go_wp2_with fail
     go_ret
     exact ⟨by rw [HN.out];rfl,rfl⟩
  ·obtain rfl:k=s.size:=by omega
   have HN:=kp (show spanN p s.data.toList=s.size by rw [HS.out,List.drop_of_length_le (by rw [bsz];exact Nat.le_refl _)];rfl)
   go_wp2_with fail
   go_ret
   exact ⟨by rw [HN.out];rfl,rfl⟩
theorem ent_113:EntF 113:=fun _ _=>by kernel_rfl
theorem ent_114:EntF 114:=fun _ _=>by kernel_rfl
theorem ent_115:EntF 115:=fun _ _=>by kernel_rfl
theorem ent_116:EntF 116:=fun _ _=>by kernel_rfl
end Go.Proofs.YtgbomnibedefoaaGreatDoor
