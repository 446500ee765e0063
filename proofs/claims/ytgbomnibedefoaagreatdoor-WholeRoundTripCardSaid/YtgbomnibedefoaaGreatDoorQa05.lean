import Derived.Laws.StandIn
import Derived.Test.YtgbomnibedefoaaGreatDoorQa04
set_option maxRecDepth 100000
set_option maxHeartbeats 8000000
namespace Go.Proofs.YtgbomnibedefoaaGreatDoor
open Go.ChangeShapes Go.WideShapes Go.ChangeAt Go.RowKit Go.Sort
def preB (s t:ByteArray):Bool:=decide (t.size≤s.size)&&((s.extract 0 t.size).toList == t.toList)
theorem hasPre0_any (s t:ByteArray) (w:World) (ht:t.size≤9223372036854775807) :
  Calls Tryz.prog 168 #[.string s,.string t] w fun e w'=>e=.returned (.bool (preB s t))∧w=w':=by
 by_cases h:t.size≤s.size
 ·have r0:(0:Int)≤t.size:=by omega
  have r1:(t.size:Int)≤s.size:=by omega
  go_enter Tryz.func168,Tryz.ntmps168
  go_wp2_with fail
  go_ret
  exact ⟨ret_bool (by unfold preB;rw [decide_eq_true h,Bool.true_and]),rfl⟩
 ·have r1:¬ (t.size:Int)≤s.size:=by omega
  go_enter Tryz.func168,Tryz.ntmps168
  go_wp2_with fail
  go_ret
  exact ⟨ret_bool (by unfold preB;rw [decide_eq_false h,Bool.false_and]),rfl⟩
theorem hasPre_any (s t:ByteArray) (w:World) (ht:t.size≤9223372036854775807) :
  Calls Tryz.prog 146 #[.string s,.string t] w fun e w'=>e=.returned (.bool (preB s t))∧w=w':=by
 have HC:=kp (hasPre0_any s t w ht)
 generalize preB s t=b at *
 go_enter Tryz.func146,Tryz.ntmps146
 go_wp2_with fail
 refine HC.out.mono ?_
 rintro e w' ⟨rfl,rfl⟩
 go_wp2_with fail
 go_ret
 exact ⟨rfl,rfl⟩
def idxB (s:ByteArray) (c:Nat):Int:=Lib.indexByte s.data.toList c.toUInt8
theorem run_idx (s:ByteArray) (c:Nat) (w:World):(callFunc 184 #[.string s,.int .u8 c]).run Tryz.prog w=.ok (.value (.int .i64 (idxB s c))) w:=by
 rw [run_callFunc_indexByte (fn:=Tryz.f184) (by kernel_rfl) (by kernel_rfl) (by kernel_rfl) (by kernel_rfl) (by kernel_rfl),Lib.run_indexByteString]
 rfl
theorem index0_any (s:ByteArray) (c:Nat) (w:World) :
  Calls Tryz.prog 169 #[.string s,.int .u8 c] w fun e w'=>e=.returned (.int .i64 (idxB s c))∧w=w':=by
 have HC:=run_idx s c w
 generalize idxB s c=b at *
 go_enter Tryz.func169,Tryz.ntmps169
 go_wp2_with fail
 go_ret
 exact ⟨rfl,rfl⟩
theorem indexB_any (s:ByteArray) (c:Nat) (w:World) :
  Calls Tryz.prog 147 #[.string s,.int .u8 c] w fun e w'=>e=.returned (.int .i64 (idxB s c))∧w=w':=by
 have HC:=kp (index0_any s c w)
 generalize idxB s c=b at *
 go_enter Tryz.func147,Tryz.ntmps147
 go_wp2_with fail
 refine HC.out.mono ?_
 rintro e w' ⟨rfl,rfl⟩
 go_wp2_with fail
 go_ret
 exact ⟨rfl,rfl⟩
def sgnS:ByteArray:=⟨#[43,45,42,47,37,38,124,94,33,61,60,62,40,41,123,125,91,93,59,44]⟩
def sg2 (l:List UInt8):Bool:=(l == [58,61])||(l == [43,61])||(l == [45,61])||(l == [94,61])||(l == [61,61])||(l == [33,61])||(l == [60,61])||(l == [62,61])||(l == [38,38])||(l == [124,124])
def signR (s:ByteArray):Int:=if preB s ⟨#[60,61,62]⟩=true then 3 else if sg2 (s.extract 0 (min 2 s.size)).toList=true then 2 else if 0≤idxB sgnS (s.data.toList.getD 0 0).toNat then 1 else 0
theorem sign_any (s:ByteArray) (w:World) (hs:s.size≤9223372036854775807) (h1:1≤s.size) :
  Calls Tryz.prog 117 #[.string s] w fun e w'=>e=.returned (.int .i64 (signR s))∧w=w':=by
 have HP:=kp (hasPre_any s ⟨#[60,61,62]⟩ w (by decide))
 have HI:=kp (indexB_any sgnS (s[0].toNat) w)
 have HE:=kp (show signR s=if preB s ⟨#[60,61,62]⟩=true then 3 else if sg2 (s.extract 0 (min 2 s.size)).toList=true then 2 else if (0:Int)≤idxB sgnS (s[0].toNat) then 1 else 0 by
  unfold signR
  rw [show s.data.toList.getD 0 0=s[0] by rw [List.getD_eq_getElem?_getD,List.getElem?_eq_getElem (by rw [bsz];omega),bget (by omega) (by rw [bsz];omega)];rfl])
 have r0:(0:Int)<s.size:=by omega
 cases hp:preB s ⟨#[60,61,62]⟩ with
 | true=>
   rw [hp] at HP HE
   rw [if_pos rfl] at HE
   clear hp
   go_enter Tryz.func117,Tryz.ntmps117
   go_wp2_with fail
   refine HP.out.mono ?_
   rintro e w' ⟨rfl,rfl⟩
   go_wp2_with fail
   go_ret
   exact ⟨by rw [HE.out];rfl,rfl⟩
 | false=>
   rw [hp] at HP HE
   rw [if_neg (by decide)] at HE
   clear hp
   have HF:Hid (∀ l,(s.extract 0 (min 2 s.size)).toList=l→sg2 l=true→signR s=2):=kp fun l e h=>by rw [HE.out,e,if_pos h]
   have HG:Hid (∀ l,(s.extract 0 (min 2 s.size)).toList=l→sg2 l=false→signR s=if (0:Int)≤idxB sgnS (s[0].toNat) then 1 else 0):=kp fun l e h=>by rw [HE.out,e,if_neg (by rw [h];decide)]
   clear HE
   generalize idxB sgnS (s[0].toNat)=j at *
   by_cases h2:2≤s.size
   ·have HM:=kp (show (s.extract 0 (min 2 s.size)).toList=(s.extract 0 2).toList by rw [Nat.min_eq_left h2])
    have r2:(2:Int)≤s.size:=by omega
    cases e0:((s.extract 0 2).toList == [58,61]) with
    | true=>
      have HZ:=kp (HF.out _ HM.out (by unfold sg2;simp only [e0];rfl))
      go_enter Tryz.func117,Tryz.ntmps117
      go_wp2_with fail
      refine HP.out.mono ?_
      rintro e w' ⟨rfl,rfl⟩
      go_wp2_with fail
      go_ret
      exact ⟨by rw [HZ.out];rfl,rfl⟩
    | false=>
      cases e1:((s.extract 0 2).toList == [43,61]) with
      | true=>
        have HZ:=kp (HF.out _ HM.out (by unfold sg2;simp only [e0,e1];rfl))
        go_enter Tryz.func117,Tryz.ntmps117
        go_wp2_with fail
        refine HP.out.mono ?_
        rintro e w' ⟨rfl,rfl⟩
        go_wp2_with fail
        go_ret
        exact ⟨by rw [HZ.out];rfl,rfl⟩
      | false=>
        cases e2:((s.extract 0 2).toList == [45,61]) with
        | true=>
          have HZ:=kp (HF.out _ HM.out (by unfold sg2;simp only [e0,e1,e2];rfl))
          go_enter Tryz.func117,Tryz.ntmps117
          go_wp2_with fail
          refine HP.out.mono ?_
          rintro e w' ⟨rfl,rfl⟩
          go_wp2_with fail
          go_ret
          exact ⟨by rw [HZ.out];rfl,rfl⟩
        | false=>
          cases e3:((s.extract 0 2).toList == [94,61]) with
          | true=>
            have HZ:=kp (HF.out _ HM.out (by unfold sg2;simp only [e0,e1,e2,e3];rfl))
            go_enter Tryz.func117,Tryz.ntmps117
            go_wp2_with fail
            refine HP.out.mono ?_
            rintro e w' ⟨rfl,rfl⟩
            go_wp2_with fail
            go_ret
            exact ⟨by rw [HZ.out];rfl,rfl⟩
          | false=>
            cases e4:((s.extract 0 2).toList == [61,61]) with
            | true=>
              have HZ:=kp (HF.out _ HM.out (by unfold sg2;simp only [e0,e1,e2,e3,e4];rfl))
              go_enter Tryz.func117,Tryz.ntmps117
              go_wp2_with fail
              refine HP.out.mono ?_
              rintro e w' ⟨rfl,rfl⟩
              go_wp2_with fail
              go_ret
              exact ⟨by rw [HZ.out];rfl,rfl⟩
            | false=>
              cases e5:((s.extract 0 2).toList == [33,61]) with
              | true=>
                have HZ:=kp (HF.out _ HM.out (by unfold sg2;simp only [e0,e1,e2,e3,e4,e5];rfl))
                go_enter Tryz.func117,Tryz.ntmps117
                go_wp2_with fail
                refine HP.out.mono ?_
                rintro e w' ⟨rfl,rfl⟩
                go_wp2_with fail
                go_ret
                exact ⟨by rw [HZ.out];rfl,rfl⟩
              | false=>
                cases e6:((s.extract 0 2).toList == [60,61]) with
                | true=>
                  have HZ:=kp (HF.out _ HM.out (by unfold sg2;simp only [e0,e1,e2,e3,e4,e5,e6];rfl))
                  go_enter Tryz.func117,Tryz.ntmps117
                  go_wp2_with fail
                  refine HP.out.mono ?_
                  rintro e w' ⟨rfl,rfl⟩
                  go_wp2_with fail
                  go_ret
                  exact ⟨by rw [HZ.out];rfl,rfl⟩
                | false=>
                  cases e7:((s.extract 0 2).toList == [62,61]) with
                  | true=>
                    have HZ:=kp (HF.out _ HM.out (by unfold sg2;simp only [e0,e1,e2,e3,e4,e5,e6,e7];rfl))
                    go_enter Tryz.func117,Tryz.ntmps117
                    go_wp2_with fail
                    refine HP.out.mono ?_
                    rintro e w' ⟨rfl,rfl⟩
                    go_wp2_with fail
                    go_ret
                    exact ⟨by rw [HZ.out];rfl,rfl⟩
                  | false=>
                    cases e8:((s.extract 0 2).toList == [38,38]) with
                    | true=>
                      have HZ:=kp (HF.out _ HM.out (by unfold sg2;simp only [e0,e1,e2,e3,e4,e5,e6,e7,e8];rfl))
                      go_enter Tryz.func117,Tryz.ntmps117
                      go_wp2_with fail
                      refine HP.out.mono ?_
                      rintro e w' ⟨rfl,rfl⟩
                      go_wp2_with fail
                      go_ret
                      exact ⟨by rw [HZ.out];rfl,rfl⟩
                    | false=>
                      cases e9:((s.extract 0 2).toList == [124,124]) with
                      | true=>
                        have HZ:=kp (HF.out _ HM.out (by unfold sg2;simp only [e0,e1,e2,e3,e4,e5,e6,e7,e8,e9];rfl))
                        go_enter Tryz.func117,Tryz.ntmps117
                        go_wp2_with fail
                        refine HP.out.mono ?_
                        rintro e w' ⟨rfl,rfl⟩
                        go_wp2_with fail
                        go_ret
                        exact ⟨by rw [HZ.out];rfl,rfl⟩
                      | false=>
                        have HZ:=kp (HG.out _ HM.out (by unfold sg2;simp only [e0,e1,e2,e3,e4,e5,e6,e7,e8,e9];rfl))
                        go_enter Tryz.func117,Tryz.ntmps117
                        go_wp2_with fail
                        refine HP.out.mono ?_
                        rintro e w' ⟨rfl,rfl⟩
                        go_wp2_with fail
                        refine HI.out.mono ?_
                        rintro e w' ⟨rfl,rfl⟩
                        by_cases hj:0≤j
                        ·rw [if_pos hj] at HZ
                         go_wp2_with fail
                         go_ret
                         exact ⟨by rw [HZ.out];rfl,rfl⟩
                        ·rw [if_neg hj] at HZ
                         go_wp2_with fail
                         go_ret
                         exact ⟨by rw [HZ.out];rfl,rfl⟩
   ·have HM:=kp (show (s.extract 0 (min 2 s.size)).toList=s.toList by rw [Nat.min_eq_right (by omega),show s.extract 0 s.size=s from by simp])
    have r2:¬ (2:Int)≤s.size:=by omega
    cases e0:(s.toList == [58,61]) with
    | true=>
      have HZ:=kp (HF.out _ HM.out (by unfold sg2;simp only [e0];rfl))
      go_enter Tryz.func117,Tryz.ntmps117
      go_wp2_with fail
      refine HP.out.mono ?_
      rintro e w' ⟨rfl,rfl⟩
      go_wp2_with fail
      go_ret
      exact ⟨by rw [HZ.out];rfl,rfl⟩
    | false=>
      cases e1:(s.toList == [43,61]) with
      | true=>
        have HZ:=kp (HF.out _ HM.out (by unfold sg2;simp only [e0,e1];rfl))
        go_enter Tryz.func117,Tryz.ntmps117
        go_wp2_with fail
        refine HP.out.mono ?_
        rintro e w' ⟨rfl,rfl⟩
        go_wp2_with fail
        go_ret
        exact ⟨by rw [HZ.out];rfl,rfl⟩
      | false=>
        cases e2:(s.toList == [45,61]) with
        | true=>
          have HZ:=kp (HF.out _ HM.out (by unfold sg2;simp only [e0,e1,e2];rfl))
          go_enter Tryz.func117,Tryz.ntmps117
          go_wp2_with fail
          refine HP.out.mono ?_
          rintro e w' ⟨rfl,rfl⟩
          go_wp2_with fail
          go_ret
          exact ⟨by rw [HZ.out];rfl,rfl⟩
        | false=>
          cases e3:(s.toList == [94,61]) with
          | true=>
            have HZ:=kp (HF.out _ HM.out (by unfold sg2;simp only [e0,e1,e2,e3];rfl))
            go_enter Tryz.func117,Tryz.ntmps117
            go_wp2_with fail
            refine HP.out.mono ?_
            rintro e w' ⟨rfl,rfl⟩
            go_wp2_with fail
            go_ret
            exact ⟨by rw [HZ.out];rfl,rfl⟩
          | false=>
            cases e4:(s.toList == [61,61]) with
            | true=>
              have HZ:=kp (HF.out _ HM.out (by unfold sg2;simp only [e0,e1,e2,e3,e4];rfl))
              go_enter Tryz.func117,Tryz.ntmps117
              go_wp2_with fail
              refine HP.out.mono ?_
              rintro e w' ⟨rfl,rfl⟩
              go_wp2_with fail
              go_ret
              exact ⟨by rw [HZ.out];rfl,rfl⟩
            | false=>
              cases e5:(s.toList == [33,61]) with
              | true=>
                have HZ:=kp (HF.out _ HM.out (by unfold sg2;simp only [e0,e1,e2,e3,e4,e5];rfl))
                go_enter Tryz.func117,Tryz.ntmps117
                go_wp2_with fail
                refine HP.out.mono ?_
                rintro e w' ⟨rfl,rfl⟩
                go_wp2_with fail
                go_ret
                exact ⟨by rw [HZ.out];rfl,rfl⟩
              | false=>
                cases e6:(s.toList == [60,61]) with
                | true=>
                  have HZ:=kp (HF.out _ HM.out (by unfold sg2;simp only [e0,e1,e2,e3,e4,e5,e6];rfl))
                  go_enter Tryz.func117,Tryz.ntmps117
                  go_wp2_with fail
                  refine HP.out.mono ?_
                  rintro e w' ⟨rfl,rfl⟩
                  go_wp2_with fail
                  go_ret
                  exact ⟨by rw [HZ.out];rfl,rfl⟩
                | false=>
                  cases e7:(s.toList == [62,61]) with
                  | true=>
                    have HZ:=kp (HF.out _ HM.out (by unfold sg2;simp only [e0,e1,e2,e3,e4,e5,e6,e7];rfl))
                    go_enter Tryz.func117,Tryz.ntmps117
                    go_wp2_with fail
                    refine HP.out.mono ?_
                    rintro e w' ⟨rfl,rfl⟩
                    go_wp2_with fail
                    go_ret
                    exact ⟨by rw [HZ.out];rfl,rfl⟩
                  | false=>
                    cases e8:(s.toList == [38,38]) with
                    | true=>
                      have HZ:=kp (HF.out _ HM.out (by unfold sg2;simp only [e0,e1,e2,e3,e4,e5,e6,e7,e8];rfl))
                      go_enter Tryz.func117,Tryz.ntmps117
                      go_wp2_with fail
                      refine HP.out.mono ?_
                      rintro e w' ⟨rfl,rfl⟩
                      go_wp2_with fail
                      go_ret
                      exact ⟨by rw [HZ.out];rfl,rfl⟩
                    | false=>
                      cases e9:(s.toList == [124,124]) with
                      | true=>
                        have HZ:=kp (HF.out _ HM.out (by unfold sg2;simp only [e0,e1,e2,e3,e4,e5,e6,e7,e8,e9];rfl))
                        go_enter Tryz.func117,Tryz.ntmps117
                        go_wp2_with fail
                        refine HP.out.mono ?_
                        rintro e w' ⟨rfl,rfl⟩
                        go_wp2_with fail
                        go_ret
                        exact ⟨by rw [HZ.out];rfl,rfl⟩
                      | false=>
                        have HZ:=kp (HG.out _ HM.out (by unfold sg2;simp only [e0,e1,e2,e3,e4,e5,e6,e7,e8,e9];rfl))
                        go_enter Tryz.func117,Tryz.ntmps117
                        go_wp2_with fail
                        refine HP.out.mono ?_
                        rintro e w' ⟨rfl,rfl⟩
                        go_wp2_with fail
                        refine HI.out.mono ?_
                        rintro e w' ⟨rfl,rfl⟩
                        by_cases hj:0≤j
                        ·rw [if_pos hj] at HZ
                         go_wp2_with fail
                         go_ret
                         exact ⟨by rw [HZ.out];rfl,rfl⟩
                        ·rw [if_neg hj] at HZ
                         go_wp2_with fail
                         go_ret
                         exact ⟨by rw [HZ.out];rfl,rfl⟩
def hd0 (s:ByteArray):Nat:=(s.data.toList.getD 0 0).toNat
theorem hd0_eq {s:ByteArray} (h:0<s.size):(s[0].toNat)=hd0 s:=by
 unfold hd0
 rw [List.getD_eq_getElem?_getD,List.getElem?_eq_getElem (by rw [bsz];omega),bget h (by rw [bsz];omega)];rfl
def firstR (s:ByteArray):Nat × Int:=
 if letB (hd0 s)=true then (1,spanN wrdB s.data.toList) else if digB (hd0 s)=true then (2,spanN digB s.data.toList) else if blkB (hd0 s)=true then (4,spanN blkB s.data.toList) else if decide (hd0 s=35)=true then (5,spanN nlB s.data.toList) else (3,signR s)
theorem first_any (s:ByteArray) (w:World) (hs:s.size≤9223372036854775807) (h1:1≤s.size) :
  Calls Tryz.prog 80 #[.string s] w fun e w'=>e=.returned (.tuple #[.int .u8 (firstR s).1,.int .i64 (firstR s).2])∧w=w':=by
 have HE:=kp (show firstR s=if letB (hd0 s)=true then (1,(spanN wrdB s.data.toList:Int)) else if digB (hd0 s)=true then (2,(spanN digB s.data.toList:Int)) else if blkB (hd0 s)=true then (4,(spanN blkB s.data.toList:Int)) else if decide (hd0 s=35)=true then (5,(spanN nlB s.data.toList:Int)) else (3,signR s) from rfl)
 have h0:0<s.size:=by omega
 have HL:=kp (letter_any (hd0 s) w)
 have HD:=kp (digit_any (hd0 s) w)
 have HB:=kp (blank_any (hd0 s) w)
 have S1:=kp (span_any ent_113 first1_any s w hs)
 have S2:=kp (span_any ent_114 digit_any s w hs)
 have S3:=kp (span_any ent_115 blank_any s w hs)
 have S4:=kp (span_any ent_116 first2_any s w hs)
 have S5:=kp (sign_any s w hs h1)
 have hc:((hd0 s:Int) == 35)=decide (hd0 s=35):=beqD (hd0 s) 35
 have r0:(0:Int)<s.size:=by omega
 have hg:=hd0_eq h0
 have hg':((s[0].toNat:Nat):Int)=(hd0 s:Nat):=by rw [hg]
 generalize spanN wrdB s.data.toList=n1 at *
 generalize spanN digB s.data.toList=n2 at *
 generalize spanN blkB s.data.toList=n3 at *
 generalize spanN nlB s.data.toList=n4 at *
 generalize signR s=n5 at *
 generalize letB (hd0 s)=b1 at *
 generalize digB (hd0 s)=b2 at *
 generalize blkB (hd0 s)=b3 at *
 generalize decide (hd0 s=35)=b4 at *
 cases b1 with
 | true=>
   rw [if_pos rfl] at HE
   rw [HE.out]
   go_enter Tryz.func80,Tryz.ntmps80
   go_wp2_with fail
   refine HL.out.mono ?_
   rintro e w' ⟨rfl,rfl⟩
   go_wp2_with fail
   refine S1.out.mono ?_
   rintro e w' ⟨rfl,rfl⟩
   go_wp2_with fail
   go_ret2
   exact ⟨rfl,rfl⟩
 | false=>
 rw [if_neg (by decide)] at HE
 cases b2 with
 | true=>
   rw [if_pos rfl] at HE
   rw [HE.out]
   go_enter Tryz.func80,Tryz.ntmps80
   go_wp2_with fail
   refine HL.out.mono ?_
   rintro e w' ⟨rfl,rfl⟩
   go_wp2_with fail
   refine HD.out.mono ?_
   rintro e w' ⟨rfl,rfl⟩
   go_wp2_with fail
   refine S2.out.mono ?_
   rintro e w' ⟨rfl,rfl⟩
   go_wp2_with fail
   go_ret2
   exact ⟨rfl,rfl⟩
 | false=>
 rw [if_neg (by decide)] at HE
 cases b3 with
 | true=>
   rw [if_pos rfl] at HE
   rw [HE.out]
   go_enter Tryz.func80,Tryz.ntmps80
   go_wp2_with fail
   refine HL.out.mono ?_
   rintro e w' ⟨rfl,rfl⟩
   go_wp2_with fail
   refine HD.out.mono ?_
   rintro e w' ⟨rfl,rfl⟩
   go_wp2_with fail
   refine HB.out.mono ?_
   rintro e w' ⟨rfl,rfl⟩
   go_wp2_with fail
   refine S3.out.mono ?_
   rintro e w' ⟨rfl,rfl⟩
   go_wp2_with fail
   go_ret2
   exact ⟨rfl,rfl⟩
 | false=>
 rw [if_neg (by decide)] at HE
 cases b4 with
 | true=>
   rw [if_pos rfl] at HE
   rw [HE.out]
   go_enter Tryz.func80,Tryz.ntmps80
   go_wp2_with fail
   refine HL.out.mono ?_
   rintro e w' ⟨rfl,rfl⟩
   go_wp2_with fail
   refine HD.out.mono ?_
   rintro e w' ⟨rfl,rfl⟩
   go_wp2_with fail
   refine HB.out.mono ?_
   rintro e w' ⟨rfl,rfl⟩
   go_wp2_with fail
   refine S4.out.mono ?_
   rintro e w' ⟨rfl,rfl⟩
   go_wp2_with fail
   go_ret2
   exact ⟨rfl,rfl⟩
 | false=>
   rw [if_neg (by decide)] at HE
   rw [HE.out]
   go_enter Tryz.func80,Tryz.ntmps80
   go_wp2_with fail
   refine HL.out.mono ?_
   rintro e w' ⟨rfl,rfl⟩
   go_wp2_with fail
   refine HD.out.mono ?_
   rintro e w' ⟨rfl,rfl⟩
   go_wp2_with fail
   refine HB.out.mono ?_
   rintro e w' ⟨rfl,rfl⟩
   go_wp2_with fail
   refine S5.out.mono ?_
   rintro e w' ⟨rfl,rfl⟩
   go_wp2_with fail
   go_ret2
   exact ⟨rfl,rfl⟩
def lnmB (s:ByteArray):Bool:=decide (1≤s.size)&&decide (s.size≤16)&&letB (hd0 s)&&decide (spanN wrdB s.data.toList=s.size)&&!kwB s
theorem firstR_1 {s:ByteArray} (h:letB (hd0 s)=true):firstR s=(1,(spanN wrdB s.data.toList:Int)):=by unfold firstR;rw [if_pos h]
theorem firstR_0 {s:ByteArray} (h:letB (hd0 s)=false):(((firstR s).1:Int) == 1)=false:=by
 unfold firstR
 rw [h,if_neg (by decide)]
 split;·rfl
 split;·rfl
 split;·rfl
 rfl
theorem emp_of {s:ByteArray} (h:s.size=0):s=⟨#[]⟩:=by
 obtain ⟨d⟩:=s
 have:d=#[]:=Array.eq_empty_of_size_eq_zero h
 subst this;rfl
theorem nil_false {s:ByteArray} (h:1≤s.size):(s.toList == ([]:List UInt8))=false:=by
 refine beq_eq_false_iff_ne.2 fun e=>?_
 have e2:(s.toList == (⟨#[]⟩:ByteArray).toList)=true:=by rw [e];decide +kernel
 have:=eqS_iff.1 e2
 rw [this] at h
 exact absurd h (by decide)
theorem name_any (s:ByteArray) (w:World) (hs:s.size≤9223372036854775807) :
  Calls Tryz.prog 49 #[.string s] w fun e w'=>e=.returned (.bool (lnmB s))∧Below w.heap.size w w':=by
 by_cases h0:s.size=0
 ·obtain rfl:=emp_of h0
  clear h0 hs
  go_enter Tryz.func49,Tryz.ntmps49
  go_wp2_with fail
  go_ret
  exact ⟨rfl,Below.refl _ _⟩
 have h1:1≤s.size:=by omega
 have hnil:=nil_false h1
 by_cases h16:s.size≤16
 rotate_left
 ·have HE:=kp (show lnmB s=false by unfold lnmB;rw [decide_eq_false h16];simp)
  have r16:(16:Int)<s.size:=by omega
  go_enter Tryz.func49,Tryz.ntmps49
  go_wp2_with fail
  go_ret
  exact ⟨by rw [HE.out];rfl,Below.refl _ _⟩
 have r16:¬ (16:Int)<s.size:=by omega
 have HF:=kp (first_any s w hs h1)
 have HK:=kp (keyword_any s w hs)
 cases hl:letB (hd0 s) with
 | false=>
   have HE:=kp (show lnmB s=false by unfold lnmB;rw [hl];simp)
   have hk:=firstR_0 hl
   clear hl
   generalize (firstR s).1=k at *
   generalize (firstR s).2=n at *
   go_enter Tryz.func49,Tryz.ntmps49
   go_wp2_with fail
   refine HF.out.mono ?_
   rintro e w' ⟨rfl,rfl⟩
   go_wp2_with fail
   go_ret
   exact ⟨by rw [HE.out];rfl,Below.refl _ _⟩
 | true=>
   rw [firstR_1 hl] at HF
   have HE:=kp (show lnmB s=(decide (spanN wrdB s.data.toList=s.size)&&!kwB s) by unfold lnmB;rw [decide_eq_true h1,decide_eq_true h16,hl];simp)
   have hd:((spanN wrdB s.data.toList:Int) == (s.size:Int))=decide (spanN wrdB s.data.toList=s.size):=beqD _ _
   clear hl
   generalize decide (spanN wrdB s.data.toList=s.size)=b at *
   generalize spanN wrdB s.data.toList=n at *
   generalize kwB s=kw at *
   cases b with
   | false=>
     go_enter Tryz.func49,Tryz.ntmps49
     go_wp2_with fail
     refine HF.out.mono ?_
     rintro e w' ⟨rfl,rfl⟩
     go_wp2_with fail
     go_ret
     exact ⟨by rw [HE.out];rfl,Below.refl _ _⟩
   | true=>
     go_enter Tryz.func49,Tryz.ntmps49
     go_wp2_with fail
     refine HF.out.mono ?_
     rintro e w' ⟨rfl,rfl⟩
     go_wp2_with fail
     refine HK.out.mono ?_
     rintro e w' ⟨rfl,hb⟩
     have HB:=kp hb
     clear hb
     go_wp2_with fail
     go_ret
     exact ⟨by rw [HE.out];rfl,HB.out⟩
end Go.Proofs.YtgbomnibedefoaaGreatDoor
namespace Go.Proofs.YtgbomnibedefoaaGreatDoor
open Go.ChangeShapes Go.WideShapes Go.ChangeAt Go.RowKit Go.Sort Go.Maps
structure Tok where
 kind:Nat
 text:ByteArray
 pos:Int
def Tok.val (t:Tok):Value:=.agg #[.int .u8 t.kind,.string t.text,.int .i64 t.pos]
def Tok.cs (t:Tok):List Value:=[.int .u8 t.kind,.string t.text,.int .i64 t.pos]
def tok0:Tok:=⟨0,⟨#[]⟩,0⟩
def tkA (l:List Tok) (k:Nat):Tok:=l[k]?.getD tok0
theorem tkA_lt {l:List Tok} {k:Nat} (h:k<l.length):tkA l k=l[k]:=by unfold tkA;rw [List.getElem?_eq_getElem h];rfl
theorem tkA_ge {l:List Tok} {k:Nat} (h:l.length≤k):tkA l k=tok0:=by unfold tkA;rw [List.getElem?_eq_none h];rfl
def TksAt (w:World) (PB:Nat) (A:Option Addr) (l:List Tok):Prop:=∀ (k:Nat) (t:Tok),l[k]?=some t→∃ b o,A=some ⟨b,o,none⟩∧b≠PB∧w.cell? ⟨b,o+k*3,none⟩=some (.int .u8 t.kind)∧w.cell? ⟨b,o+k*3+1,none⟩=some (.string t.text)∧w.cell? ⟨b,o+k*3+2,none⟩=some (.int .i64 t.pos)
theorem TksAt.fr {w w':World} {PB:Nat} {A:Option Addr} {l:List Tok} (h:TksAt w PB A l) (hf:Fr w w' (fun k=>k=PB)):TksAt w' PB A l:=fun k t hk=>by
 obtain ⟨b,o,e,hn,h0,h1,h2⟩:=h k t hk
 exact ⟨b,o,e,hn,hf.cell h0 hn,hf.cell h1 hn,hf.cell h2 hn⟩
theorem wf_byte {v:Nat} (h:v<256):(Lit.int .u8 (v:Int)).wf=true:=by
 simp only [Lit.wf,IntKind.min,IntKind.max,IntKind.signed,IntKind.bits,Bool.and_eq_true]
 simp;omega
theorem zeroU8 (w:World):(zeroValue 5).run Tryz.prog w=.ok (.int .u8 0) w:=by kernel_rfl
def MapU (w:World) (b n:Nat) (env:ByteArray→Option Nat):Prop:=
 ∃ D:DataW Unit,w.ownsMap Tryz.prog 9 (plainElem Tryz.prog 5) b n D∧∀ s:ByteArray,Maps.has D (klit s)=(env s).isSome∧D.atKey (klit s) (.lit (.int .u8 0))=.lit (.int .u8 ((env s).getD 0:Nat))
def setU (env:ByteArray→Option Nat) (s:ByteArray) (v:Option Nat):ByteArray→Option Nat:=fun t=>if t=s then v else env t
theorem plainElem_u8_inv {e:TypeId} (he:Tryz.prog.underlying e=some (.int .u8)) {v:Value} {z:DataW Unit × List MemPlace} (h:plainElem Tryz.prog e v=some z):∃ x:Int,v=.int .u8 x∧z=(.lit (.int .u8 x),[]):=by
 unfold plainElem at h
 rw [he] at h
 cases v<;>simp at h
 obtain ⟨⟨h1,_⟩,h2⟩:=h
 exact ⟨_,by rw [h1],by rw [← h2]⟩
theorem MapU.lt {w:World} {b n:Nat} {env:ByteArray→Option Nat} (h:MapU w b n env):b<w.heap.size:=by
 obtain ⟨D,h1,_⟩:=h;exact h1.lt
theorem MapU.fr {w w':World} {b n:Nat} {env:ByteArray→Option Nat} (h:MapU w b n env) {m:Nat→Prop} (hf:Fr w w' m) (hn:¬ m b):MapU w' b n env:=by
 have hl:=h.lt
 obtain ⟨D,⟨es,c,h1,h2⟩,h3⟩:=h
 exact ⟨D,⟨es,c,by rw [hf.block b hl hn];exact h1,h2⟩,h3⟩
theorem mapU_made (w:World):MapU (w.alloc (.map #[] 0)) w.heap.size 0 (fun _=>none):=
 ⟨.map [],World.ownsMap_made w _ _ _,fun _=>⟨rfl,rfl⟩⟩
theorem mapU_put {w:World} {b n:Nat} {env:ByteArray→Option Nat} {t:TypeId} (ht:Tryz.prog.underlying t=some (.map 9 5)) (h:MapU w b n env) (hn:n<maxLen) (s:ByteArray) (hs:s.size≤maxLen) (v:Nat) (hv:v<256) :
  ∃ w',(Instr.mapUpdate t (.map (some b)) (.string s) (.int .u8 v)).run Tryz.prog w=.ok () w'∧MapU w' b (n+1) (setU env s (some v))∧w.mapTurned w' b:=by
 obtain ⟨D,h1,h3⟩:=h
 obtain ⟨w',hrun,r1,r2⟩:=h1.store strKeyed ht hn (WideMaps.keyOf_string_mk Tryz.underlying9 hs) (plainElem_int (a:=(v:Int)) Tryz.underlying5 (wf_byte hv))
 refine ⟨w',hrun,⟨_,r1,fun u=>?_⟩,r2⟩
 unfold setU
 by_cases e:u=s
 ·subst e
  rw [if_pos rfl]
  exact ⟨Maps.has_put_same h1.isMap (klit_key u) _,Maps.atKey_put_same h1.isMap (klit_key u) _ _⟩
 ·rw [if_neg e]
  exact ⟨by rw [← (h3 u).1];exact Maps.has_put_other (klit_ne e) _,by rw [← (h3 u).2];exact Maps.atKey_put_other (klit_ne e) _ _⟩
theorem mapU_look {w:World} {b n:Nat} {env:ByteArray→Option Nat} {t:TypeId} (ht:Tryz.prog.underlying t=some (.map 9 5)) (h:MapU w b n env) (s:ByteArray) (hs:s.size≤maxLen) :
  (Instr.lookup t (.map (some b)) (.string s) true).run Tryz.prog w=.ok (.tuple #[.int .u8 ((env s).getD 0:Nat),.bool (env s).isSome]) w:=by
 obtain ⟨D,h1,h3⟩:=h
 obtain ⟨v,ps,hrun,hv⟩:=h1.look_ok strKeyed ht (zeroU8 w) (plainElem_int (a:=0) Tryz.underlying5 (by decide)) (WideMaps.keyOf_string_mk Tryz.underlying9 hs)
 obtain ⟨y,rfl,hy⟩:=plainElem_u8_inv Tryz.underlying5 hv
 have he:=(h3 s).2
 have hh:=(h3 s).1
 unfold klit at he hh
 rw [he] at hy
 rw [hh] at hrun
 have:y=(((env s).getD 0:Nat):Int):=by simpa using (congrArg Prod.fst hy).symm
 subst this
 exact hrun
end Go.Proofs.YtgbomnibedefoaaGreatDoor
