import Derived.Test.YtgbomnibedefoaaGreatDoorQa06
set_option maxRecDepth 100000
set_option maxHeartbeats 8000000
namespace Go.Proofs.YtgbomnibedefoaaGreatDoor
open Go.ChangeShapes Go.WideShapes Go.ChangeAt Go.RowKit Go.Sort
def plcB (x:Nd):Bool:=(decide (x.kind=2)||decide (x.kind=3))&&isExT x
def varB (x:Nd):Bool:=decide (x.kind=2)&&isExT x
theorem ent_IsPlace:EntF 30:=fun _ _=>by kernel_rfl
theorem ent_IsBlock:EntF 16:=fun _ _=>by kernel_rfl
theorem ent_IsStmt:EntF 15:=fun _ _=>by kernel_rfl
theorem ent_isVar:EntF 34:=fun _ _=>by kernel_rfl
theorem fns_new (w:World) (fs:List Nat) (cs:Array Value) (hcs:cs=(fs.map fun f=>Value.func (.func f) #[] #[]).toArray) (T:TypeId):FnsAt (w.alloc (Obj.cells cs T)) (some ⟨w.heap.size,0,none⟩) fs:=fun k f hk=>by
 refine ⟨w.heap.size,0,rfl,?_⟩
 rw [Nat.zero_add]
 refine (bxn w cs T).cell ?_
 rw [hcs,List.getElem?_toArray,List.getElem?_map,hk];rfl
theorem isPlace_any (x:Nd) (hf:NdFit x):NdFn 30 (plcB x) x:=fun A cap w hK=>by
 have HE:=kp (show plcB x=((decide (x.kind=2)||decide (x.kind=3))&&isExT x) from rfl)
 have q2:((x.kind:Int) == 2)=decide (x.kind=2):=beqD x.kind 2
 have q3:((x.kind:Int) == 3)=decide (x.kind=3):=beqD x.kind 3
 have HB:=kp (blb w (Obj.cells (ndC x A cap) 26))
 have HRX:=kp (bxn w (ndC x A cap) 26)
 have HC:=kp (isExpr_any x hf A cap (w.alloc (Obj.cells (ndC x A cap) 26)) (hK.mono HB.out))
 clear hK hf
 generalize decide (x.kind=2)=b2 at *
 generalize decide (x.kind=3)=b3 at *
 generalize isExT x=b at *
 cases b2<;>cases b3 <;>
 ·go_enter Tryz.func30,Tryz.ntmps30
  go_upto_region 1 with fail
  generalize w.alloc _=W at HB HRX HC ⊢
  obtain ⟨a0,a1,a2,a3,_⟩:=HRX.out.four
  have hlt:=HRX.out.lt
  go_wp2_with fail
  first
  | (go_ret
     exact ⟨by rw [HE.out];rfl,HB.out⟩)
  | (refine HC.out.mono ?_
     rintro e w1 ⟨rfl,hb⟩
     have HB1:=kp (bls HB.out HB.out.size hb)
     clear hb
     go_wp2_with fail
     go_ret
     exact ⟨by rw [HE.out];rfl,HB1.out⟩)
theorem isVar_any (x:Nd) (hf:NdFit x):NdFn 34 (varB x) x:=fun A cap w hK=>by
 have HE:=kp (show varB x=(decide (x.kind=2)&&isExT x) from rfl)
 have q2:((x.kind:Int) == 2)=decide (x.kind=2):=beqD x.kind 2
 have HB:=kp (blb w (Obj.cells (ndC x A cap) 26))
 have HRX:=kp (bxn w (ndC x A cap) 26)
 have HC:=kp (isExpr_any x hf A cap (w.alloc (Obj.cells (ndC x A cap) 26)) (hK.mono HB.out))
 clear hK hf
 generalize decide (x.kind=2)=b2 at *
 generalize isExT x=b at *
 cases b2 <;>
 ·go_enter Tryz.func34,Tryz.ntmps34
  go_upto_region 1 with fail
  generalize w.alloc _=W at HB HRX HC ⊢
  obtain ⟨a0,a1,a2,a3,_⟩:=HRX.out.four
  have hlt:=HRX.out.lt
  go_wp2_with fail
  first
  | (go_ret
     exact ⟨by rw [HE.out];rfl,HB.out⟩)
  | (refine HC.out.mono ?_
     rintro e w1 ⟨rfl,hb⟩
     have HB1:=kp (bls HB.out HB.out.size hb)
     clear hb
     go_wp2_with fail
     go_ret
     exact ⟨by rw [HE.out];rfl,HB1.out⟩)
def isStK (x:Nd) (bl:List Bool):Bool:=
 if x.kind=40∨x.kind=41∨x.kind=42∨x.kind=56 then plainB x&&(decide (x.kids.length=2)&&[plcB (kid x 0),isExT (kid x 1)].all id)
 else if x.kind=43 then plainB x&&(decide (x.kids.length=2)&&[plcB (kid x 0),plcB (kid x 1)].all id)
 else if x.kind=44∨x.kind=45 then namedB x&&(decide (x.kids.length=1)&&[plcB (kid x 0)].all id)
 else if x.kind=46∨x.kind=47∨x.kind=48∨x.kind=49 then plainB x&&(decide (x.kids.length=1)&&[plcB (kid x 0)].all id)
 else if x.kind=50∨x.kind=51 then namedB x&&decide (x.kids.length≤8)&&x.kids.all varB
 else if x.kind=52∨x.kind=53 then plainB x&&(decide (x.kids.length=4)&&[isExT (kid x 0),bl.getD 1 false,bl.getD 2 false,isExT (kid x 3)].all id)
 else if x.kind=54 then namedB x&&(decide (x.kids.length=3)&&[isExT (kid x 0),bl.getD 1 false,isExT (kid x 2)].all id)
 else if x.kind=55 then namedB x&&(decide (x.kids.length=1)&&[bl.getD 0 false].all id)
 else false
mutual
def isStT:Nd→Bool
 | .mk k num name kids=>isStK (.mk k num name kids) (isBlTL kids)
def isBlT:Nd→Bool
 | .mk k num name kids=>decide (k=57)&&plainB (.mk k num name kids)&&(isStTL kids).all id
def isBlTL:List Nd→List Bool
 | []=>[]
 | x::r=>isBlT x::isBlTL r
def isStTL:List Nd→List Bool
 | []=>[]
 | x::r=>isStT x::isStTL r
end
theorem isBlTL_eq:∀ l:List Nd,isBlTL l=l.map isBlT
 | []=>rfl
 | x::r=>by rw [isBlTL,isBlTL_eq r];rfl
theorem isStTL_eq:∀ l:List Nd,isStTL l=l.map isStT
 | []=>rfl
 | x::r=>by rw [isStTL,isStTL_eq r];rfl
theorem isStT_eq (x:Nd):isStT x=isStK x (x.kids.map isBlT):=by cases x;rw [isStT,isBlTL_eq];rfl
theorem isBlT_eq (x:Nd):isBlT x=(decide (x.kind=57)&&plainB x&&x.kids.all isStT):=by
 cases x
 rw [isBlT,isStTL_eq,List.all_map];rfl
theorem blD {x y:Nd} {i:Nat} (h:x.kids[i]?=some y):(x.kids.map isBlT).getD i false=isBlT y:=by
 rw [List.getD_eq_getElem?_getD,List.getElem?_map,h];rfl
def BlIH (x:Nd):Prop:=∀ (i:Nat) (y:Nd),x.kids[i]?=some y→NdFn 16 (isBlT y) y
theorem kids_pe {x:Nd} (hf:NdFit x) (A:Option Addr) (cap:Nat) (w:World) (hK:NdsAt w A x.kids) (At:Option Addr) (ct:Nat) (hT:FnsAt w At [30,31]) :
  Calls Tryz.prog 29 #[.agg (ndC x A cap),.slice At 2 ct] w fun e w'=>e=.returned (.bool (decide (x.kids.length=2)&&[plcB (kid x 0),isExT (kid x 1)].all id))∧Below w.heap.size w w':=
 kids_any [30,31] [plcB (kid x 0),isExT (kid x 1)] (List.forall_mem_cons.2 ⟨ent_IsPlace,List.forall_mem_cons.2 ⟨ent_IsExpr,fun _ h=>absurd h List.not_mem_nil⟩⟩) (fun _=>rfl) (by decide) (fun _ i f b y h1 h2 h3=>by
  match i,h1,h2 with
  | 0,h1,h2=>cases h1;cases h2;rw [kid_eq h3];exact isPlace_any y (hf.kid h3)
  | 1,h1,h2=>cases h1;cases h2;rw [kid_eq h3];exact isExpr_any y (hf.kid h3)
  | i+2,h1,h2=>simp at h1) A cap At ct w hK hT
theorem kids_pp {x:Nd} (hf:NdFit x) (A:Option Addr) (cap:Nat) (w:World) (hK:NdsAt w A x.kids) (At:Option Addr) (ct:Nat) (hT:FnsAt w At [30,30]) :
  Calls Tryz.prog 29 #[.agg (ndC x A cap),.slice At 2 ct] w fun e w'=>e=.returned (.bool (decide (x.kids.length=2)&&[plcB (kid x 0),plcB (kid x 1)].all id))∧Below w.heap.size w w':=
 kids_any [30,30] [plcB (kid x 0),plcB (kid x 1)] (List.forall_mem_cons.2 ⟨ent_IsPlace,List.forall_mem_cons.2 ⟨ent_IsPlace,fun _ h=>absurd h List.not_mem_nil⟩⟩) (fun _=>rfl) (by decide) (fun _ i f b y h1 h2 h3=>by
  match i,h1,h2 with
  | 0,h1,h2=>cases h1;cases h2;rw [kid_eq h3];exact isPlace_any y (hf.kid h3)
  | 1,h1,h2=>cases h1;cases h2;rw [kid_eq h3];exact isPlace_any y (hf.kid h3)
  | i+2,h1,h2=>simp at h1) A cap At ct w hK hT
theorem kids_p {x:Nd} (hf:NdFit x) (A:Option Addr) (cap:Nat) (w:World) (hK:NdsAt w A x.kids) (At:Option Addr) (ct:Nat) (hT:FnsAt w At [30]) :
  Calls Tryz.prog 29 #[.agg (ndC x A cap),.slice At 1 ct] w fun e w'=>e=.returned (.bool (decide (x.kids.length=1)&&[plcB (kid x 0)].all id))∧Below w.heap.size w w':=
 kids_any [30] [plcB (kid x 0)] (List.forall_mem_cons.2 ⟨ent_IsPlace,fun _ h=>absurd h List.not_mem_nil⟩) (fun _=>rfl) (by decide) (fun _ i f b y h1 h2 h3=>by
  match i,h1,h2 with
  | 0,h1,h2=>cases h1;cases h2;rw [kid_eq h3];exact isPlace_any y (hf.kid h3)
  | i+1,h1,h2=>simp at h1) A cap At ct w hK hT
theorem kids_ebbe {x:Nd} (hf:NdFit x) (ih:BlIH x) (A:Option Addr) (cap:Nat) (w:World) (hK:NdsAt w A x.kids) (At:Option Addr) (ct:Nat) (hT:FnsAt w At [31,16,16,31]) :
  Calls Tryz.prog 29 #[.agg (ndC x A cap),.slice At 4 ct] w fun e w'=>e=.returned (.bool (decide (x.kids.length=4)&&[isExT (kid x 0),(x.kids.map isBlT).getD 1 false,(x.kids.map isBlT).getD 2 false,isExT (kid x 3)].all id))∧Below w.heap.size w w':=
 kids_any [31,16,16,31] [isExT (kid x 0),(x.kids.map isBlT).getD 1 false,(x.kids.map isBlT).getD 2 false,isExT (kid x 3)] (List.forall_mem_cons.2 ⟨ent_IsExpr,List.forall_mem_cons.2 ⟨ent_IsBlock,List.forall_mem_cons.2 ⟨ent_IsBlock,List.forall_mem_cons.2 ⟨ent_IsExpr,fun _ h=>absurd h List.not_mem_nil⟩⟩⟩⟩) (fun _=>rfl) (by decide) (fun _ i f b y h1 h2 h3=>by
  match i,h1,h2 with
  | 0,h1,h2=>cases h1;cases h2;rw [kid_eq h3];exact isExpr_any y (hf.kid h3)
  | 1,h1,h2=>cases h1;cases h2;rw [blD h3];exact ih 1 y h3
  | 2,h1,h2=>cases h1;cases h2;rw [blD h3];exact ih 2 y h3
  | 3,h1,h2=>cases h1;cases h2;rw [kid_eq h3];exact isExpr_any y (hf.kid h3)
  | i+4,h1,h2=>simp at h1) A cap At ct w hK hT
theorem kids_ebe {x:Nd} (hf:NdFit x) (ih:BlIH x) (A:Option Addr) (cap:Nat) (w:World) (hK:NdsAt w A x.kids) (At:Option Addr) (ct:Nat) (hT:FnsAt w At [31,16,31]) :
  Calls Tryz.prog 29 #[.agg (ndC x A cap),.slice At 3 ct] w fun e w'=>e=.returned (.bool (decide (x.kids.length=3)&&[isExT (kid x 0),(x.kids.map isBlT).getD 1 false,isExT (kid x 2)].all id))∧Below w.heap.size w w':=
 kids_any [31,16,31] [isExT (kid x 0),(x.kids.map isBlT).getD 1 false,isExT (kid x 2)] (List.forall_mem_cons.2 ⟨ent_IsExpr,List.forall_mem_cons.2 ⟨ent_IsBlock,List.forall_mem_cons.2 ⟨ent_IsExpr,fun _ h=>absurd h List.not_mem_nil⟩⟩⟩) (fun _=>rfl) (by decide) (fun _ i f b y h1 h2 h3=>by
  match i,h1,h2 with
  | 0,h1,h2=>cases h1;cases h2;rw [kid_eq h3];exact isExpr_any y (hf.kid h3)
  | 1,h1,h2=>cases h1;cases h2;rw [blD h3];exact ih 1 y h3
  | 2,h1,h2=>cases h1;cases h2;rw [kid_eq h3];exact isExpr_any y (hf.kid h3)
  | i+3,h1,h2=>simp at h1) A cap At ct w hK hT
theorem kids_b {x:Nd} (_hf:NdFit x) (ih:BlIH x) (A:Option Addr) (cap:Nat) (w:World) (hK:NdsAt w A x.kids) (At:Option Addr) (ct:Nat) (hT:FnsAt w At [16]) :
  Calls Tryz.prog 29 #[.agg (ndC x A cap),.slice At 1 ct] w fun e w'=>e=.returned (.bool (decide (x.kids.length=1)&&[(x.kids.map isBlT).getD 0 false].all id))∧Below w.heap.size w w':=
 kids_any [16] [(x.kids.map isBlT).getD 0 false] (List.forall_mem_cons.2 ⟨ent_IsBlock,fun _ h=>absurd h List.not_mem_nil⟩) (fun _=>rfl) (by decide) (fun _ i f b y h1 h2 h3=>by
  match i,h1,h2 with
  | 0,h1,h2=>cases h1;cases h2;rw [blD h3];exact ih 0 y h3
  | i+1,h1,h2=>simp at h1) A cap At ct w hK hT
theorem isSt_40 {x:Nd} (hk:x.kind=40∨x.kind=41∨x.kind=42∨x.kind=56) (hf:NdFit x) (ih:BlIH x):NdFn 15 (isStT x) x:=fun A cap w hK=>by
 have HE:=kp (show isStT x=(plainB x&&(decide (x.kids.length=2)&&[plcB (kid x 0),isExT (kid x 1)].all id)) by rw [isStT_eq];unfold isStK;rw [if_pos (by omega)])
 have HB:=kp (blb w (Obj.cells (ndC x A cap) 26))
 have HRX:=kp (bxn w (ndC x A cap) 26)
 have HK:=kp (hK.mono HB.out)
 have HS:=kp hf
 have HIH:=kp ih
 clear hK hf ih
 rcases hk with h | h | h | h
 all_goals
  first | have q40:((x.kind:Int) == 40)=false:=beqF (b:=40) (by omega) | have q40:((x.kind:Int) == 40)=true:=by rw [h];rfl
  first | have q41:((x.kind:Int) == 41)=false:=beqF (b:=41) (by omega) | have q41:((x.kind:Int) == 41)=true:=by rw [h];rfl
  first | have q42:((x.kind:Int) == 42)=false:=beqF (b:=42) (by omega) | have q42:((x.kind:Int) == 42)=true:=by rw [h];rfl
  first | have q56:((x.kind:Int) == 56)=false:=beqF (b:=56) (by omega) | have q56:((x.kind:Int) == 56)=true:=by rw [h];rfl
  clear h
  go_enter Tryz.func15,Tryz.ntmps15
  go_upto_region 1 with fail
  generalize w.alloc _=W at HB HRX HK ⊢
  obtain ⟨a0,a1,a2,a3,_⟩:=HRX.out.four
  have hlt:=HRX.out.lt
  have HN:=kp (plain_any x A cap W HK.out)
  generalize plainB x=b1 at *
  cases b1
  ·go_wp2_with fail
   refine HN.out.mono ?_
   rintro e w1 ⟨rfl,hb⟩
   have HB1:=kp (bls HB.out HB.out.size hb)
   obtain ⟨a0,a1,a2,a3,_⟩:=(HRX.out.below hb).four
   have hlt:=(HRX.out.below hb).lt
   clear hb
   go_wp2_with fail
   go_ret
   exact ⟨by rw [HE.out];rfl,HB1.out⟩
  ·go_wp2_with fail
   refine HN.out.mono ?_
   rintro e w1 ⟨rfl,hb⟩
   have HB1:=kp (bls HB.out HB.out.size hb)
   obtain ⟨a0,a1,a2,a3,_⟩:=(HRX.out.below hb).four
   have hlt:=(HRX.out.below hb).lt
   have HBS:=kp (blb w1 (Obj.cells #[.func (.func 30) #[] #[],.func (.func 31) #[] #[]] 47))
   have HKS:=kp (kids_pe HS.out A cap (w1.alloc (Obj.cells #[.func (.func 30) #[] #[],.func (.func 31) #[] #[]] 47)) ((HK.out.mono hb).mono HBS.out) (some ⟨w1.heap.size,0,none⟩) 2 (fns_new w1 [30,31] _ rfl _))
   clear hb
   generalize (decide (x.kids.length=2)&&[plcB (kid x 0),isExT (kid x 1)].all id)=b2 at *
   go_wp2_with fail
   refine HKS.out.mono ?_
   rintro e w2 ⟨rfl,hb⟩
   have HB2:=kp (bls HB1.out HB1.out.size (bls HBS.out HBS.out.size hb))
   clear hb
   go_wp2_with fail
   go_ret
   exact ⟨by rw [HE.out];rfl,HB2.out⟩
theorem isSt_43 {x:Nd} (hk:x.kind=43) (hf:NdFit x) (ih:BlIH x):NdFn 15 (isStT x) x:=fun A cap w hK=>by
 have HE:=kp (show isStT x=(plainB x&&(decide (x.kids.length=2)&&[plcB (kid x 0),plcB (kid x 1)].all id)) by rw [isStT_eq];unfold isStK;rw [if_neg (by omega),if_pos (by omega)])
 have HB:=kp (blb w (Obj.cells (ndC x A cap) 26))
 have HRX:=kp (bxn w (ndC x A cap) 26)
 have HK:=kp (hK.mono HB.out)
 have HS:=kp hf
 have HIH:=kp ih
 have q40:((x.kind:Int) == 40)=false:=beqF (b:=40) (by omega)
 have q41:((x.kind:Int) == 41)=false:=beqF (b:=41) (by omega)
 have q42:((x.kind:Int) == 42)=false:=beqF (b:=42) (by omega)
 have q56:((x.kind:Int) == 56)=false:=beqF (b:=56) (by omega)
 have q43:((x.kind:Int) == 43)=true:=by rw [hk];rfl
 clear hK hf ih
 clear hk
 go_enter Tryz.func15,Tryz.ntmps15
 go_upto_region 1 with fail
 generalize w.alloc _=W at HB HRX HK ⊢
 obtain ⟨a0,a1,a2,a3,_⟩:=HRX.out.four
 have hlt:=HRX.out.lt
 have HN:=kp (plain_any x A cap W HK.out)
 generalize plainB x=b1 at *
 cases b1
 ·go_wp2_with fail
  refine HN.out.mono ?_
  rintro e w1 ⟨rfl,hb⟩
  have HB1:=kp (bls HB.out HB.out.size hb)
  obtain ⟨a0,a1,a2,a3,_⟩:=(HRX.out.below hb).four
  have hlt:=(HRX.out.below hb).lt
  clear hb
  go_wp2_with fail
  go_ret
  exact ⟨by rw [HE.out];rfl,HB1.out⟩
 ·go_wp2_with fail
  refine HN.out.mono ?_
  rintro e w1 ⟨rfl,hb⟩
  have HB1:=kp (bls HB.out HB.out.size hb)
  obtain ⟨a0,a1,a2,a3,_⟩:=(HRX.out.below hb).four
  have hlt:=(HRX.out.below hb).lt
  have HBS:=kp (blb w1 (Obj.cells #[.func (.func 30) #[] #[],.func (.func 30) #[] #[]] 47))
  have HKS:=kp (kids_pp HS.out A cap (w1.alloc (Obj.cells #[.func (.func 30) #[] #[],.func (.func 30) #[] #[]] 47)) ((HK.out.mono hb).mono HBS.out) (some ⟨w1.heap.size,0,none⟩) 2 (fns_new w1 [30,30] _ rfl _))
  clear hb
  generalize (decide (x.kids.length=2)&&[plcB (kid x 0),plcB (kid x 1)].all id)=b2 at *
  go_wp2_with fail
  refine HKS.out.mono ?_
  rintro e w2 ⟨rfl,hb⟩
  have HB2:=kp (bls HB1.out HB1.out.size (bls HBS.out HBS.out.size hb))
  clear hb
  go_wp2_with fail
  go_ret
  exact ⟨by rw [HE.out];rfl,HB2.out⟩
theorem isSt_44 {x:Nd} (hk:x.kind=44∨x.kind=45) (hf:NdFit x) (ih:BlIH x):NdFn 15 (isStT x) x:=fun A cap w hK=>by
 have HE:=kp (show isStT x=(namedB x&&(decide (x.kids.length=1)&&[plcB (kid x 0)].all id)) by rw [isStT_eq];unfold isStK;rw [if_neg (by omega),if_neg (by omega),if_pos (by omega)])
 have HB:=kp (blb w (Obj.cells (ndC x A cap) 26))
 have HRX:=kp (bxn w (ndC x A cap) 26)
 have HK:=kp (hK.mono HB.out)
 have HS:=kp hf
 have HIH:=kp ih
 clear hK hf ih
 rcases hk with h | h
 all_goals
  first | have q40:((x.kind:Int) == 40)=false:=beqF (b:=40) (by omega) | have q40:((x.kind:Int) == 40)=true:=by rw [h];rfl
  first | have q41:((x.kind:Int) == 41)=false:=beqF (b:=41) (by omega) | have q41:((x.kind:Int) == 41)=true:=by rw [h];rfl
  first | have q42:((x.kind:Int) == 42)=false:=beqF (b:=42) (by omega) | have q42:((x.kind:Int) == 42)=true:=by rw [h];rfl
  first | have q56:((x.kind:Int) == 56)=false:=beqF (b:=56) (by omega) | have q56:((x.kind:Int) == 56)=true:=by rw [h];rfl
  first | have q43:((x.kind:Int) == 43)=false:=beqF (b:=43) (by omega) | have q43:((x.kind:Int) == 43)=true:=by rw [h];rfl
  first | have q44:((x.kind:Int) == 44)=false:=beqF (b:=44) (by omega) | have q44:((x.kind:Int) == 44)=true:=by rw [h];rfl
  first | have q45:((x.kind:Int) == 45)=false:=beqF (b:=45) (by omega) | have q45:((x.kind:Int) == 45)=true:=by rw [h];rfl
  clear h
  go_enter Tryz.func15,Tryz.ntmps15
  go_upto_region 1 with fail
  generalize w.alloc _=W at HB HRX HK ⊢
  obtain ⟨a0,a1,a2,a3,_⟩:=HRX.out.four
  have hlt:=HRX.out.lt
  have HN:=kp (named_any x HS.out.facts.2.2.1 A cap W HK.out)
  generalize namedB x=b1 at *
  cases b1
  ·go_wp2_with fail
   refine HN.out.mono ?_
   rintro e w1 ⟨rfl,hb⟩
   have HB1:=kp (bls HB.out HB.out.size hb)
   obtain ⟨a0,a1,a2,a3,_⟩:=(HRX.out.below hb).four
   have hlt:=(HRX.out.below hb).lt
   clear hb
   go_wp2_with fail
   go_ret
   exact ⟨by rw [HE.out];rfl,HB1.out⟩
  ·go_wp2_with fail
   refine HN.out.mono ?_
   rintro e w1 ⟨rfl,hb⟩
   have HB1:=kp (bls HB.out HB.out.size hb)
   obtain ⟨a0,a1,a2,a3,_⟩:=(HRX.out.below hb).four
   have hlt:=(HRX.out.below hb).lt
   have HBS:=kp (blb w1 (Obj.cells #[.func (.func 30) #[] #[]] 47))
   have HKS:=kp (kids_p HS.out A cap (w1.alloc (Obj.cells #[.func (.func 30) #[] #[]] 47)) ((HK.out.mono hb).mono HBS.out) (some ⟨w1.heap.size,0,none⟩) 1 (fns_new w1 [30] _ rfl _))
   clear hb
   generalize (decide (x.kids.length=1)&&[plcB (kid x 0)].all id)=b2 at *
   go_wp2_with fail
   refine HKS.out.mono ?_
   rintro e w2 ⟨rfl,hb⟩
   have HB2:=kp (bls HB1.out HB1.out.size (bls HBS.out HBS.out.size hb))
   clear hb
   go_wp2_with fail
   go_ret
   exact ⟨by rw [HE.out];rfl,HB2.out⟩
theorem isSt_46 {x:Nd} (hk:x.kind=46∨x.kind=47∨x.kind=48∨x.kind=49) (hf:NdFit x) (ih:BlIH x):NdFn 15 (isStT x) x:=fun A cap w hK=>by
 have HE:=kp (show isStT x=(plainB x&&(decide (x.kids.length=1)&&[plcB (kid x 0)].all id)) by rw [isStT_eq];unfold isStK;rw [if_neg (by omega),if_neg (by omega),if_neg (by omega),if_pos (by omega)])
 have HB:=kp (blb w (Obj.cells (ndC x A cap) 26))
 have HRX:=kp (bxn w (ndC x A cap) 26)
 have HK:=kp (hK.mono HB.out)
 have HS:=kp hf
 have HIH:=kp ih
 clear hK hf ih
 rcases hk with h | h | h | h
 all_goals
  first | have q40:((x.kind:Int) == 40)=false:=beqF (b:=40) (by omega) | have q40:((x.kind:Int) == 40)=true:=by rw [h];rfl
  first | have q41:((x.kind:Int) == 41)=false:=beqF (b:=41) (by omega) | have q41:((x.kind:Int) == 41)=true:=by rw [h];rfl
  first | have q42:((x.kind:Int) == 42)=false:=beqF (b:=42) (by omega) | have q42:((x.kind:Int) == 42)=true:=by rw [h];rfl
  first | have q56:((x.kind:Int) == 56)=false:=beqF (b:=56) (by omega) | have q56:((x.kind:Int) == 56)=true:=by rw [h];rfl
  first | have q43:((x.kind:Int) == 43)=false:=beqF (b:=43) (by omega) | have q43:((x.kind:Int) == 43)=true:=by rw [h];rfl
  first | have q44:((x.kind:Int) == 44)=false:=beqF (b:=44) (by omega) | have q44:((x.kind:Int) == 44)=true:=by rw [h];rfl
  first | have q45:((x.kind:Int) == 45)=false:=beqF (b:=45) (by omega) | have q45:((x.kind:Int) == 45)=true:=by rw [h];rfl
  first | have q46:((x.kind:Int) == 46)=false:=beqF (b:=46) (by omega) | have q46:((x.kind:Int) == 46)=true:=by rw [h];rfl
  first | have q47:((x.kind:Int) == 47)=false:=beqF (b:=47) (by omega) | have q47:((x.kind:Int) == 47)=true:=by rw [h];rfl
  first | have q48:((x.kind:Int) == 48)=false:=beqF (b:=48) (by omega) | have q48:((x.kind:Int) == 48)=true:=by rw [h];rfl
  first | have q49:((x.kind:Int) == 49)=false:=beqF (b:=49) (by omega) | have q49:((x.kind:Int) == 49)=true:=by rw [h];rfl
  clear h
  go_enter Tryz.func15,Tryz.ntmps15
  go_upto_region 1 with fail
  generalize w.alloc _=W at HB HRX HK ⊢
  obtain ⟨a0,a1,a2,a3,_⟩:=HRX.out.four
  have hlt:=HRX.out.lt
  have HN:=kp (plain_any x A cap W HK.out)
  generalize plainB x=b1 at *
  cases b1
  ·go_wp2_with fail
   refine HN.out.mono ?_
   rintro e w1 ⟨rfl,hb⟩
   have HB1:=kp (bls HB.out HB.out.size hb)
   obtain ⟨a0,a1,a2,a3,_⟩:=(HRX.out.below hb).four
   have hlt:=(HRX.out.below hb).lt
   clear hb
   go_wp2_with fail
   go_ret
   exact ⟨by rw [HE.out];rfl,HB1.out⟩
  ·go_wp2_with fail
   refine HN.out.mono ?_
   rintro e w1 ⟨rfl,hb⟩
   have HB1:=kp (bls HB.out HB.out.size hb)
   obtain ⟨a0,a1,a2,a3,_⟩:=(HRX.out.below hb).four
   have hlt:=(HRX.out.below hb).lt
   have HBS:=kp (blb w1 (Obj.cells #[.func (.func 30) #[] #[]] 47))
   have HKS:=kp (kids_p HS.out A cap (w1.alloc (Obj.cells #[.func (.func 30) #[] #[]] 47)) ((HK.out.mono hb).mono HBS.out) (some ⟨w1.heap.size,0,none⟩) 1 (fns_new w1 [30] _ rfl _))
   clear hb
   generalize (decide (x.kids.length=1)&&[plcB (kid x 0)].all id)=b2 at *
   go_wp2_with fail
   refine HKS.out.mono ?_
   rintro e w2 ⟨rfl,hb⟩
   have HB2:=kp (bls HB1.out HB1.out.size (bls HBS.out HBS.out.size hb))
   clear hb
   go_wp2_with fail
   go_ret
   exact ⟨by rw [HE.out];rfl,HB2.out⟩
theorem isSt_50 {x:Nd} (hk:x.kind=50∨x.kind=51) (hf:NdFit x) (ih:BlIH x):NdFn 15 (isStT x) x:=fun A cap w hK=>by
 have HE:=kp (show isStT x=(namedB x&&decide (x.kids.length≤8)&&x.kids.all varB) by rw [isStT_eq];unfold isStK;rw [if_neg (by omega),if_neg (by omega),if_neg (by omega),if_neg (by omega),if_pos (by omega)])
 have HB:=kp (blb w (Obj.cells (ndC x A cap) 26))
 have HRX:=kp (bxn w (ndC x A cap) 26)
 have HK:=kp (hK.mono HB.out)
 have HS:=kp hf
 have HIH:=kp ih
 clear hK hf ih
 rcases hk with h | h
 all_goals
  first | have q40:((x.kind:Int) == 40)=false:=beqF (b:=40) (by omega) | have q40:((x.kind:Int) == 40)=true:=by rw [h];rfl
  first | have q41:((x.kind:Int) == 41)=false:=beqF (b:=41) (by omega) | have q41:((x.kind:Int) == 41)=true:=by rw [h];rfl
  first | have q42:((x.kind:Int) == 42)=false:=beqF (b:=42) (by omega) | have q42:((x.kind:Int) == 42)=true:=by rw [h];rfl
  first | have q56:((x.kind:Int) == 56)=false:=beqF (b:=56) (by omega) | have q56:((x.kind:Int) == 56)=true:=by rw [h];rfl
  first | have q43:((x.kind:Int) == 43)=false:=beqF (b:=43) (by omega) | have q43:((x.kind:Int) == 43)=true:=by rw [h];rfl
  first | have q44:((x.kind:Int) == 44)=false:=beqF (b:=44) (by omega) | have q44:((x.kind:Int) == 44)=true:=by rw [h];rfl
  first | have q45:((x.kind:Int) == 45)=false:=beqF (b:=45) (by omega) | have q45:((x.kind:Int) == 45)=true:=by rw [h];rfl
  first | have q46:((x.kind:Int) == 46)=false:=beqF (b:=46) (by omega) | have q46:((x.kind:Int) == 46)=true:=by rw [h];rfl
  first | have q47:((x.kind:Int) == 47)=false:=beqF (b:=47) (by omega) | have q47:((x.kind:Int) == 47)=true:=by rw [h];rfl
  first | have q48:((x.kind:Int) == 48)=false:=beqF (b:=48) (by omega) | have q48:((x.kind:Int) == 48)=true:=by rw [h];rfl
  first | have q49:((x.kind:Int) == 49)=false:=beqF (b:=49) (by omega) | have q49:((x.kind:Int) == 49)=true:=by rw [h];rfl
  first | have q50:((x.kind:Int) == 50)=false:=beqF (b:=50) (by omega) | have q50:((x.kind:Int) == 50)=true:=by rw [h];rfl
  first | have q51:((x.kind:Int) == 51)=false:=beqF (b:=51) (by omega) | have q51:((x.kind:Int) == 51)=true:=by rw [h];rfl
  clear h
  go_enter Tryz.func15,Tryz.ntmps15
  go_upto_region 1 with fail
  generalize w.alloc _=W at HB HRX HK ⊢
  obtain ⟨a0,a1,a2,a3,_⟩:=HRX.out.four
  have hlt:=HRX.out.lt
  have HN:=kp (named_any x HS.out.facts.2.2.1 A cap W HK.out)
  generalize namedB x=b1 at *
  cases b1
  ·go_wp2_with fail
   refine HN.out.mono ?_
   rintro e w1 ⟨rfl,hb⟩
   have HB1:=kp (bls HB.out HB.out.size hb)
   obtain ⟨a0,a1,a2,a3,_⟩:=(HRX.out.below hb).four
   have hlt:=(HRX.out.below hb).lt
   clear hb
   go_wp2_with fail
   go_ret
   exact ⟨by rw [HE.out];rfl,HB1.out⟩
  by_cases h8:x.kids.length≤8
  ·rw [decide_eq_true h8,Bool.true_and,Bool.true_and] at HE
   have r8:(x.kids.length:Int)≤8:=by omega
   clear h8
   go_wp2_with fail
   refine HN.out.mono ?_
   rintro e w1 ⟨rfl,hb⟩
   have HB1:=kp (bls HB.out HB.out.size hb)
   obtain ⟨a0,a1,a2,a3,_⟩:=(HRX.out.below hb).four
   have hlt:=(HRX.out.below hb).lt
   have HKS:=kp (every_any varB ent_isVar x.kids HS.out.facts.2.2.2 (fun y hy=>by obtain ⟨i,hi⟩:=List.getElem?_of_mem hy;exact isVar_any y (HS.out.kid hi)) A cap w1 (HK.out.mono hb))
   clear hb
   generalize x.kids.all varB=b2 at *
   go_wp2_with fail
   refine HKS.out.mono ?_
   rintro e w2 ⟨rfl,hb⟩
   have HB2:=kp (bls HB1.out HB1.out.size hb)
   clear hb
   go_wp2_with fail
   go_ret
   exact ⟨by rw [HE.out];rfl,HB2.out⟩
  ·rw [decide_eq_false h8,Bool.and_false,Bool.false_and] at HE
   have r8:¬ (x.kids.length:Int)≤8:=by omega
   clear h8
   go_wp2_with fail
   refine HN.out.mono ?_
   rintro e w1 ⟨rfl,hb⟩
   have HB1:=kp (bls HB.out HB.out.size hb)
   obtain ⟨a0,a1,a2,a3,_⟩:=(HRX.out.below hb).four
   have hlt:=(HRX.out.below hb).lt
   clear hb
   go_wp2_with fail
   go_ret
   exact ⟨by rw [HE.out];rfl,HB1.out⟩
theorem isSt_52 {x:Nd} (hk:x.kind=52∨x.kind=53) (hf:NdFit x) (ih:BlIH x):NdFn 15 (isStT x) x:=fun A cap w hK=>by
 have HE:=kp (show isStT x=(plainB x&&(decide (x.kids.length=4)&&[isExT (kid x 0),(x.kids.map isBlT).getD 1 false,(x.kids.map isBlT).getD 2 false,isExT (kid x 3)].all id)) by rw [isStT_eq];unfold isStK;rw [if_neg (by omega),if_neg (by omega),if_neg (by omega),if_neg (by omega),if_neg (by omega),if_pos (by omega)])
 have HB:=kp (blb w (Obj.cells (ndC x A cap) 26))
 have HRX:=kp (bxn w (ndC x A cap) 26)
 have HK:=kp (hK.mono HB.out)
 have HS:=kp hf
 have HIH:=kp ih
 clear hK hf ih
 rcases hk with h | h
 all_goals
  first | have q40:((x.kind:Int) == 40)=false:=beqF (b:=40) (by omega) | have q40:((x.kind:Int) == 40)=true:=by rw [h];rfl
  first | have q41:((x.kind:Int) == 41)=false:=beqF (b:=41) (by omega) | have q41:((x.kind:Int) == 41)=true:=by rw [h];rfl
  first | have q42:((x.kind:Int) == 42)=false:=beqF (b:=42) (by omega) | have q42:((x.kind:Int) == 42)=true:=by rw [h];rfl
  first | have q56:((x.kind:Int) == 56)=false:=beqF (b:=56) (by omega) | have q56:((x.kind:Int) == 56)=true:=by rw [h];rfl
  first | have q43:((x.kind:Int) == 43)=false:=beqF (b:=43) (by omega) | have q43:((x.kind:Int) == 43)=true:=by rw [h];rfl
  first | have q44:((x.kind:Int) == 44)=false:=beqF (b:=44) (by omega) | have q44:((x.kind:Int) == 44)=true:=by rw [h];rfl
  first | have q45:((x.kind:Int) == 45)=false:=beqF (b:=45) (by omega) | have q45:((x.kind:Int) == 45)=true:=by rw [h];rfl
  first | have q46:((x.kind:Int) == 46)=false:=beqF (b:=46) (by omega) | have q46:((x.kind:Int) == 46)=true:=by rw [h];rfl
  first | have q47:((x.kind:Int) == 47)=false:=beqF (b:=47) (by omega) | have q47:((x.kind:Int) == 47)=true:=by rw [h];rfl
  first | have q48:((x.kind:Int) == 48)=false:=beqF (b:=48) (by omega) | have q48:((x.kind:Int) == 48)=true:=by rw [h];rfl
  first | have q49:((x.kind:Int) == 49)=false:=beqF (b:=49) (by omega) | have q49:((x.kind:Int) == 49)=true:=by rw [h];rfl
  first | have q50:((x.kind:Int) == 50)=false:=beqF (b:=50) (by omega) | have q50:((x.kind:Int) == 50)=true:=by rw [h];rfl
  first | have q51:((x.kind:Int) == 51)=false:=beqF (b:=51) (by omega) | have q51:((x.kind:Int) == 51)=true:=by rw [h];rfl
  first | have q52:((x.kind:Int) == 52)=false:=beqF (b:=52) (by omega) | have q52:((x.kind:Int) == 52)=true:=by rw [h];rfl
  first | have q53:((x.kind:Int) == 53)=false:=beqF (b:=53) (by omega) | have q53:((x.kind:Int) == 53)=true:=by rw [h];rfl
  clear h
  go_enter Tryz.func15,Tryz.ntmps15
  go_upto_region 1 with fail
  generalize w.alloc _=W at HB HRX HK ⊢
  obtain ⟨a0,a1,a2,a3,_⟩:=HRX.out.four
  have hlt:=HRX.out.lt
  have HN:=kp (plain_any x A cap W HK.out)
  generalize plainB x=b1 at *
  cases b1
  ·go_wp2_with fail
   refine HN.out.mono ?_
   rintro e w1 ⟨rfl,hb⟩
   have HB1:=kp (bls HB.out HB.out.size hb)
   obtain ⟨a0,a1,a2,a3,_⟩:=(HRX.out.below hb).four
   have hlt:=(HRX.out.below hb).lt
   clear hb
   go_wp2_with fail
   go_ret
   exact ⟨by rw [HE.out];rfl,HB1.out⟩
  ·go_wp2_with fail
   refine HN.out.mono ?_
   rintro e w1 ⟨rfl,hb⟩
   have HB1:=kp (bls HB.out HB.out.size hb)
   obtain ⟨a0,a1,a2,a3,_⟩:=(HRX.out.below hb).four
   have hlt:=(HRX.out.below hb).lt
   have HBS:=kp (blb w1 (Obj.cells #[.func (.func 31) #[] #[],.func (.func 16) #[] #[],.func (.func 16) #[] #[],.func (.func 31) #[] #[]] 47))
   have HKS:=kp (kids_ebbe HS.out HIH.out A cap (w1.alloc (Obj.cells #[.func (.func 31) #[] #[],.func (.func 16) #[] #[],.func (.func 16) #[] #[],.func (.func 31) #[] #[]] 47)) ((HK.out.mono hb).mono HBS.out) (some ⟨w1.heap.size,0,none⟩) 4 (fns_new w1 [31,16,16,31] _ rfl _))
   clear hb
   generalize (decide (x.kids.length=4)&&[isExT (kid x 0),(x.kids.map isBlT).getD 1 false,(x.kids.map isBlT).getD 2 false,isExT (kid x 3)].all id)=b2 at *
   go_wp2_with fail
   refine HKS.out.mono ?_
   rintro e w2 ⟨rfl,hb⟩
   have HB2:=kp (bls HB1.out HB1.out.size (bls HBS.out HBS.out.size hb))
   clear hb
   go_wp2_with fail
   go_ret
   exact ⟨by rw [HE.out];rfl,HB2.out⟩
theorem isSt_54 {x:Nd} (hk:x.kind=54) (hf:NdFit x) (ih:BlIH x):NdFn 15 (isStT x) x:=fun A cap w hK=>by
 have HE:=kp (show isStT x=(namedB x&&(decide (x.kids.length=3)&&[isExT (kid x 0),(x.kids.map isBlT).getD 1 false,isExT (kid x 2)].all id)) by rw [isStT_eq];unfold isStK;rw [if_neg (by omega),if_neg (by omega),if_neg (by omega),if_neg (by omega),if_neg (by omega),if_neg (by omega),if_pos (by omega)])
 have HB:=kp (blb w (Obj.cells (ndC x A cap) 26))
 have HRX:=kp (bxn w (ndC x A cap) 26)
 have HK:=kp (hK.mono HB.out)
 have HS:=kp hf
 have HIH:=kp ih
 have q40:((x.kind:Int) == 40)=false:=beqF (b:=40) (by omega)
 have q41:((x.kind:Int) == 41)=false:=beqF (b:=41) (by omega)
 have q42:((x.kind:Int) == 42)=false:=beqF (b:=42) (by omega)
 have q56:((x.kind:Int) == 56)=false:=beqF (b:=56) (by omega)
 have q43:((x.kind:Int) == 43)=false:=beqF (b:=43) (by omega)
 have q44:((x.kind:Int) == 44)=false:=beqF (b:=44) (by omega)
 have q45:((x.kind:Int) == 45)=false:=beqF (b:=45) (by omega)
 have q46:((x.kind:Int) == 46)=false:=beqF (b:=46) (by omega)
 have q47:((x.kind:Int) == 47)=false:=beqF (b:=47) (by omega)
 have q48:((x.kind:Int) == 48)=false:=beqF (b:=48) (by omega)
 have q49:((x.kind:Int) == 49)=false:=beqF (b:=49) (by omega)
 have q50:((x.kind:Int) == 50)=false:=beqF (b:=50) (by omega)
 have q51:((x.kind:Int) == 51)=false:=beqF (b:=51) (by omega)
 have q52:((x.kind:Int) == 52)=false:=beqF (b:=52) (by omega)
 have q53:((x.kind:Int) == 53)=false:=beqF (b:=53) (by omega)
 have q54:((x.kind:Int) == 54)=true:=by rw [hk];rfl
 clear hK hf ih
 clear hk
 go_enter Tryz.func15,Tryz.ntmps15
 go_upto_region 1 with fail
 generalize w.alloc _=W at HB HRX HK ⊢
 obtain ⟨a0,a1,a2,a3,_⟩:=HRX.out.four
 have hlt:=HRX.out.lt
 have HN:=kp (named_any x HS.out.facts.2.2.1 A cap W HK.out)
 generalize namedB x=b1 at *
 cases b1
 ·go_wp2_with fail
  refine HN.out.mono ?_
  rintro e w1 ⟨rfl,hb⟩
  have HB1:=kp (bls HB.out HB.out.size hb)
  obtain ⟨a0,a1,a2,a3,_⟩:=(HRX.out.below hb).four
  have hlt:=(HRX.out.below hb).lt
  clear hb
  go_wp2_with fail
  go_ret
  exact ⟨by rw [HE.out];rfl,HB1.out⟩
 ·go_wp2_with fail
  refine HN.out.mono ?_
  rintro e w1 ⟨rfl,hb⟩
  have HB1:=kp (bls HB.out HB.out.size hb)
  obtain ⟨a0,a1,a2,a3,_⟩:=(HRX.out.below hb).four
  have hlt:=(HRX.out.below hb).lt
  have HBS:=kp (blb w1 (Obj.cells #[.func (.func 31) #[] #[],.func (.func 16) #[] #[],.func (.func 31) #[] #[]] 47))
  have HKS:=kp (kids_ebe HS.out HIH.out A cap (w1.alloc (Obj.cells #[.func (.func 31) #[] #[],.func (.func 16) #[] #[],.func (.func 31) #[] #[]] 47)) ((HK.out.mono hb).mono HBS.out) (some ⟨w1.heap.size,0,none⟩) 3 (fns_new w1 [31,16,31] _ rfl _))
  clear hb
  generalize (decide (x.kids.length=3)&&[isExT (kid x 0),(x.kids.map isBlT).getD 1 false,isExT (kid x 2)].all id)=b2 at *
  go_wp2_with fail
  refine HKS.out.mono ?_
  rintro e w2 ⟨rfl,hb⟩
  have HB2:=kp (bls HB1.out HB1.out.size (bls HBS.out HBS.out.size hb))
  clear hb
  go_wp2_with fail
  go_ret
  exact ⟨by rw [HE.out];rfl,HB2.out⟩
theorem isSt_55 {x:Nd} (hk:x.kind=55) (hf:NdFit x) (ih:BlIH x):NdFn 15 (isStT x) x:=fun A cap w hK=>by
 have HE:=kp (show isStT x=(namedB x&&(decide (x.kids.length=1)&&[(x.kids.map isBlT).getD 0 false].all id)) by rw [isStT_eq];unfold isStK;rw [if_neg (by omega),if_neg (by omega),if_neg (by omega),if_neg (by omega),if_neg (by omega),if_neg (by omega),if_neg (by omega),if_pos (by omega)])
 have HB:=kp (blb w (Obj.cells (ndC x A cap) 26))
 have HRX:=kp (bxn w (ndC x A cap) 26)
 have HK:=kp (hK.mono HB.out)
 have HS:=kp hf
 have HIH:=kp ih
 have q40:((x.kind:Int) == 40)=false:=beqF (b:=40) (by omega)
 have q41:((x.kind:Int) == 41)=false:=beqF (b:=41) (by omega)
 have q42:((x.kind:Int) == 42)=false:=beqF (b:=42) (by omega)
 have q56:((x.kind:Int) == 56)=false:=beqF (b:=56) (by omega)
 have q43:((x.kind:Int) == 43)=false:=beqF (b:=43) (by omega)
 have q44:((x.kind:Int) == 44)=false:=beqF (b:=44) (by omega)
 have q45:((x.kind:Int) == 45)=false:=beqF (b:=45) (by omega)
 have q46:((x.kind:Int) == 46)=false:=beqF (b:=46) (by omega)
 have q47:((x.kind:Int) == 47)=false:=beqF (b:=47) (by omega)
 have q48:((x.kind:Int) == 48)=false:=beqF (b:=48) (by omega)
 have q49:((x.kind:Int) == 49)=false:=beqF (b:=49) (by omega)
 have q50:((x.kind:Int) == 50)=false:=beqF (b:=50) (by omega)
 have q51:((x.kind:Int) == 51)=false:=beqF (b:=51) (by omega)
 have q52:((x.kind:Int) == 52)=false:=beqF (b:=52) (by omega)
 have q53:((x.kind:Int) == 53)=false:=beqF (b:=53) (by omega)
 have q54:((x.kind:Int) == 54)=false:=beqF (b:=54) (by omega)
 have q55:((x.kind:Int) == 55)=true:=by rw [hk];rfl
 clear hK hf ih
 clear hk
 go_enter Tryz.func15,Tryz.ntmps15
 go_upto_region 1 with fail
 generalize w.alloc _=W at HB HRX HK ⊢
 obtain ⟨a0,a1,a2,a3,_⟩:=HRX.out.four
 have hlt:=HRX.out.lt
 have HN:=kp (named_any x HS.out.facts.2.2.1 A cap W HK.out)
 generalize namedB x=b1 at *
 cases b1
 ·go_wp2_with fail
  refine HN.out.mono ?_
  rintro e w1 ⟨rfl,hb⟩
  have HB1:=kp (bls HB.out HB.out.size hb)
  obtain ⟨a0,a1,a2,a3,_⟩:=(HRX.out.below hb).four
  have hlt:=(HRX.out.below hb).lt
  clear hb
  go_wp2_with fail
  go_ret
  exact ⟨by rw [HE.out];rfl,HB1.out⟩
 ·go_wp2_with fail
  refine HN.out.mono ?_
  rintro e w1 ⟨rfl,hb⟩
  have HB1:=kp (bls HB.out HB.out.size hb)
  obtain ⟨a0,a1,a2,a3,_⟩:=(HRX.out.below hb).four
  have hlt:=(HRX.out.below hb).lt
  have HBS:=kp (blb w1 (Obj.cells #[.func (.func 16) #[] #[]] 47))
  have HKS:=kp (kids_b HS.out HIH.out A cap (w1.alloc (Obj.cells #[.func (.func 16) #[] #[]] 47)) ((HK.out.mono hb).mono HBS.out) (some ⟨w1.heap.size,0,none⟩) 1 (fns_new w1 [16] _ rfl _))
  clear hb
  generalize (decide (x.kids.length=1)&&[(x.kids.map isBlT).getD 0 false].all id)=b2 at *
  go_wp2_with fail
  refine HKS.out.mono ?_
  rintro e w2 ⟨rfl,hb⟩
  have HB2:=kp (bls HB1.out HB1.out.size (bls HBS.out HBS.out.size hb))
  clear hb
  go_wp2_with fail
  go_ret
  exact ⟨by rw [HE.out];rfl,HB2.out⟩
theorem isSt_else {x:Nd} (hk:x.kind<40∨56<x.kind) (hf:NdFit x) (ih:BlIH x):NdFn 15 (isStT x) x:=fun A cap w hK=>by
 have HE:=kp (show isStT x=(false) by rw [isStT_eq];unfold isStK;rw [if_neg (by omega),if_neg (by omega),if_neg (by omega),if_neg (by omega),if_neg (by omega),if_neg (by omega),if_neg (by omega),if_neg (by omega)])
 have HB:=kp (blb w (Obj.cells (ndC x A cap) 26))
 have HRX:=kp (bxn w (ndC x A cap) 26)
 have HK:=kp (hK.mono HB.out)
 have HS:=kp hf
 have HIH:=kp ih
 have q40:((x.kind:Int) == 40)=false:=beqF (b:=40) (by omega)
 have q41:((x.kind:Int) == 41)=false:=beqF (b:=41) (by omega)
 have q42:((x.kind:Int) == 42)=false:=beqF (b:=42) (by omega)
 have q56:((x.kind:Int) == 56)=false:=beqF (b:=56) (by omega)
 have q43:((x.kind:Int) == 43)=false:=beqF (b:=43) (by omega)
 have q44:((x.kind:Int) == 44)=false:=beqF (b:=44) (by omega)
 have q45:((x.kind:Int) == 45)=false:=beqF (b:=45) (by omega)
 have q46:((x.kind:Int) == 46)=false:=beqF (b:=46) (by omega)
 have q47:((x.kind:Int) == 47)=false:=beqF (b:=47) (by omega)
 have q48:((x.kind:Int) == 48)=false:=beqF (b:=48) (by omega)
 have q49:((x.kind:Int) == 49)=false:=beqF (b:=49) (by omega)
 have q50:((x.kind:Int) == 50)=false:=beqF (b:=50) (by omega)
 have q51:((x.kind:Int) == 51)=false:=beqF (b:=51) (by omega)
 have q52:((x.kind:Int) == 52)=false:=beqF (b:=52) (by omega)
 have q53:((x.kind:Int) == 53)=false:=beqF (b:=53) (by omega)
 have q54:((x.kind:Int) == 54)=false:=beqF (b:=54) (by omega)
 have q55:((x.kind:Int) == 55)=false:=beqF (b:=55) (by omega)
 clear hK hf ih
 clear hk
 go_enter Tryz.func15,Tryz.ntmps15
 go_upto_region 1 with fail
 generalize w.alloc _=W at HB HRX HK ⊢
 obtain ⟨a0,a1,a2,a3,_⟩:=HRX.out.four
 have hlt:=HRX.out.lt
 go_wp2_with fail
 go_ret
 exact ⟨by rw [HE.out];rfl,HB.out⟩
theorem isSt_step {x:Nd} (hf:NdFit x) (ih:BlIH x):NdFn 15 (isStT x) x:=by
 have hk:x.kind=40∨x.kind=41∨x.kind=42∨x.kind=56∨x.kind=43∨x.kind=44∨x.kind=45∨x.kind=46∨x.kind=47∨x.kind=48∨x.kind=49∨x.kind=50∨x.kind=51∨x.kind=52∨x.kind=53∨x.kind=54∨x.kind=55∨(x.kind<40∨56<x.kind):=by omega
 rcases hk with h | h | h | h | h | h | h | h | h | h | h | h | h | h | h | h | h | h
 ·exact isSt_40 (by omega) hf ih
 ·exact isSt_40 (by omega) hf ih
 ·exact isSt_40 (by omega) hf ih
 ·exact isSt_40 (by omega) hf ih
 ·exact isSt_43 h hf ih
 ·exact isSt_44 (by omega) hf ih
 ·exact isSt_44 (by omega) hf ih
 ·exact isSt_46 (by omega) hf ih
 ·exact isSt_46 (by omega) hf ih
 ·exact isSt_46 (by omega) hf ih
 ·exact isSt_46 (by omega) hf ih
 ·exact isSt_50 (by omega) hf ih
 ·exact isSt_50 (by omega) hf ih
 ·exact isSt_52 (by omega) hf ih
 ·exact isSt_52 (by omega) hf ih
 ·exact isSt_54 h hf ih
 ·exact isSt_55 h hf ih
 ·exact isSt_else h hf ih
theorem isBl_step {x:Nd} (hf:NdFit x) (ih:∀ y∈x.kids,NdFn 15 (isStT y) y):NdFn 16 (isBlT x) x:=fun A cap w hK=>by
 have HE:=kp (isBlT_eq x)
 have q:((x.kind:Int) == 57)=decide (x.kind=57):=beqD x.kind 57
 have HB:=kp (blb w (Obj.cells (ndC x A cap) 26))
 have HRX:=kp (bxn w (ndC x A cap) 26)
 have HK:=kp (hK.mono HB.out)
 have HS:=kp (And.intro hf ih)
 clear hK hf ih
 generalize decide (x.kind=57)=b0 at *
 go_enter Tryz.func16,Tryz.ntmps16
 go_upto_region 1 with fail
 generalize w.alloc _=W at HB HRX HK ⊢
 obtain ⟨a0,a1,a2,a3,_⟩:=HRX.out.four
 have hlt:=HRX.out.lt
 have HN:=kp (plain_any x A cap W HK.out)
 generalize plainB x=b1 at *
 cases b0
 ·go_wp2_with fail
  go_ret
  exact ⟨by rw [HE.out];rfl,HB.out⟩
 cases b1
 ·go_wp2_with fail
  refine HN.out.mono ?_
  rintro e w1 ⟨rfl,hb⟩
  have HB1:=kp (bls HB.out HB.out.size hb)
  obtain ⟨a0,a1,a2,a3,_⟩:=(HRX.out.below hb).four
  have hlt:=(HRX.out.below hb).lt
  clear hb
  go_wp2_with fail
  go_ret
  exact ⟨by rw [HE.out];rfl,HB1.out⟩
 ·go_wp2_with fail
  refine HN.out.mono ?_
  rintro e w1 ⟨rfl,hb⟩
  have HB1:=kp (bls HB.out HB.out.size hb)
  obtain ⟨a0,a1,a2,a3,_⟩:=(HRX.out.below hb).four
  have hlt:=(HRX.out.below hb).lt
  have HKS:=kp (every_any isStT ent_IsStmt x.kids HS.out.1.facts.2.2.2 HS.out.2 A cap w1 (HK.out.mono hb))
  clear hb
  generalize x.kids.all isStT=b2 at *
  go_wp2_with fail
  refine HKS.out.mono ?_
  rintro e w2 ⟨rfl,hb⟩
  have HB2:=kp (bls HB1.out HB1.out.size hb)
  clear hb
  go_wp2_with fail
  go_ret
  exact ⟨by rw [HE.out];rfl,HB2.out⟩
theorem isStBl_any:∀ (N:Nat) (x:Nd),SizeOf.sizeOf x≤N→NdFit x→NdFn 15 (isStT x) x∧NdFn 16 (isBlT x) x:=by
 intro N
 induction N with
 | zero=>intro x hx;exfalso;cases x;simp at hx
 | succ N ih=>
   intro x hx hf
   have ih':∀ (i:Nat) (y:Nd),x.kids[i]?=some y→NdFn 15 (isStT y) y∧NdFn 16 (isBlT y) y:=fun i y hy=>ih y (by have:=Nd.kid_lt hy;omega) (hf.kid hy)
   exact ⟨isSt_step hf fun i y hy=>(ih' i y hy).2,isBl_step hf fun y hy=>by obtain ⟨i,hi⟩:=List.getElem?_of_mem hy;exact (ih' i y hi).1⟩
theorem isStmt_any (x:Nd) (hf:NdFit x):NdFn 15 (isStT x) x:=(isStBl_any _ x (Nat.le_refl _) hf).1
theorem isBlock_any (x:Nd) (hf:NdFit x):NdFn 16 (isBlT x) x:=(isStBl_any _ x (Nat.le_refl _) hf).2
end Go.Proofs.YtgbomnibedefoaaGreatDoor
