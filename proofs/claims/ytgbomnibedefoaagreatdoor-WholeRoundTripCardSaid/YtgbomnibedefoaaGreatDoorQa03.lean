import Derived.Test.YtgbomnibedefoaaGreatDoorQa02
set_option maxRecDepth 100000
set_option maxHeartbeats 8000000
namespace Go.Proofs.YtgbomnibedefoaaGreatDoor
open Go.ChangeShapes Go.WideShapes Go.ChangeAt Go.RowKit Go.Sort
def numB (b:Bool):Int:=if b=true then 1 else 0
theorem nba (b:Bool) (w:World) :
  Calls Tryz.prog 201 #[.bool b] w fun e w'=>e=.returned (.int .i64 (numB b))∧w=w':=by
 cases b <;>
 ·go_enter Tryz.func201,Tryz.ntmps201
  go_wp2_with fail
  go_ret
  exact ⟨rfl,rfl⟩
def divR (op x y:Int):Int × Int:=if y=0 then (0,11) else if op=11 then (wrap64 (x.tdiv y),0) else (x.tmod y,0)
theorem divR_0 (op x:Int):divR op x 0=(0,11):=by unfold divR;rw [if_pos rfl]
theorem divR_1 {y:Int} (h:y≠0) (x:Int):divR 11 x y=(wrap64 (x.tdiv y),0):=by unfold divR;rw [if_neg h,if_pos rfl]
theorem divR_2 {op y:Int} (h:y≠0) (h2:op≠11) (x:Int):divR op x y=(x.tmod y,0):=by unfold divR;rw [if_neg h,if_neg h2]
theorem dva (op x y:Int) (w:World) :
  Calls Tryz.prog 202 #[.int .u8 op,.int .i64 x,.int .i64 y] w fun e w'=>e=.returned (.tuple #[.int .i64 (divR op x y).1,.int .i64 (divR op x y).2])∧w=w':=by
 by_cases hy:y=0
 ·subst hy
  go_enter Tryz.func202,Tryz.ntmps202
  go_wp2_with fail
  go_ret2
  exact ⟨by rw [divR_0];rfl,rfl⟩
 have hy1:(y == 0)=false:=by simpa using hy
 by_cases ho:op=11
 ·subst ho
  have HY:=kp hy
  clear hy
  go_enter Tryz.func202,Tryz.ntmps202
  go_wp2_with fail
  go_ret2
  exact ⟨by rw [divR_1 HY.out];rfl,rfl⟩
 ·have ho1:(op == 11)=false:=by simpa using ho
  have HY:=kp hy
  have HO:=kp ho
  clear hy ho
  go_enter Tryz.func202,Tryz.ntmps202
  go_wp2_with fail
  go_ret2
  exact ⟨by rw [divR_2 HY.out HO.out];rfl,rfl⟩
def apR (op x y:Int):Int × Int:=
 if op=8 then (wrap64 (x+y),0)
 else if op=9 then (wrap64 (x - y),0)
 else if op=10 then (wrap64 (x*y),0)
 else if op=11 then divR 11 x y
 else if op=12 then divR 12 x y
 else if op=13 then (bits BinOp.and IntKind.i64 x y,0)
 else if op=14 then (bits BinOp.or IntKind.i64 x y,0)
 else if op=15 then (bits BinOp.xor IntKind.i64 x y,0)
 else if op=16 then (numB (x == y),0)
 else if op=17 then (numB (x != y),0)
 else if op=18 then (numB (decide (x<y)),0)
 else if op=19 then (numB (decide (x≤y)),0)
 else if op=20 then (numB (decide (y<x)),0)
 else if op=21 then (numB (decide (y≤x)),0)
 else if op=22 then (numB (x != 0&&y != 0),0)
 else if op=23 then (numB (x != 0||y != 0),0)
 else (0,7)
theorem apply_8 (x y:Int) (w:World) :
  Calls Tryz.prog 192 #[.int .u8 8,.int .i64 x,.int .i64 y] w fun e w'=>e=.returned (.tuple #[.int .i64 (apR 8 x y).1,.int .i64 (apR 8 x y).2])∧w=w':=by
 go_enter Tryz.func192,Tryz.ntmps192
 go_wp2_with (first | ((with_reducible refine (nba _ _).mono ?_);rintro e w ⟨rfl,rfl⟩) | ((with_reducible refine (dva _ _ _ _).mono ?_);rintro e w ⟨rfl,rfl⟩))
 all_goals
  go_ret2
  exact ⟨rfl,rfl⟩
theorem apply_9 (x y:Int) (w:World) :
  Calls Tryz.prog 192 #[.int .u8 9,.int .i64 x,.int .i64 y] w fun e w'=>e=.returned (.tuple #[.int .i64 (apR 9 x y).1,.int .i64 (apR 9 x y).2])∧w=w':=by
 go_enter Tryz.func192,Tryz.ntmps192
 go_wp2_with (first | ((with_reducible refine (nba _ _).mono ?_);rintro e w ⟨rfl,rfl⟩) | ((with_reducible refine (dva _ _ _ _).mono ?_);rintro e w ⟨rfl,rfl⟩))
 all_goals
  go_ret2
  exact ⟨rfl,rfl⟩
theorem apply_10 (x y:Int) (w:World) :
  Calls Tryz.prog 192 #[.int .u8 10,.int .i64 x,.int .i64 y] w fun e w'=>e=.returned (.tuple #[.int .i64 (apR 10 x y).1,.int .i64 (apR 10 x y).2])∧w=w':=by
 go_enter Tryz.func192,Tryz.ntmps192
 go_wp2_with (first | ((with_reducible refine (nba _ _).mono ?_);rintro e w ⟨rfl,rfl⟩) | ((with_reducible refine (dva _ _ _ _).mono ?_);rintro e w ⟨rfl,rfl⟩))
 all_goals
  go_ret2
  exact ⟨rfl,rfl⟩
theorem apply_11 (x y:Int) (w:World) :
  Calls Tryz.prog 192 #[.int .u8 11,.int .i64 x,.int .i64 y] w fun e w'=>e=.returned (.tuple #[.int .i64 (apR 11 x y).1,.int .i64 (apR 11 x y).2])∧w=w':=by
 go_enter Tryz.func192,Tryz.ntmps192
 go_wp2_with (first | ((with_reducible refine (nba _ _).mono ?_);rintro e w ⟨rfl,rfl⟩) | ((with_reducible refine (dva _ _ _ _).mono ?_);rintro e w ⟨rfl,rfl⟩))
 all_goals
  go_ret2
  exact ⟨rfl,rfl⟩
theorem apply_12 (x y:Int) (w:World) :
  Calls Tryz.prog 192 #[.int .u8 12,.int .i64 x,.int .i64 y] w fun e w'=>e=.returned (.tuple #[.int .i64 (apR 12 x y).1,.int .i64 (apR 12 x y).2])∧w=w':=by
 go_enter Tryz.func192,Tryz.ntmps192
 go_wp2_with (first | ((with_reducible refine (nba _ _).mono ?_);rintro e w ⟨rfl,rfl⟩) | ((with_reducible refine (dva _ _ _ _).mono ?_);rintro e w ⟨rfl,rfl⟩))
 all_goals
  go_ret2
  exact ⟨rfl,rfl⟩
theorem apply_13 (x y:Int) (w:World) :
  Calls Tryz.prog 192 #[.int .u8 13,.int .i64 x,.int .i64 y] w fun e w'=>e=.returned (.tuple #[.int .i64 (apR 13 x y).1,.int .i64 (apR 13 x y).2])∧w=w':=by
 go_enter Tryz.func192,Tryz.ntmps192
 go_wp2_with (first | ((with_reducible refine (nba _ _).mono ?_);rintro e w ⟨rfl,rfl⟩) | ((with_reducible refine (dva _ _ _ _).mono ?_);rintro e w ⟨rfl,rfl⟩))
 all_goals
  go_ret2
  exact ⟨rfl,rfl⟩
theorem apply_14 (x y:Int) (w:World) :
  Calls Tryz.prog 192 #[.int .u8 14,.int .i64 x,.int .i64 y] w fun e w'=>e=.returned (.tuple #[.int .i64 (apR 14 x y).1,.int .i64 (apR 14 x y).2])∧w=w':=by
 go_enter Tryz.func192,Tryz.ntmps192
 go_wp2_with (first | ((with_reducible refine (nba _ _).mono ?_);rintro e w ⟨rfl,rfl⟩) | ((with_reducible refine (dva _ _ _ _).mono ?_);rintro e w ⟨rfl,rfl⟩))
 all_goals
  go_ret2
  exact ⟨rfl,rfl⟩
theorem apply_15 (x y:Int) (w:World) :
  Calls Tryz.prog 192 #[.int .u8 15,.int .i64 x,.int .i64 y] w fun e w'=>e=.returned (.tuple #[.int .i64 (apR 15 x y).1,.int .i64 (apR 15 x y).2])∧w=w':=by
 go_enter Tryz.func192,Tryz.ntmps192
 go_wp2_with (first | ((with_reducible refine (nba _ _).mono ?_);rintro e w ⟨rfl,rfl⟩) | ((with_reducible refine (dva _ _ _ _).mono ?_);rintro e w ⟨rfl,rfl⟩))
 all_goals
  go_ret2
  exact ⟨rfl,rfl⟩
theorem apply_16 (x y:Int) (w:World) :
  Calls Tryz.prog 192 #[.int .u8 16,.int .i64 x,.int .i64 y] w fun e w'=>e=.returned (.tuple #[.int .i64 (apR 16 x y).1,.int .i64 (apR 16 x y).2])∧w=w':=by
 go_enter Tryz.func192,Tryz.ntmps192
 go_wp2_with (first | ((with_reducible refine (nba _ _).mono ?_);rintro e w ⟨rfl,rfl⟩) | ((with_reducible refine (dva _ _ _ _).mono ?_);rintro e w ⟨rfl,rfl⟩))
 all_goals
  go_ret2
  exact ⟨rfl,rfl⟩
theorem apply_17 (x y:Int) (w:World) :
  Calls Tryz.prog 192 #[.int .u8 17,.int .i64 x,.int .i64 y] w fun e w'=>e=.returned (.tuple #[.int .i64 (apR 17 x y).1,.int .i64 (apR 17 x y).2])∧w=w':=by
 go_enter Tryz.func192,Tryz.ntmps192
 go_wp2_with (first | ((with_reducible refine (nba _ _).mono ?_);rintro e w ⟨rfl,rfl⟩) | ((with_reducible refine (dva _ _ _ _).mono ?_);rintro e w ⟨rfl,rfl⟩))
 all_goals
  go_ret2
  exact ⟨rfl,rfl⟩
theorem apply_18 (x y:Int) (w:World) :
  Calls Tryz.prog 192 #[.int .u8 18,.int .i64 x,.int .i64 y] w fun e w'=>e=.returned (.tuple #[.int .i64 (apR 18 x y).1,.int .i64 (apR 18 x y).2])∧w=w':=by
 go_enter Tryz.func192,Tryz.ntmps192
 go_wp2_with (first | ((with_reducible refine (nba _ _).mono ?_);rintro e w ⟨rfl,rfl⟩) | ((with_reducible refine (dva _ _ _ _).mono ?_);rintro e w ⟨rfl,rfl⟩))
 all_goals
  go_ret2
  exact ⟨rfl,rfl⟩
theorem apply_19 (x y:Int) (w:World) :
  Calls Tryz.prog 192 #[.int .u8 19,.int .i64 x,.int .i64 y] w fun e w'=>e=.returned (.tuple #[.int .i64 (apR 19 x y).1,.int .i64 (apR 19 x y).2])∧w=w':=by
 go_enter Tryz.func192,Tryz.ntmps192
 go_wp2_with (first | ((with_reducible refine (nba _ _).mono ?_);rintro e w ⟨rfl,rfl⟩) | ((with_reducible refine (dva _ _ _ _).mono ?_);rintro e w ⟨rfl,rfl⟩))
 all_goals
  go_ret2
  exact ⟨rfl,rfl⟩
theorem apply_20 (x y:Int) (w:World) :
  Calls Tryz.prog 192 #[.int .u8 20,.int .i64 x,.int .i64 y] w fun e w'=>e=.returned (.tuple #[.int .i64 (apR 20 x y).1,.int .i64 (apR 20 x y).2])∧w=w':=by
 go_enter Tryz.func192,Tryz.ntmps192
 go_wp2_with (first | ((with_reducible refine (nba _ _).mono ?_);rintro e w ⟨rfl,rfl⟩) | ((with_reducible refine (dva _ _ _ _).mono ?_);rintro e w ⟨rfl,rfl⟩))
 all_goals
  go_ret2
  exact ⟨rfl,rfl⟩
theorem apply_21 (x y:Int) (w:World) :
  Calls Tryz.prog 192 #[.int .u8 21,.int .i64 x,.int .i64 y] w fun e w'=>e=.returned (.tuple #[.int .i64 (apR 21 x y).1,.int .i64 (apR 21 x y).2])∧w=w':=by
 go_enter Tryz.func192,Tryz.ntmps192
 go_wp2_with (first | ((with_reducible refine (nba _ _).mono ?_);rintro e w ⟨rfl,rfl⟩) | ((with_reducible refine (dva _ _ _ _).mono ?_);rintro e w ⟨rfl,rfl⟩))
 all_goals
  go_ret2
  exact ⟨rfl,rfl⟩
theorem apply_22 (x y:Int) (w:World) :
  Calls Tryz.prog 192 #[.int .u8 22,.int .i64 x,.int .i64 y] w fun e w'=>e=.returned (.tuple #[.int .i64 (apR 22 x y).1,.int .i64 (apR 22 x y).2])∧w=w':=by
 have HA:apR 22 x y=(numB (x != 0&&y != 0),0):=rfl
 cases hx:(x != 0)<;>cases hy:(y != 0)
 all_goals
  rw [HA,hx,hy]
  clear HA
  go_enter Tryz.func192,Tryz.ntmps192
  go_wp2_with (first | ((with_reducible refine (nba _ _).mono ?_);rintro e w ⟨rfl,rfl⟩))
  go_ret2
  exact ⟨rfl,rfl⟩
theorem apply_23 (x y:Int) (w:World) :
  Calls Tryz.prog 192 #[.int .u8 23,.int .i64 x,.int .i64 y] w fun e w'=>e=.returned (.tuple #[.int .i64 (apR 23 x y).1,.int .i64 (apR 23 x y).2])∧w=w':=by
 have HA:apR 23 x y=(numB (x != 0||y != 0),0):=rfl
 cases hx:(x != 0)<;>cases hy:(y != 0)
 all_goals
  rw [HA,hx,hy]
  clear HA
  go_enter Tryz.func192,Tryz.ntmps192
  go_wp2_with (first | ((with_reducible refine (nba _ _).mono ?_);rintro e w ⟨rfl,rfl⟩))
  go_ret2
  exact ⟨rfl,rfl⟩
theorem apply_any (k:Nat) (h:8≤k) (h':k≤23) (x y:Int) (w:World) :
  Calls Tryz.prog 192 #[.int .u8 k,.int .i64 x,.int .i64 y] w fun e w'=>e=.returned (.tuple #[.int .i64 (apR k x y).1,.int .i64 (apR k x y).2])∧w=w':=by
 have hk:k=8∨k=9∨k=10∨k=11∨k=12∨k=13∨k=14∨k=15∨k=16∨k=17∨k=18∨k=19∨k=20∨k=21∨k=22∨k=23:=by omega
 clear h h'
 rcases hk with rfl | rfl | rfl | rfl | rfl | rfl | rfl | rfl | rfl | rfl | rfl | rfl | rfl | rfl | rfl | rfl
 ·exact apply_8 x y w
 ·exact apply_9 x y w
 ·exact apply_10 x y w
 ·exact apply_11 x y w
 ·exact apply_12 x y w
 ·exact apply_13 x y w
 ·exact apply_14 x y w
 ·exact apply_15 x y w
 ·exact apply_16 x y w
 ·exact apply_17 x y w
 ·exact apply_18 x y w
 ·exact apply_19 x y w
 ·exact apply_20 x y w
 ·exact apply_21 x y w
 ·exact apply_22 x y w
 ·exact apply_23 x y w
structure Ev where
 v:Vd
 c:Nat
structure Mt where
 mem:List (List Int)
 inp:List Int
 out:List Int
structure St where
 k:Nat
 m:Mt
inductive Rs where
 | ok (s:St)
 | bad
 | deep
def Rs.andThen (r:Rs) (f:St→Rs):Rs:=match r with | .ok s=>f s | .bad=>.bad | .deep=>.deep
@[simp] theorem Rs.andThen_ok (s:St) (f:St→Rs):(Rs.ok s).andThen f=f s:=rfl
@[simp] theorem Rs.andThen_bad (f:St→Rs):Rs.bad.andThen f=.bad:=rfl
@[simp] theorem Rs.andThen_deep (f:St→Rs):Rs.deep.andThen f=.deep:=rfl
theorem Rs.andThen_eq {r:Rs} {f:St→Rs} {s:St} (h:r.andThen f=.ok s):∃ t,r=.ok t∧f t=.ok s:=by
 cases r with
 | ok t=>exact ⟨t,rfl,h⟩
 | bad=>cases h
 | deep=>cases h
def findV (l:List Vd) (s:ByteArray):Option Vd:=l.reverse.find? fun v=>decide (v.name=s)
def findE (l:List Ev) (s:ByteArray):Option Ev:=l.reverse.find? fun e=>decide (e.v.name=s)
def look (env:List Ev) (mem:List (List Int)) (s:ByteArray):Option (List Int):=(findE env s).bind fun e=>mem[e.c]?
def unR (k:Nat) (x:Int):Option Int:=if k=6 then some (wrap64 (-x)) else if k=7 then some (numB (x == 0)) else none
def binR (k:Nat) (x y:Int):Option Int:=if (apR k x y).2=0 then some (apR k x y).1 else none
def elem (c:List Int) (i:Int):Option Int:=if 0≤i∧i<c.length then c[i.toNat]? else none
def valT (g:ByteArray→Option (List Int)) (k:Nat) (num:Int) (name:ByteArray) (vs:List (Option Int)):Option Int:=
 if k=1 then some num
 else if k=2 then (g name).bind fun c=>if c.length=1 then c[0]? else none
 else if k=3 then (g name).bind fun c=>(vs[0]?.join).bind fun i=>elem c i
 else if k=4 then (g name).bind fun c=>c.getLast?
 else if k=5 then (g name).map fun c=>(c.length:Int)
 else (vs[0]?.join).bind fun x=>if vs.length=1 then unR k x else (vs[1]?.join).bind fun y=>binR k x y
mutual
def evT (g:ByteArray→Option (List Int)):Nd→Option Int
 | .mk k num name kids=>valT g k num name (evTL g kids)
def evTL (g:ByteArray→Option (List Int)):List Nd→List (Option Int)
 | []=>[]
 | x::r=>evT g x::evTL g r
end
def varK (k:Nat):Bool:=decide (k=2)||decide (k=3)||decide (k=4)||decide (k=5)
mutual
def mentT (s:ByteArray):Nd→Bool
 | .mk k _ name kids=>(varK k&&decide (name=s))||mentTL s kids
def mentTL (s:ByteArray):List Nd→Bool
 | []=>false
 | x::r=>mentT s x||mentTL s r
end
theorem evT_eq (g:ByteArray→Option (List Int)) (x:Nd):evT g x=valT g x.kind x.num x.name (evTL g x.kids):=by cases x;rw [evT];rfl
theorem mentT_eq (s:ByteArray) (x:Nd):mentT s x=((varK x.kind&&decide (x.name=s))||mentTL s x.kids):=by cases x;rw [mentT];rfl
theorem valT_congr {g g':ByteArray→Option (List Int)} {k:Nat} {name:ByteArray} (h:varK k=true→g name=g' name) (num:Int) (vs:List (Option Int)):valT g k num name vs=valT g' k num name vs:=by
 unfold valT
 by_cases h2:k=2
 ·subst h2;rw [h rfl]
 by_cases h3:k=3
 ·subst h3;rw [h rfl]
 by_cases h4:k=4
 ·subst h4;rw [h rfl]
 by_cases h5:k=5
 ·subst h5;rw [h rfl]
 simp only [h2,h3,h4,h5,if_false]
mutual
theorem evT_congr {g g':ByteArray→Option (List Int)}:∀ (x:Nd),(∀ s,mentT s x=true→g s=g' s)→evT g x=evT g' x
 | .mk k num name kids,h=>by
   rw [evT,evT,evTL_congr kids fun s hs=>h s (by rw [mentT,hs,Bool.or_true])]
   exact valT_congr (fun hk=>h name (by rw [mentT,hk];simp)) _ _
theorem evTL_congr {g g':ByteArray→Option (List Int)}:∀ (l:List Nd),(∀ s,mentTL s l=true→g s=g' s)→evTL g l=evTL g' l
 | [],_=>rfl
 | x::r,h=>by
   rw [evTL,evTL,evT_congr x fun s hs=>h s (by rw [mentTL,hs,Bool.true_or]),evTL_congr r fun s hs=>h s (by rw [mentTL,hs,Bool.or_true])]
end
def indexT (g:ByteArray→Option (List Int)) (p:Nd):Option Int:=if p.kind=2 then some 0 else evT g (kid p 0)
def placeT (env:List Ev) (mem:List (List Int)) (p:Nd):Option (Nat × Nat):=
 (indexT (look env mem) p).bind fun i=>(findE env p.name).bind fun e=>(mem[e.c]?).bind fun c=>if 0≤i∧i<c.length then some (e.c,i.toNat) else none
def getM (mem:List (List Int)) (p:Nat × Nat):Int:=((mem[p.1]?).bind fun c=>c[p.2]?).getD 0
def setM (mem:List (List Int)) (p:Nat × Nat) (v:Int):List (List Int):=mem.set p.1 (((mem[p.1]?).getD []).set p.2 v)
def updR (kind:Nat) (x y:Int):Int:=if kind=40 then wrap64 (x+y) else if kind=41 then wrap64 (x - y) else bits BinOp.xor IntKind.i64 x y
def basicP (env:List Ev) (kind:Nat) (n:Nd) (σ:Mt) (p:Nat × Nat):Option Mt:=
 if kind=40∨kind=41∨kind=42 then (evT (look env σ.mem) (kid n 1)).map fun y=>⟨setM σ.mem p (updR kind (getM σ.mem p) y),σ.inp,σ.out⟩
 else if kind=43 then (placeT env σ.mem (kid n 1)).map fun q=>⟨setM (setM σ.mem p (getM σ.mem q)) q (getM σ.mem p),σ.inp,σ.out⟩
 else if kind=44 then (findE env n.name).bind fun e=>(σ.mem[e.c]?).bind fun c=>if c.length<1000 then some ⟨setM (σ.mem.set e.c (c++[getM σ.mem p])) p 0,σ.inp,σ.out⟩ else none
 else if kind=45 then (findE env n.name).bind fun e=>(σ.mem[e.c]?).bind fun c=>(c.getLast?).bind fun v=>if getM σ.mem p=0 then some ⟨setM (σ.mem.set e.c c.dropLast) p v,σ.inp,σ.out⟩ else none
 else if kind=46 then (σ.inp.head?).bind fun v=>if getM σ.mem p=0 then some ⟨setM σ.mem p v,σ.inp.tail,σ.out⟩ else none
 else if kind=47 then if σ.inp.length<4096 then some ⟨setM σ.mem p 0,getM σ.mem p::σ.inp,σ.out⟩ else none
 else if kind=48 then if σ.out.length<4096 then some ⟨setM σ.mem p 0,σ.inp,σ.out++[getM σ.mem p]⟩ else none
 else if kind=49 then (σ.out.getLast?).bind fun v=>if getM σ.mem p=0 then some ⟨setM σ.mem p v,σ.inp,σ.out.dropLast⟩ else none
 else none
def basicT (env:List Ev) (kind:Nat) (n:Nd) (σ:Mt):Option Mt:=(placeT env σ.mem (kid n 0)).bind (basicP env kind n σ)
section
variable (env:List Ev) (n:Nd) (σ:Mt) (p:Nat × Nat)
theorem basicP_up {kind:Nat} (h:kind=40∨kind=41∨kind=42):basicP env kind n σ p=(evT (look env σ.mem) (kid n 1)).map fun y=>⟨setM σ.mem p (updR kind (getM σ.mem p) y),σ.inp,σ.out⟩:=if_pos h
theorem basicP_43:basicP env 43 n σ p=(placeT env σ.mem (kid n 1)).map fun q=>⟨setM (setM σ.mem p (getM σ.mem q)) q (getM σ.mem p),σ.inp,σ.out⟩:=rfl
theorem basicP_44:basicP env 44 n σ p=(findE env n.name).bind fun e=>(σ.mem[e.c]?).bind fun c=>if c.length<1000 then some ⟨setM (σ.mem.set e.c (c++[getM σ.mem p])) p 0,σ.inp,σ.out⟩ else none:=rfl
theorem basicP_45:basicP env 45 n σ p=(findE env n.name).bind fun e=>(σ.mem[e.c]?).bind fun c=>(c.getLast?).bind fun v=>if getM σ.mem p=0 then some ⟨setM (σ.mem.set e.c c.dropLast) p v,σ.inp,σ.out⟩ else none:=rfl
theorem basicP_46:basicP env 46 n σ p=(σ.inp.head?).bind fun v=>if getM σ.mem p=0 then some ⟨setM σ.mem p v,σ.inp.tail,σ.out⟩ else none:=rfl
theorem basicP_47:basicP env 47 n σ p=if σ.inp.length<4096 then some ⟨setM σ.mem p 0,getM σ.mem p::σ.inp,σ.out⟩ else none:=rfl
theorem basicP_48:basicP env 48 n σ p=if σ.out.length<4096 then some ⟨setM σ.mem p 0,σ.inp,σ.out++[getM σ.mem p]⟩ else none:=rfl
theorem basicP_49:basicP env 49 n σ p=(σ.out.getLast?).bind fun v=>if getM σ.mem p=0 then some ⟨setM σ.mem p v,σ.inp,σ.out.dropLast⟩ else none:=rfl
theorem basicT_at {env:List Ev} {n:Nd} {σ:Mt} {p:Nat × Nat} (h:placeT env σ.mem (kid n 0)=some p) (kind:Nat):basicT env kind n σ=basicP env kind n σ p:=by unfold basicT;rw [h];rfl
end
def invK (kind:Nat):Nat:=
 if kind=40 then 41 else if kind=41 then 40 else if kind=44 then 45 else if kind=45 then 44 else if kind=46 then 47 else if kind=47 then 46 else if kind=48 then 49 else if kind=49 then 48 else kind
inductive Tk where
 | st (n:Nd)
 | bl (l:List Nd)
 | hd (n:Nd)
 | ck (n:Nd)
def stepS (F:Nat) (σ:St) (f:St→Rs):Rs:=if σ.k<F then f ⟨σ.k+1,σ.m⟩ else .bad
def optS (o:Option Mt) (k:Nat):Rs:=match o with | some m=>.ok ⟨k,m⟩ | none=>.bad
theorem stepS_eq {F:Nat} {σ s:St} {f:St→Rs} (h:stepS F σ f=.ok s):σ.k<F∧f ⟨σ.k+1,σ.m⟩=.ok s:=by
 unfold stepS at h
 by_cases hk:σ.k<F
 ·rw [if_pos hk] at h;exact ⟨hk,h⟩
 ·rw [if_neg hk] at h;cases h
theorem optS_eq {o:Option Mt} {k:Nat} {s:St} (h:optS o k=.ok s):∃ m,o=some m∧s=⟨k,m⟩:=by
 cases o with
 | none=>cases h
 | some m=>cases h;exact ⟨m,rfl,rfl⟩
def testT (F:Nat) (env:List Ev) (n:Nd) (σ:St) (f:Bool→St→Rs):Rs:=
 stepS F σ fun σ1=>match evT (look env σ.m.mem) n with | some v=>f (decide (v≠0)) σ1 | none=>.bad
theorem testT_eq {F:Nat} {env:List Ev} {n:Nd} {σ s:St} {f:Bool→St→Rs} (h:testT F env n σ f=.ok s):∃ v,σ.k<F∧evT (look env σ.m.mem) n=some v∧f (decide (v≠0)) ⟨σ.k+1,σ.m⟩=.ok s:=by
 obtain ⟨h1,h2⟩:=stepS_eq h
 cases hv:evT (look env σ.m.mem) n with
 | none=>rw [hv] at h2;cases h2
 | some v=>rw [hv] at h2;exact ⟨v,h1,rfl,h2⟩
theorem testT_ok {F:Nat} {env:List Ev} {n:Nd} {σ:St} {f:Bool→St→Rs} {v:Int} (hk:σ.k<F) (hv:evT (look env σ.m.mem) n=some v):testT F env n σ f=f (decide (v≠0)) ⟨σ.k+1,σ.m⟩:=by
 unfold testT stepS
 rw [if_pos hk,hv]
def fstK (n:Nd) (back:Bool):Nd:=if back then kid n (n.kids.length - 1) else kid n 0
def lstK (n:Nd) (back:Bool):Nd:=if back then kid n 0 else kid n (n.kids.length - 1)
def ordK (back:Bool) (l:List Nd):List Nd:=if back then l.reverse else l
def procT (P:List Pc) (s:ByteArray):Option Pc:=P.find? fun p=>decide (p.name=s)
def enterT (env:List Ev):List Vd→List Nd→Option (List Ev)
 | [],[]=>some []
 | v::vs,a::al=>(findE env a.name).bind fun e=>if e.v.kind=v.kind∧e.v.len=v.len then (enterT env vs al).map fun r=>⟨v,e.c⟩::r else none
 | _,_=>none
def openT (env:List Ev) (n:Nd) (back:Bool) (σ:Mt):Option Mt:=
 (evT (look env σ.mem) (fstK n back)).bind fun v=>if (findE env n.name).isNone then some ⟨σ.mem++[[v]],σ.inp,σ.out⟩ else none
def closeT (env:List Ev) (n:Nd) (back:Bool) (m:Nat) (σ:Mt):Option Mt:=
 (evT (look env σ.mem) (lstK n back)).bind fun v=>if σ.mem[m]?=some [v] then some ⟨σ.mem.take m,σ.inp,σ.out⟩ else none
def openS (env:List Ev) (n:Nd) (σ:Mt):Option Mt:=if (findE env n.name).isNone then some ⟨σ.mem++[[]],σ.inp,σ.out⟩ else none
def closeS (m:Nat) (σ:Mt):Option Mt:=if σ.mem[m]?=some [] then some ⟨σ.mem.take m,σ.inp,σ.out⟩ else none
def intV (n:Nd):Vd:=⟨n.name,1,0⟩
def stkV (n:Nd):Vd:=⟨n.name,3,0⟩
def exB (P:List Pc) (F:Nat) (r:Tk→Nat→List Ev→Bool→St→Rs):Tk→Nat→List Ev→Bool→St→Rs
 | .bl [],_,_,_,σ=>.ok σ
 | .bl (x::l),dep,env,back,σ=>(r (.st x) dep env back σ).andThen fun σ1=>r (.bl l) dep env back σ1
 | .hd n,dep,env,back,σ=>(r (.bl (ordK back (kid n 1).kids)) dep env back σ).andThen fun σ1=>r (.ck n) dep env back σ1
 | .ck n,dep,env,back,σ=>testT F env (lstK n back) σ fun b σ1=>if b then .ok σ1 else
   (r (.bl (ordK back (kid n 2).kids)) dep env back σ1).andThen fun σ2=>testT F env (fstK n back) σ2 fun b2 σ3=>if b2 then .bad else r (.hd n) dep env back σ3
 | .st n,dep,env,back,σ=>
   if n.kind=52 then testT F env (fstK n back) σ fun b σ1=>
    (r (.bl (ordK back (kid n (if b then 1 else 2)).kids)) dep env back σ1).andThen fun σ2=>testT F env (lstK n back) σ2 fun b2 σ3=>if b2=b then .ok σ3 else .bad
   else if n.kind=53 then testT F env (fstK n back) σ fun b σ1=>if b then r (.hd n) dep env back σ1 else .bad
   else if n.kind=54 then stepS F σ fun σ0=>(optS (openT env n back σ.m) σ0.k).andThen fun σ1=>
    (r (.bl (ordK back (kid n 1).kids)) dep (env++[⟨intV n,σ.m.mem.length⟩]) back σ1).andThen fun σ2=>stepS F σ2 fun σ3=>optS (closeT (env++[⟨intV n,σ.m.mem.length⟩]) n back σ.m.mem.length σ2.m) σ3.k
   else if n.kind=55 then stepS F σ fun σ0=>(optS (openS env n σ.m) σ0.k).andThen fun σ1=>
    (r (.bl (ordK back (kid n 0).kids)) dep (env++[⟨stkV n,σ.m.mem.length⟩]) back σ1).andThen fun σ2=>stepS F σ2 fun σ3=>optS (closeS σ.m.mem.length σ2.m) σ3.k
   else if n.kind=50∨n.kind=51 then stepS F σ fun σ1=>match procT P n.name with
    | none=>.bad
    | some p=>match enterT env p.params n.kids with
      | none=>.bad
      | some env2=>if 100≤dep then .bad else
        (r (.bl (ordK (back != decide (n.kind=51)) p.body.kids)) (dep+1) env2 (back != decide (n.kind=51)) σ1).andThen fun σ2=>stepS F σ2 .ok
   else stepS F σ fun σ1=>optS (basicT env (if back then invK n.kind else n.kind) n σ.m) σ1.k
def ex (P:List Pc) (F:Nat):Nat→Tk→Nat→List Ev→Bool→St→Rs
 | 0,_,_,_,_,_=>.deep
 | d+1,t,dep,env,back,σ=>exB P F (ex P F d) t dep env back σ
theorem ex_succ (P:List Pc) (F d:Nat) (t:Tk) (dep:Nat) (env:List Ev) (back:Bool) (σ:St):ex P F (d+1) t dep env back σ=exB P F (ex P F d) t dep env back σ:=rfl
def exK (k:Nat):Nat:=if k=50 then 51 else if k=51 then 50 else invK k
def needK (k:Nat):Nat:=if k=2 then 1 else if k=3 then 2 else if k=4∨k=5∨k=44∨k=45 then 3 else 0
def basK (k:Nat):Bool:=decide (40≤k)&&decide (k≤49)
theorem sinv_40 (w:World):Calls Tryz.prog 138 #[.int .u8 40] w fun e w'=>e=.returned (.int .u8 41)∧w=w':=by
 go_enter Tryz.func138,Tryz.ntmps138
 go_wp2_with fail
 go_ret
 exact ⟨rfl,rfl⟩
theorem sinv_41 (w:World):Calls Tryz.prog 138 #[.int .u8 41] w fun e w'=>e=.returned (.int .u8 40)∧w=w':=by
 go_enter Tryz.func138,Tryz.ntmps138
 go_wp2_with fail
 go_ret
 exact ⟨rfl,rfl⟩
theorem sinv_44 (w:World):Calls Tryz.prog 138 #[.int .u8 44] w fun e w'=>e=.returned (.int .u8 45)∧w=w':=by
 go_enter Tryz.func138,Tryz.ntmps138
 go_wp2_with fail
 go_ret
 exact ⟨rfl,rfl⟩
theorem sinv_45 (w:World):Calls Tryz.prog 138 #[.int .u8 45] w fun e w'=>e=.returned (.int .u8 44)∧w=w':=by
 go_enter Tryz.func138,Tryz.ntmps138
 go_wp2_with fail
 go_ret
 exact ⟨rfl,rfl⟩
theorem sinv_46 (w:World):Calls Tryz.prog 138 #[.int .u8 46] w fun e w'=>e=.returned (.int .u8 47)∧w=w':=by
 go_enter Tryz.func138,Tryz.ntmps138
 go_wp2_with fail
 go_ret
 exact ⟨rfl,rfl⟩
theorem sinv_47 (w:World):Calls Tryz.prog 138 #[.int .u8 47] w fun e w'=>e=.returned (.int .u8 46)∧w=w':=by
 go_enter Tryz.func138,Tryz.ntmps138
 go_wp2_with fail
 go_ret
 exact ⟨rfl,rfl⟩
theorem sinv_48 (w:World):Calls Tryz.prog 138 #[.int .u8 48] w fun e w'=>e=.returned (.int .u8 49)∧w=w':=by
 go_enter Tryz.func138,Tryz.ntmps138
 go_wp2_with fail
 go_ret
 exact ⟨rfl,rfl⟩
theorem sinv_49 (w:World):Calls Tryz.prog 138 #[.int .u8 49] w fun e w'=>e=.returned (.int .u8 48)∧w=w':=by
 go_enter Tryz.func138,Tryz.ntmps138
 go_wp2_with fail
 go_ret
 exact ⟨rfl,rfl⟩
theorem sinv_else (k:Nat) (h:k≠40∧k≠41∧k≠44∧k≠45∧k≠46∧k≠47∧k≠48∧k≠49) (w:World):Calls Tryz.prog 138 #[.int .u8 k] w fun e w'=>e=.returned (.int .u8 k)∧w=w':=by
 have q40:((k:Int) == 40)=false:=beqF (b:=40) (by omega)
 have q41:((k:Int) == 41)=false:=beqF (b:=41) (by omega)
 have q44:((k:Int) == 44)=false:=beqF (b:=44) (by omega)
 have q45:((k:Int) == 45)=false:=beqF (b:=45) (by omega)
 have q46:((k:Int) == 46)=false:=beqF (b:=46) (by omega)
 have q47:((k:Int) == 47)=false:=beqF (b:=47) (by omega)
 have q48:((k:Int) == 48)=false:=beqF (b:=48) (by omega)
 have q49:((k:Int) == 49)=false:=beqF (b:=49) (by omega)
 clear h
 go_enter Tryz.func138,Tryz.ntmps138
 go_wp2_with fail
 go_ret
 exact ⟨rfl,rfl⟩
theorem sinv_any (k:Nat) (w:World):Calls Tryz.prog 138 #[.int .u8 k] w fun e w'=>e=.returned (.int .u8 (invK k))∧w=w':=by
 have hk:k=40∨k=41∨k=44∨k=45∨k=46∨k=47∨k=48∨k=49∨(k≠40∧k≠41∧k≠44∧k≠45∧k≠46∧k≠47∧k≠48∧k≠49):=by omega
 rcases hk with rfl | rfl | rfl | rfl | rfl | rfl | rfl | rfl | h
 ·exact sinv_40 w
 ·exact sinv_41 w
 ·exact sinv_44 w
 ·exact sinv_45 w
 ·exact sinv_46 w
 ·exact sinv_47 w
 ·exact sinv_48 w
 ·exact sinv_49 w
 ·have e:invK k=k:=by unfold invK;repeat (rw [if_neg (by omega)])
  rw [e]
  exact sinv_else k h w
theorem sexc_40 (w:World):Calls Tryz.prog 37 #[.int .u8 40] w fun e w'=>e=.returned (.int .u8 41)∧w=w':=by
 go_enter Tryz.func37,Tryz.ntmps37
 go_wp2_with fail
 go_ret
 exact ⟨rfl,rfl⟩
theorem sexc_41 (w:World):Calls Tryz.prog 37 #[.int .u8 41] w fun e w'=>e=.returned (.int .u8 40)∧w=w':=by
 go_enter Tryz.func37,Tryz.ntmps37
 go_wp2_with fail
 go_ret
 exact ⟨rfl,rfl⟩
theorem sexc_44 (w:World):Calls Tryz.prog 37 #[.int .u8 44] w fun e w'=>e=.returned (.int .u8 45)∧w=w':=by
 go_enter Tryz.func37,Tryz.ntmps37
 go_wp2_with fail
 go_ret
 exact ⟨rfl,rfl⟩
theorem sexc_45 (w:World):Calls Tryz.prog 37 #[.int .u8 45] w fun e w'=>e=.returned (.int .u8 44)∧w=w':=by
 go_enter Tryz.func37,Tryz.ntmps37
 go_wp2_with fail
 go_ret
 exact ⟨rfl,rfl⟩
theorem sexc_46 (w:World):Calls Tryz.prog 37 #[.int .u8 46] w fun e w'=>e=.returned (.int .u8 47)∧w=w':=by
 go_enter Tryz.func37,Tryz.ntmps37
 go_wp2_with fail
 go_ret
 exact ⟨rfl,rfl⟩
theorem sexc_47 (w:World):Calls Tryz.prog 37 #[.int .u8 47] w fun e w'=>e=.returned (.int .u8 46)∧w=w':=by
 go_enter Tryz.func37,Tryz.ntmps37
 go_wp2_with fail
 go_ret
 exact ⟨rfl,rfl⟩
theorem sexc_48 (w:World):Calls Tryz.prog 37 #[.int .u8 48] w fun e w'=>e=.returned (.int .u8 49)∧w=w':=by
 go_enter Tryz.func37,Tryz.ntmps37
 go_wp2_with fail
 go_ret
 exact ⟨rfl,rfl⟩
theorem sexc_49 (w:World):Calls Tryz.prog 37 #[.int .u8 49] w fun e w'=>e=.returned (.int .u8 48)∧w=w':=by
 go_enter Tryz.func37,Tryz.ntmps37
 go_wp2_with fail
 go_ret
 exact ⟨rfl,rfl⟩
theorem sexc_50 (w:World):Calls Tryz.prog 37 #[.int .u8 50] w fun e w'=>e=.returned (.int .u8 51)∧w=w':=by
 go_enter Tryz.func37,Tryz.ntmps37
 go_wp2_with fail
 go_ret
 exact ⟨rfl,rfl⟩
theorem sexc_51 (w:World):Calls Tryz.prog 37 #[.int .u8 51] w fun e w'=>e=.returned (.int .u8 50)∧w=w':=by
 go_enter Tryz.func37,Tryz.ntmps37
 go_wp2_with fail
 go_ret
 exact ⟨rfl,rfl⟩
theorem sexc_else (k:Nat) (h:k≠40∧k≠41∧k≠44∧k≠45∧k≠46∧k≠47∧k≠48∧k≠49∧k≠50∧k≠51) (w:World):Calls Tryz.prog 37 #[.int .u8 k] w fun e w'=>e=.returned (.int .u8 k)∧w=w':=by
 have q40:((k:Int) == 40)=false:=beqF (b:=40) (by omega)
 have q41:((k:Int) == 41)=false:=beqF (b:=41) (by omega)
 have q44:((k:Int) == 44)=false:=beqF (b:=44) (by omega)
 have q45:((k:Int) == 45)=false:=beqF (b:=45) (by omega)
 have q46:((k:Int) == 46)=false:=beqF (b:=46) (by omega)
 have q47:((k:Int) == 47)=false:=beqF (b:=47) (by omega)
 have q48:((k:Int) == 48)=false:=beqF (b:=48) (by omega)
 have q49:((k:Int) == 49)=false:=beqF (b:=49) (by omega)
 have q50:((k:Int) == 50)=false:=beqF (b:=50) (by omega)
 have q51:((k:Int) == 51)=false:=beqF (b:=51) (by omega)
 clear h
 go_enter Tryz.func37,Tryz.ntmps37
 go_wp2_with fail
 go_ret
 exact ⟨rfl,rfl⟩
theorem sexc_any (k:Nat) (w:World):Calls Tryz.prog 37 #[.int .u8 k] w fun e w'=>e=.returned (.int .u8 (exK k))∧w=w':=by
 have hk:k=40∨k=41∨k=44∨k=45∨k=46∨k=47∨k=48∨k=49∨k=50∨k=51∨(k≠40∧k≠41∧k≠44∧k≠45∧k≠46∧k≠47∧k≠48∧k≠49∧k≠50∧k≠51):=by omega
 rcases hk with rfl | rfl | rfl | rfl | rfl | rfl | rfl | rfl | rfl | rfl | h
 ·exact sexc_40 w
 ·exact sexc_41 w
 ·exact sexc_44 w
 ·exact sexc_45 w
 ·exact sexc_46 w
 ·exact sexc_47 w
 ·exact sexc_48 w
 ·exact sexc_49 w
 ·exact sexc_50 w
 ·exact sexc_51 w
 ·have e:exK k=k:=by unfold exK invK;repeat (rw [if_neg (by omega)])
  rw [e]
  exact sexc_else k h w
theorem need_2 (w:World):Calls Tryz.prog 153 #[.int .u8 2] w fun e w'=>e=.returned (.int .u8 1)∧w=w':=by
 go_enter Tryz.func153,Tryz.ntmps153
 go_wp2_with fail
 go_ret
 exact ⟨rfl,rfl⟩
theorem need_3 (w:World):Calls Tryz.prog 153 #[.int .u8 3] w fun e w'=>e=.returned (.int .u8 2)∧w=w':=by
 go_enter Tryz.func153,Tryz.ntmps153
 go_wp2_with fail
 go_ret
 exact ⟨rfl,rfl⟩
theorem need_4 (w:World):Calls Tryz.prog 153 #[.int .u8 4] w fun e w'=>e=.returned (.int .u8 3)∧w=w':=by
 go_enter Tryz.func153,Tryz.ntmps153
 go_wp2_with fail
 go_ret
 exact ⟨rfl,rfl⟩
theorem need_5 (w:World):Calls Tryz.prog 153 #[.int .u8 5] w fun e w'=>e=.returned (.int .u8 3)∧w=w':=by
 go_enter Tryz.func153,Tryz.ntmps153
 go_wp2_with fail
 go_ret
 exact ⟨rfl,rfl⟩
theorem need_44 (w:World):Calls Tryz.prog 153 #[.int .u8 44] w fun e w'=>e=.returned (.int .u8 3)∧w=w':=by
 go_enter Tryz.func153,Tryz.ntmps153
 go_wp2_with fail
 go_ret
 exact ⟨rfl,rfl⟩
theorem need_45 (w:World):Calls Tryz.prog 153 #[.int .u8 45] w fun e w'=>e=.returned (.int .u8 3)∧w=w':=by
 go_enter Tryz.func153,Tryz.ntmps153
 go_wp2_with fail
 go_ret
 exact ⟨rfl,rfl⟩
theorem need_else (k:Nat) (h:k≠2∧k≠3∧k≠4∧k≠5∧k≠44∧k≠45) (w:World):Calls Tryz.prog 153 #[.int .u8 k] w fun e w'=>e=.returned (.int .u8 0)∧w=w':=by
 have q2:((k:Int) == 2)=false:=beqF (b:=2) (by omega)
 have q3:((k:Int) == 3)=false:=beqF (b:=3) (by omega)
 have q4:((k:Int) == 4)=false:=beqF (b:=4) (by omega)
 have q5:((k:Int) == 5)=false:=beqF (b:=5) (by omega)
 have q44:((k:Int) == 44)=false:=beqF (b:=44) (by omega)
 have q45:((k:Int) == 45)=false:=beqF (b:=45) (by omega)
 clear h
 go_enter Tryz.func153,Tryz.ntmps153
 go_wp2_with fail
 go_ret
 exact ⟨rfl,rfl⟩
theorem need_any (k:Nat) (w:World):Calls Tryz.prog 153 #[.int .u8 k] w fun e w'=>e=.returned (.int .u8 (needK k))∧w=w':=by
 have hk:k=2∨k=3∨k=4∨k=5∨k=44∨k=45∨(k≠2∧k≠3∧k≠4∧k≠5∧k≠44∧k≠45):=by omega
 rcases hk with rfl | rfl | rfl | rfl | rfl | rfl | h
 ·exact need_2 w
 ·exact need_3 w
 ·exact need_4 w
 ·exact need_5 w
 ·exact need_44 w
 ·exact need_45 w
 ·have e:needK k=0:=by unfold needK;repeat (rw [if_neg (by omega)])
  rw [e]
  exact need_else k h w
theorem basic_40 (w:World):Calls Tryz.prog 139 #[.int .u8 40] w fun e w'=>e=.returned (.bool true)∧w=w':=by
 go_enter Tryz.func139,Tryz.ntmps139
 go_wp2_with fail
 go_ret
 exact ⟨rfl,rfl⟩
theorem basic_41 (w:World):Calls Tryz.prog 139 #[.int .u8 41] w fun e w'=>e=.returned (.bool true)∧w=w':=by
 go_enter Tryz.func139,Tryz.ntmps139
 go_wp2_with fail
 go_ret
 exact ⟨rfl,rfl⟩
theorem basic_42 (w:World):Calls Tryz.prog 139 #[.int .u8 42] w fun e w'=>e=.returned (.bool true)∧w=w':=by
 go_enter Tryz.func139,Tryz.ntmps139
 go_wp2_with fail
 go_ret
 exact ⟨rfl,rfl⟩
theorem basic_43 (w:World):Calls Tryz.prog 139 #[.int .u8 43] w fun e w'=>e=.returned (.bool true)∧w=w':=by
 go_enter Tryz.func139,Tryz.ntmps139
 go_wp2_with fail
 go_ret
 exact ⟨rfl,rfl⟩
theorem basic_44 (w:World):Calls Tryz.prog 139 #[.int .u8 44] w fun e w'=>e=.returned (.bool true)∧w=w':=by
 go_enter Tryz.func139,Tryz.ntmps139
 go_wp2_with fail
 go_ret
 exact ⟨rfl,rfl⟩
theorem basic_45 (w:World):Calls Tryz.prog 139 #[.int .u8 45] w fun e w'=>e=.returned (.bool true)∧w=w':=by
 go_enter Tryz.func139,Tryz.ntmps139
 go_wp2_with fail
 go_ret
 exact ⟨rfl,rfl⟩
theorem basic_46 (w:World):Calls Tryz.prog 139 #[.int .u8 46] w fun e w'=>e=.returned (.bool true)∧w=w':=by
 go_enter Tryz.func139,Tryz.ntmps139
 go_wp2_with fail
 go_ret
 exact ⟨rfl,rfl⟩
theorem basic_47 (w:World):Calls Tryz.prog 139 #[.int .u8 47] w fun e w'=>e=.returned (.bool true)∧w=w':=by
 go_enter Tryz.func139,Tryz.ntmps139
 go_wp2_with fail
 go_ret
 exact ⟨rfl,rfl⟩
theorem basic_48 (w:World):Calls Tryz.prog 139 #[.int .u8 48] w fun e w'=>e=.returned (.bool true)∧w=w':=by
 go_enter Tryz.func139,Tryz.ntmps139
 go_wp2_with fail
 go_ret
 exact ⟨rfl,rfl⟩
theorem basic_49 (w:World):Calls Tryz.prog 139 #[.int .u8 49] w fun e w'=>e=.returned (.bool true)∧w=w':=by
 go_enter Tryz.func139,Tryz.ntmps139
 go_wp2_with fail
 go_ret
 exact ⟨rfl,rfl⟩
theorem basic_else (k:Nat) (h:k≠40∧k≠41∧k≠42∧k≠43∧k≠44∧k≠45∧k≠46∧k≠47∧k≠48∧k≠49) (w:World):Calls Tryz.prog 139 #[.int .u8 k] w fun e w'=>e=.returned (.bool false)∧w=w':=by
 have q40:((k:Int) == 40)=false:=beqF (b:=40) (by omega)
 have q41:((k:Int) == 41)=false:=beqF (b:=41) (by omega)
 have q42:((k:Int) == 42)=false:=beqF (b:=42) (by omega)
 have q43:((k:Int) == 43)=false:=beqF (b:=43) (by omega)
 have q44:((k:Int) == 44)=false:=beqF (b:=44) (by omega)
 have q45:((k:Int) == 45)=false:=beqF (b:=45) (by omega)
 have q46:((k:Int) == 46)=false:=beqF (b:=46) (by omega)
 have q47:((k:Int) == 47)=false:=beqF (b:=47) (by omega)
 have q48:((k:Int) == 48)=false:=beqF (b:=48) (by omega)
 have q49:((k:Int) == 49)=false:=beqF (b:=49) (by omega)
 clear h
 go_enter Tryz.func139,Tryz.ntmps139
 go_wp2_with fail
 go_ret
 exact ⟨rfl,rfl⟩
theorem basic_any (k:Nat) (w:World):Calls Tryz.prog 139 #[.int .u8 k] w fun e w'=>e=.returned (.bool (basK k))∧w=w':=by
 have hk:k=40∨k=41∨k=42∨k=43∨k=44∨k=45∨k=46∨k=47∨k=48∨k=49∨(k≠40∧k≠41∧k≠42∧k≠43∧k≠44∧k≠45∧k≠46∧k≠47∧k≠48∧k≠49):=by omega
 rcases hk with rfl | rfl | rfl | rfl | rfl | rfl | rfl | rfl | rfl | rfl | h
 ·exact basic_40 w
 ·exact basic_41 w
 ·exact basic_42 w
 ·exact basic_43 w
 ·exact basic_44 w
 ·exact basic_45 w
 ·exact basic_46 w
 ·exact basic_47 w
 ·exact basic_48 w
 ·exact basic_49 w
 ·have e:basK k=false:=by
   unfold basK
   by_cases h1:40≤k
   ·rw [decide_eq_false (by omega:¬ k≤49),Bool.and_false]
   ·rw [decide_eq_false h1,Bool.false_and]
  rw [e]
  exact basic_else k h w
def OpP (o:Option Int) (w:World) (e:Ending) (w':World):Prop:=(match o with | some v=>e=.returned (.tuple #[.int .i64 v,.int .i64 0]) | none=>∃ a err,err≠0∧e=.returned (.tuple #[.int .i64 a,.int .i64 err]))∧w=w'
theorem unary_any (k:Nat) (hk:k=6∨k=7) (x:Int) (w:World):Calls Tryz.prog 191 #[.int .u8 k,.int .i64 x] w (OpP (unR k x) w):=by
 rcases hk with rfl | rfl
 ·go_enter Tryz.func191,Tryz.ntmps191
  go_wp2_with fail
  go_ret2
  exact ⟨rfl,rfl⟩
 ·have HN:=kp (fun (b:Bool)=>nba b w)
  go_enter Tryz.func191,Tryz.ntmps191
  go_wp2_with fail
  refine (HN.out _).mono ?_
  rintro e w1 ⟨rfl,rfl⟩
  go_wp2_with fail
  go_ret2
  exact ⟨rfl,rfl⟩
theorem update_any (k:Nat) (hk:k=40∨k=41∨k=42) (x y:Int) (w:World):Calls Tryz.prog 157 #[.int .u8 k,.int .i64 x,.int .i64 y] w (OpP (some (updR k x y)) w):=by
 rcases hk with rfl | rfl | rfl
 ·go_enter Tryz.func157,Tryz.ntmps157
  go_wp2_with fail
  go_ret2
  exact ⟨rfl,rfl⟩
 ·go_enter Tryz.func157,Tryz.ntmps157
  go_wp2_with fail
  go_ret2
  exact ⟨rfl,rfl⟩
 ·go_enter Tryz.func157,Tryz.ntmps157
  go_wp2_with fail
  go_ret2
  exact ⟨rfl,rfl⟩
end Go.Proofs.YtgbomnibedefoaaGreatDoor
