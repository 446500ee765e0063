import Derived.Shelf.Strconv.Atoi
import Derived.Shelf.Slices.Delete
import Derived.Shelf.Spec.SlicesInsertGrow
import Derived.Shelf.Spec.SlicesInsert
import Derived.Test.YtgbomnibedefoaaGreatDoorProg
set_option maxRecDepth 100000
set_option maxHeartbeats 8000000
namespace Go.Proofs.YtgbomnibedefoaaGreatDoor
open Go.Shelf
def Tryz.lays172_ren:Go.Shelf.Ren:=⟨fun | 172=>142 | 244=>160 | 245=>161 | 247=>176 | 279=>177 | 280=>178 | 281=>179 | 282=>180 | 287=>195 | 316=>196 | 171=>198 | 205=>197 | 321=>205 | 322=>206 | 243=>207 | 246=>211 | 283=>214 | 284=>215 | 285=>216 | 286=>217 | 129=>220 | 317=>219 | 318=>221 | 319=>222 | 320=>223 | 337=>224 | 338=>225 | n=>n,fun | 9=>9 | 3=>3 | 75=>184 | 76=>185 | 4=>4 | 5=>5 | 167=>210 | 37=>125 | 0=>0 | 85=>211 | 2=>2 | 168=>213 | 53=>226 | 175=>227 | 46=>229 | 210=>232 | 127=>240 | 145=>243 | 143=>241 | 21=>21 | 171=>246 | 173=>249 | 212=>253 | 51=>254 | 20=>20 | 213=>255 | 232=>259 | 233=>260 | 80=>163 | n=>n,fun | 15=>1 | 16=>2 | 17=>4 | 18=>5 | 19=>6 | n=>n⟩
theorem Tryz.lays172:Go.Proofs.Lays.n172 Tryz.prog Tryz.lays172_ren:={
 mixed:=by kernel_rfl
 f129:=Tryz.func220.trans (congrArg some (by kernel_rfl))
 f171:=Tryz.func198.trans (congrArg some (by kernel_rfl))
 f172:=Tryz.func142.trans (congrArg some (by kernel_rfl))
 f205:=Tryz.func197.trans (congrArg some (by kernel_rfl))
 f243:=Tryz.func207.trans (congrArg some (by kernel_rfl))
 f244:=Tryz.func160.trans (congrArg some (by kernel_rfl))
 f245:=Tryz.func161.trans (congrArg some (by kernel_rfl))
 f246:=Tryz.func211.trans (congrArg some (by kernel_rfl))
 f247:=Tryz.func176.trans (congrArg some (by kernel_rfl))
 f279:=Tryz.func177.trans (congrArg some (by kernel_rfl))
 f280:=Tryz.func178.trans (congrArg some (by kernel_rfl))
 f281:=Tryz.func179.trans (congrArg some (by kernel_rfl))
 f282:=Tryz.func180.trans (congrArg some (by kernel_rfl))
 f283:=Tryz.func214.trans (congrArg some (by kernel_rfl))
 f284:=Tryz.func215.trans (congrArg some (by kernel_rfl))
 f285:=Tryz.func216.trans (congrArg some (by kernel_rfl))
 f286:=Tryz.func217.trans (congrArg some (by kernel_rfl))
 f287:=Tryz.func195.trans (congrArg some (by kernel_rfl))
 f316:=Tryz.func196.trans (congrArg some (by kernel_rfl))
 f317:=Tryz.func219.trans (congrArg some (by kernel_rfl))
 f318:=Tryz.func221.trans (congrArg some (by kernel_rfl))
 f319:=Tryz.func222.trans (congrArg some (by kernel_rfl))
 f320:=Tryz.func223.trans (congrArg some (by kernel_rfl))
 f321:=Tryz.func205.trans (congrArg some (by kernel_rfl))
 f322:=Tryz.func206.trans (congrArg some (by kernel_rfl))
 f337:=Tryz.func224.trans (congrArg some (by kernel_rfl))
 f338:=Tryz.func225.trans (congrArg some (by kernel_rfl))
 t0:=Tryz.underlying0
 a0:=Tryz.isAgg0
 z0:=Tryz.sizeOf0
 v0:=Tryz.zeroValue0
 t2:=Tryz.underlying2
 a2:=Tryz.isAgg2
 z2:=Tryz.sizeOf2
 v2:=Tryz.zeroValue2
 t3:=Tryz.underlying3
 a3:=Tryz.isAgg3
 z3:=Tryz.sizeOf3
 v3:=Tryz.zeroValue3
 t4:=Tryz.underlying4
 a4:=Tryz.isAgg4
 z4:=Tryz.sizeOf4
 v4:=Tryz.zeroValue4
 t5:=Tryz.underlying5
 a5:=Tryz.isAgg5
 z5:=Tryz.sizeOf5
 v5:=Tryz.zeroValue5
 t9:=Tryz.underlying9
 a9:=Tryz.isAgg9
 z9:=Tryz.sizeOf9
 v9:=Tryz.zeroValue9
 t20:=Tryz.underlying20
 a20:=Tryz.isAgg20
 z20:=Tryz.sizeOf20
 v20:=Tryz.zeroValue20
 t21:=Tryz.underlying21
 a21:=Tryz.isAgg21
 z21:=Tryz.sizeOf21
 v21:=Tryz.zeroValue21
 t37:=Tryz.underlying125
 a37:=Tryz.isAgg125
 z37:=Tryz.sizeOf125
 v37:=Tryz.zeroValue125
 t46:=Tryz.underlying229
 a46:=Tryz.isAgg229
 z46:=Tryz.sizeOf229
 v46:=Tryz.zeroValue229
 t51:=Tryz.underlying254
 a51:=Tryz.isAgg254
 z51:=Tryz.sizeOf254
 v51:=Tryz.zeroValue254
 t53:=Tryz.underlying226
 a53:=Tryz.isAgg226
 z53:=Tryz.sizeOf226
 v53:=Tryz.zeroValue226
 t75:=Tryz.underlying184
 a75:=Tryz.isAgg184
 z75:=Tryz.sizeOf184
 v75:=Tryz.zeroValue184
 t76:=Tryz.underlying185
 a76:=Tryz.isAgg185
 z76:=Tryz.sizeOf185
 v76:=Tryz.zeroValue185
 t85:=Tryz.underlying211
 a85:=Tryz.isAgg211
 z85:=Tryz.sizeOf211
 v85:=Tryz.zeroValue211
 t127:=Tryz.underlying240
 a127:=Tryz.isAgg240
 z127:=Tryz.sizeOf240
 v127:=Tryz.zeroValue240
 t143:=Tryz.underlying241
 a143:=Tryz.isAgg241
 z143:=Tryz.sizeOf241
 v143:=Tryz.zeroValue241
 t145:=Tryz.underlying243
 a145:=Tryz.isAgg243
 z145:=Tryz.sizeOf243
 v145:=Tryz.zeroValue243
 t167:=Tryz.underlying210
 a167:=Tryz.isAgg210
 z167:=Tryz.sizeOf210
 v167:=Tryz.zeroValue210
 t168:=Tryz.underlying213
 a168:=Tryz.isAgg213
 z168:=Tryz.sizeOf213
 v168:=Tryz.zeroValue213
 t171:=Tryz.underlying246
 a171:=Tryz.isAgg246
 z171:=Tryz.sizeOf246
 v171:=Tryz.zeroValue246
 t173:=Tryz.underlying249
 a173:=Tryz.isAgg249
 z173:=Tryz.sizeOf249
 v173:=Tryz.zeroValue249
 t175:=Tryz.underlying227
 a175:=Tryz.isAgg227
 z175:=Tryz.sizeOf227
 v175:=Tryz.zeroValue227
 t210:=Tryz.underlying232
 a210:=Tryz.isAgg232
 z210:=Tryz.sizeOf232
 v210:=Tryz.zeroValue232
 t212:=Tryz.underlying253
 a212:=Tryz.isAgg253
 z212:=Tryz.sizeOf253
 v212:=Tryz.zeroValue253
 t213:=Tryz.underlying255
 a213:=Tryz.isAgg255
 z213:=Tryz.sizeOf255
 t232:=Tryz.underlying259
 a232:=Tryz.isAgg259
 z232:=Tryz.sizeOf259
 v232:=Tryz.zeroValue259
 t233:=Tryz.underlying260
 a233:=Tryz.isAgg260
 z233:=Tryz.sizeOf260
 v233:=Tryz.zeroValue260
 g15:=by kernel_rfl
 g16:=by kernel_rfl
 g17:=by kernel_rfl
 g18:=by kernel_rfl
 g19:=by kernel_rfl }
open Go.RowKit in
theorem Tryz.strconv_Atoi (s:ByteArray) (n:Int) (hl:s.size≤18) (h:Lib.atoi s.data.toList=some n) (w:World) :
  Calls Tryz.prog 142 #[.string s] w fun e w'=>e=.returned (.tuple #[.int .i64 n,.nilIface])∧∃ t,w'=Lib.bytesWorld w 5 t:=Any.strconv_Atoi Tryz.lays172 s n hl h w
def Tryz.laysNm223_ren:Go.Shelf.Ren:=⟨fun | 23=>203 | n=>n,fun | 22=>30 | 3=>3 | 4=>4 | 0=>0 | n=>n,fun | n=>n⟩
theorem Tryz.laysNm223:Go.Proofs.Lays2.n23 Tryz.prog Tryz.laysNm223_ren:={
 mixed:=by kernel_rfl
 f23:=Tryz.func203.trans (congrArg some (by kernel_rfl))
 t0:=Tryz.underlying0
 a0:=Tryz.isAgg0
 z0:=Tryz.sizeOf0
 v0:=Tryz.zeroValue0
 t3:=Tryz.underlying3
 a3:=Tryz.isAgg3
 z3:=Tryz.sizeOf3
 v3:=Tryz.zeroValue3
 t4:=Tryz.underlying4
 a4:=Tryz.isAgg4
 z4:=Tryz.sizeOf4
 v4:=Tryz.zeroValue4
 t22:=Tryz.underlying30
 a22:=Tryz.isAgg30
 z22:=Tryz.sizeOf30
 v22:=Tryz.zeroValue30
 i3:=by kernel_rfl }
open Go.RowKit Go.Lib Go.Sort in
theorem Tryz.slices_Delete_int (blk off cap i j:Nat) (zs:List Int) (w:World) (hH:Holds (Value.int .i64) w blk off zs.toArray) (hcap:zs.length≤cap) (hm:cap≤9223372036854775807) (hij:i≤j) (hj:j≤zs.length) :
  Calls Tryz.prog 203 #[.slice (some ⟨blk,off,none⟩) zs.length cap,.int .i64 i,.int .i64 j] w fun e w'=>e=.returned (.slice (some ⟨blk,off,none⟩) (zs.length - (j - i)) cap)∧∃ q,w'=putRow (Value.int .i64) (Sort.ahead w q) blk off (zs.take i++zs.drop j++List.replicate (j - i) 0).toArray:=Any.slices_Delete_int Tryz.laysNm223 blk off cap i j zs w hH hcap hm hij hj
def Tryz.laysNm221_ren:Go.Shelf.Ren:=⟨fun | 21=>204 | 27=>209 | 28=>210 | 35=>213 | 39=>218 | n=>n,fun | 22=>30 | 3=>3 | 4=>4 | 0=>0 | n=>n,fun | n=>n⟩
theorem Tryz.laysNm221:Go.Proofs.Lays2.n21 Tryz.prog Tryz.laysNm221_ren:={
 mixed:=by kernel_rfl
 f21:=Tryz.func204.trans (congrArg some (by kernel_rfl))
 f27:=Tryz.func209.trans (congrArg some (by kernel_rfl))
 f28:=Tryz.func210.trans (congrArg some (by kernel_rfl))
 f35:=Tryz.func213.trans (congrArg some (by kernel_rfl))
 f39:=Tryz.func218.trans (congrArg some (by kernel_rfl))
 t0:=Tryz.underlying0
 a0:=Tryz.isAgg0
 z0:=Tryz.sizeOf0
 v0:=Tryz.zeroValue0
 t3:=Tryz.underlying3
 a3:=Tryz.isAgg3
 z3:=Tryz.sizeOf3
 v3:=Tryz.zeroValue3
 t4:=Tryz.underlying4
 a4:=Tryz.isAgg4
 z4:=Tryz.sizeOf4
 v4:=Tryz.zeroValue4
 t22:=Tryz.underlying30
 a22:=Tryz.isAgg30
 z22:=Tryz.sizeOf30
 v22:=Tryz.zeroValue30
 i3:=by kernel_rfl }
open Go.RowKit Go.Lib Go.Sort in
theorem Tryz.slices_Insert_int_shift (b off n c i vb voff m vc:Nat) (cs vs:List Value) (w:World) (hi:i<n) (hm:0<m) (hroom:n+m≤c) (hc63:c≤9223372036854775807) (hvb:vb≠b)
  (hcl:cs.length=n) (hvl:vs.length=m)
  (hcs:∀ j v,cs[j]?=some v→w.cell? ⟨b,off+j,none⟩=some v) (hsp:∀ j,j<n+m→(w.cell? ⟨b,off+j,none⟩).isSome=true) (hfz:∀ j,j<n+m→w.frozen? ⟨b,off+j,none⟩=false)
  (hvs:∀ j v,vs[j]?=some v→w.cell? ⟨vb,voff+j,none⟩=some v) (h1c:∀ v∈cs,v.oneCell'=true) (h1v:∀ v∈vs,v.oneCell'=true)
  (tA tB:TypeId) (kA kB:Nat) (hsa:w.shape? vb=some (tA,kA)) (hsb:w.shape? b=some (tB,kB)) (hkB:kB≠0) (hfa:w.frozen? ⟨vb,voff,none⟩=false) (hfe:w.frozen? ⟨vb,kA,none⟩=false) :
  Calls Tryz.prog 204 #[.slice (some ⟨b,off,none⟩) n c,.int .i64 i,.slice (some ⟨vb,voff,none⟩) m vc] w fun e w'=>
   e=.returned (.slice (some ⟨b,off,none⟩) (n+m) c)∧w'=(w.drew.setCells b (off+(i+m)) (cs.drop i)).setCells b (off+i) vs:=Any2.slices_Insert_int_shift Tryz.laysNm221 b off n c i vb voff m vc cs vs w hi hm hroom hc63 hvb hcl hvl hcs hsp hfz hvs h1c h1v tA tB kA kB hsa hsb hkB hfa hfe
open Go.RowKit Go.Lib Go.Sort in
theorem Tryz.slices_Insert_int_end_room (b off n c vb voff m vc:Nat) (vs:List Value) (w:World) (hm:0<m) (hroom:n+m≤c) (hc63:c≤9223372036854775807)
  (hvl:vs.length=m) (hsp:∀ j,j<m→(w.cell? ⟨b,off+n+j,none⟩).isSome=true) (hfz:∀ j,j<m→w.frozen? ⟨b,off+n+j,none⟩=false)
  (hvs:∀ j v,vs[j]?=some v→w.cell? ⟨vb,voff+j,none⟩=some v) (h1v:∀ v∈vs,v.oneCell'=true) :
  Calls Tryz.prog 204 #[.slice (some ⟨b,off,none⟩) n c,.int .i64 n,.slice (some ⟨vb,voff,none⟩) m vc] w fun e w'=>
   e=.returned (.slice (some ⟨b,off,none⟩) (n+m) c)∧w'=w.setCells b (off+n) vs:=Any2.slices_Insert_int_end_room Tryz.laysNm221 b off n c vb voff m vc vs w hm hroom hc63 hvl hsp hfz hvs h1v
open Go.RowKit Go.Lib Go.Sort in
theorem Tryz.slices_Insert_int_end_grow (base:Option Addr) (n c vb voff m vc:Nat) (cs vs:List Value) (w:World) (hm:0<m) (hnc:n≤c) (hroom:c<n+m) (hbig:(n+m)*8≤140737488355328)
  (hcl:cs.length=n) (hvl:vs.length=m) (hnil:base=none→n=0)
  (hcs:∀ a,base=some a→∀ j v,cs[j]?=some v→w.cell? (a.add j)=some v)
  (hvs:∀ j v,vs[j]?=some v→w.cell? ⟨vb,voff+j,none⟩=some v) (h1v:∀ v∈vs,v.oneCell'=true) :
  Calls Tryz.prog 204 #[.slice base n c,.int .i64 n,.slice (some ⟨vb,voff,none⟩) m vc] w fun e w'=>
   e=.returned (.slice (some ⟨w.heap.size,0,none⟩) (n+m) (grownCap w (n+m) c 3))∧
   w'=w.drew.alloc (.cells ((cs++vs).toArray++Builtin.zeroCells (Value.int .i64 0).cells (grownCap w (n+m) c 3 - (n+m))) 3):=Any2.slices_Insert_int_end_grow Tryz.laysNm221 base n c vb voff m vc cs vs w hm hnc hroom hbig hcl hvl hnil hcs hvs h1v
open Go.RowKit Go.Lib Go.Sort in
theorem Tryz.slices_Insert_int_grow (b off n c i vb voff m vc:Nat) (cs vs:List Value) (w:World) (hi:i<n) (hm:0<m) (hnc:n≤c) (hroom:c<n+m) (hbig:(n+m)*8≤140737488355328)
  (hcl:cs.length=n) (hvl:vs.length=m)
  (hcs:∀ j v,cs[j]?=some v→w.cell? ⟨b,off+j,none⟩=some v)
  (hvs:∀ j v,vs[j]?=some v→w.cell? ⟨vb,voff+j,none⟩=some v) (h1c:∀ v∈cs,v.oneCell'=true) (h1v:∀ v∈vs,v.oneCell'=true) :
  Calls Tryz.prog 204 #[.slice (some ⟨b,off,none⟩) n c,.int .i64 i,.slice (some ⟨vb,voff,none⟩) m vc] w fun e w'=>
   e=.returned (.slice (some ⟨w.heap.size,0,none⟩) (n+m) (grownCap w (n+m) c 3))∧
   w'=(((w.alloc (.cells ((cs.take i).toArray++Builtin.zeroCells (Value.int .i64 0).cells (n+m - i)++Builtin.zeroCells (Value.int .i64 0).cells (grownCap w (n+m) c 3 - (n+m))) 3)).drew.setCells w.heap.size i vs).drew).setCells w.heap.size (i+m) (cs.drop i):=Any2.slices_Insert_int_grow Tryz.laysNm221 b off n c i vb voff m vc cs vs w hi hm hnc hroom hbig hcl hvl hcs hvs h1c h1v
end Go.Proofs.YtgbomnibedefoaaGreatDoor
