import Derived.Test.YtgbomnibedefoaaGreatDoorQa25
set_option maxRecDepth 100000
set_option maxHeartbeats 8000000
namespace Go.Proofs.YtgbomnibedefoaaGreatDoor
open Go.ChangeShapes Go.WideShapes Go.ChangeAt Go.RowKit Go.Sort
def putRo (R:Nat→Ro) (o:Option Nat) (r:Ro):Nat→Ro:=fun k=>if o=some k then r else R k
theorem prs {R:Nat→Ro} {o:Option Nat} {r:Ro} {k:Nat} (h:o=some k):putRo R o r k=r:=if_pos h
theorem pro {R:Nat→Ro} {o:Option Nat} {r:Ro} {k:Nat} (h:o≠some k):putRo R o r k=R k:=if_neg h
theorem putRo_old {R:Nat→Ro} {o:Option Nat} {r:Ro} {n:Nat} (h:∀ g,o=some g→n≤g∨R g=r):∀ k,k<n→putRo R o r k=R k:=fun k hk=>by
 by_cases e:o=some k
 ·rw [prs e]
  rcases h k e with q | q
  ·omega
  ·exact q.symm
 ·exact pro e
theorem putRo_ge {B n n':Nat} {R:Nat→Ro} {o:Option Nat} {r:Ro} (h:∀ k,R k≠(0,0)→B≤k∧k<n) (hn:n≤n') (ho:∀ g,o=some g→B≤g∧g<n'):∀ k,putRo R o r k≠(0,0)→B≤k∧k<n':=fun k hk=>by
 by_cases e:o=some k
 ·exact ho k e
 ·rw [pro e] at hk
  have:=h k hk;omega
theorem StO.cellUpd {B:Nat} {w w':World} {G:Gs} {σ:Mt} (h:StO B w G σ) {m:Nat→Prop} (hf:Fr w w' m) {c:Nat} (hm:∀ k,k<w.heap.size→m k→G.R k=(8,c)∨G.R k=(9,c)) {R':Nat→Ro} (hR:∀ k,k<w.heap.size→R' k=G.R k) (hge:∀ k,R' k≠(0,0)→B≤k∧k<w'.heap.size)
  {b:Nat} {v':Value} {l':List Int} (hb:G.cb[c]?=some b) (hbx:BoxR w' R' (8,c) b #[v']) (hrw:RowR w' R' (9,c) B 3 1 v' l'.length (l'.map (.int .i64))):StO B w' { G with it:=G.it.set c v',R:=R' } { σ with mem:=σ.mem.set c l' }:=by
 have hc:c<G.cb.length:=(List.getElem?_eq_some_iff.1 hb).1
 have hci:c<G.it.length:=by rw [h.lit,← h.lcb];exact hc
 have hcm:c<σ.mem.length:=by rw [← h.lcb];exact hc
 have key:∀ (r:Ro),r≠(8,c)→r≠(9,c)→∀ k,k<w.heap.size→G.R k=r→¬ m k:=fun r h0 h1 k hk e hmk=>by
  rcases hm k hk hmk with q | q
  ·exact h0 (e.symm.trans q)
  ·exact h1 (e.symm.trans q)
 obtain ⟨f0,h1,h2⟩:=h.sto
 refine ⟨⟨f0,h1,h2.fr hf (key _ (by simp) (by simp)) hR⟩,h.cal.fr hf (key _ (by simp) (by simp)) hR,h.tap.fr hf (key _ (by simp) (by simp)) hR,h.inn.fr hf (key _ (by simp) (by simp)) hR,h.out.fr hf (key _ (by simp) (by simp)) hR,?_,?_,by simp [h.lcb],by simp [h.lit],?_,?_,fun i f e hi he=>by simpa using h.env i f e hi he,hge⟩
 ·intro i b' hb'
  by_cases e:i=c
  ·subst e
   rw [hb] at hb'
   cases hb'
   exact ⟨v',List.getElem?_set_self hci,hbx⟩
  ·obtain ⟨v,e1,hv⟩:=h.cel i b' hb'
   exact ⟨v,by rw [List.getElem?_set_ne (Ne.symm e)];exact e1,hv.fr hf (key _ (by simpa using e) (by simp)) hR⟩
 ·intro i c' hc'
  by_cases e:i=c
  ·subst e
   rw [List.getElem?_set_self hcm] at hc'
   cases hc'
   exact ⟨v',List.getElem?_set_self hci,hrw⟩
  ·rw [List.getElem?_set_ne (Ne.symm e)] at hc'
   obtain ⟨v,e1,hv⟩:=h.itm i c' hc'
   exact ⟨v,by rw [List.getElem?_set_ne (Ne.symm e)];exact e1,hv.fr hf (key _ (by simp) (by simpa using e)) hR⟩
 ·exact fun i f hi=>(h.frv i f hi).fr hf (key _ (by simp) (by simp)) hR
 ·exact fun i f hi=>(h.frc i f hi).fr hf (key _ (by simp) (by simp)) hR
theorem StO.inpUpd {B:Nat} {w w':World} {G:Gs} {σ:Mt} (h:StO B w G σ) {m:Nat→Prop} (hf:Fr w w' m) (hm:∀ k,k<w.heap.size→m k→G.R k=(2,0)∨G.R k=(3,0)) {R':Nat→Ro} (hR:∀ k,k<w.heap.size→R' k=G.R k) (hge:∀ k,R' k≠(0,0)→B≤k∧k<w'.heap.size)
  {v':Value} {l':List Int} (hbx:BoxR w' R' (2,0) G.TB #[v',G.ov]) (hrw:RowR w' R' (3,0) B 3 1 v' l'.length (l'.map (.int .i64))):StO B w' { G with iv:=v',R:=R' } { σ with inp:=l' }:=by
 have key:∀ (r:Ro),r≠(2,0)→r≠(3,0)→∀ k,k<w.heap.size→G.R k=r→¬ m k:=fun r h0 h1 k hk e hmk=>by
  rcases hm k hk hmk with q | q
  ·exact h0 (e.symm.trans q)
  ·exact h1 (e.symm.trans q)
 obtain ⟨f0,h1,h2⟩:=h.sto
 refine ⟨⟨f0,h1,h2.fr hf (key _ (by simp) (by simp)) hR⟩,h.cal.fr hf (key _ (by simp) (by simp)) hR,hbx,hrw,h.out.fr hf (key _ (by simp) (by simp)) hR,?_,?_,h.lcb,h.lit,?_,?_,h.env,hge⟩
 ·intro i b' hb'
  obtain ⟨v,e1,hv⟩:=h.cel i b' hb'
  exact ⟨v,e1,hv.fr hf (key _ (by simp) (by simp)) hR⟩
 ·intro i c' hc'
  obtain ⟨v,e1,hv⟩:=h.itm i c' hc'
  exact ⟨v,e1,hv.fr hf (key _ (by simp) (by simp)) hR⟩
 ·exact fun i f hi=>(h.frv i f hi).fr hf (key _ (by simp) (by simp)) hR
 ·exact fun i f hi=>(h.frc i f hi).fr hf (key _ (by simp) (by simp)) hR
theorem StO.outUpd {B:Nat} {w w':World} {G:Gs} {σ:Mt} (h:StO B w G σ) {m:Nat→Prop} (hf:Fr w w' m) (hm:∀ k,k<w.heap.size→m k→G.R k=(2,0)∨G.R k=(4,0)) {R':Nat→Ro} (hR:∀ k,k<w.heap.size→R' k=G.R k) (hge:∀ k,R' k≠(0,0)→B≤k∧k<w'.heap.size)
  {v':Value} {l':List Int} (hbx:BoxR w' R' (2,0) G.TB #[G.iv,v']) (hrw:RowR w' R' (4,0) B 3 1 v' l'.length (l'.map (.int .i64))):StO B w' { G with ov:=v',R:=R' } { σ with out:=l' }:=by
 have key:∀ (r:Ro),r≠(2,0)→r≠(4,0)→∀ k,k<w.heap.size→G.R k=r→¬ m k:=fun r h0 h1 k hk e hmk=>by
  rcases hm k hk hmk with q | q
  ·exact h0 (e.symm.trans q)
  ·exact h1 (e.symm.trans q)
 obtain ⟨f0,h1,h2⟩:=h.sto
 refine ⟨⟨f0,h1,h2.fr hf (key _ (by simp) (by simp)) hR⟩,h.cal.fr hf (key _ (by simp) (by simp)) hR,hbx,h.inn.fr hf (key _ (by simp) (by simp)) hR,hrw,?_,?_,h.lcb,h.lit,?_,?_,h.env,hge⟩
 ·intro i b' hb'
  obtain ⟨v,e1,hv⟩:=h.cel i b' hb'
  exact ⟨v,e1,hv.fr hf (key _ (by simp) (by simp)) hR⟩
 ·intro i c' hc'
  obtain ⟨v,e1,hv⟩:=h.itm i c' hc'
  exact ⟨v,e1,hv.fr hf (key _ (by simp) (by simp)) hR⟩
 ·exact fun i f hi=>(h.frv i f hi).fr hf (key _ (by simp) (by simp)) hR
 ·exact fun i f hi=>(h.frc i f hi).fr hf (key _ (by simp) (by simp)) hR
theorem StO.newCell {B:Nat} {w w':World} {G:Gs} {σ:Mt} (h:StO B w G σ) (hf:Below w.heap.size w w') {R':Nat→Ro} (hR:∀ k,k<w.heap.size→R' k=G.R k) (hge:∀ k,R' k≠(0,0)→B≤k∧k<w'.heap.size)
  {b:Nat} {v':Value} {l':List Int} (hbx:BoxR w' R' (8,G.cb.length) b #[v']) (hrw:RowR w' R' (9,G.cb.length) B 3 1 v' l'.length (l'.map (.int .i64))):StO B w' { G with cb:=G.cb++[b],it:=G.it++[v'],R:=R' } { σ with mem:=σ.mem++[l'] }:=by
 have hf:=Fr.of_below hf fun _=>False
 have key:∀ (r:Ro),∀ k,k<w.heap.size→G.R k=r→¬ False:=fun _ _ _ _=>id
 obtain ⟨f0,h1,h2⟩:=h.sto
 refine ⟨⟨f0,h1,h2.fr hf (key _) hR⟩,h.cal.fr hf (key _) hR,h.tap.fr hf (key _) hR,h.inn.fr hf (key _) hR,h.out.fr hf (key _) hR,?_,?_,by simp [h.lcb],by simp [h.lit],?_,?_,fun i f e hi he=>by have:=h.env i f e hi he;simp;omega,hge⟩
 ·intro i b' hb'
  by_cases e:i<G.cb.length
  ·rw [List.getElem?_append_left e] at hb'
   obtain ⟨v,e1,hv⟩:=h.cel i b' hb'
   exact ⟨v,by rw [List.getElem?_append_left (by rw [h.lit,← h.lcb];exact e)];exact e1,hv.fr hf (key _) hR⟩
  ·have hlt:=(List.getElem?_eq_some_iff.1 hb').1
   simp at hlt
   obtain rfl:i=G.cb.length:=by omega
   rw [List.getElem?_append_right (Nat.le_refl _),Nat.sub_self] at hb'
   cases hb'
   exact ⟨v',by rw [h.lcb,← h.lit,List.getElem?_append_right (Nat.le_refl _),Nat.sub_self];rfl,hbx⟩
 ·intro i c' hc'
  by_cases e:i<σ.mem.length
  ·rw [List.getElem?_append_left e] at hc'
   obtain ⟨v,e1,hv⟩:=h.itm i c' hc'
   exact ⟨v,by rw [List.getElem?_append_left (by rw [h.lit];exact e)];exact e1,hv.fr hf (key _) hR⟩
  ·have hlt:=(List.getElem?_eq_some_iff.1 hc').1
   simp at hlt
   obtain rfl:i=σ.mem.length:=by omega
   rw [List.getElem?_append_right (Nat.le_refl _),Nat.sub_self] at hc'
   cases hc'
   exact ⟨v',by rw [← h.lit,List.getElem?_append_right (Nat.le_refl _),Nat.sub_self];rfl,by rw [← h.lcb];exact hrw⟩
 ·exact fun i f hi=>(h.frv i f hi).fr hf (key _) hR
 ·intro i f hi
  have e:ptrs (G.cb++[b]) f.env=ptrs G.cb f.env:=by
   unfold ptrs
   refine List.map_congr_left fun e he=>?_
   rw [List.getElem?_append_left (by rw [h.lcb];exact h.env i f e hi he)]
  show RowR w' R' (7,i) B _ 1 f.cV f.env.length (ptrs (G.cb++[b]) f.env)
  rw [e]
  exact (h.frc i f hi).fr hf (key _) hR
theorem StO.dropCell {B:Nat} {w:World} {G:Gs} {σ:Mt} (h:StO B w G σ) {n:Nat} (hn:n≤σ.mem.length) (he:∀ (i:Nat) (f:Fm) (e:Ev),G.fs[i]?=some f→e∈f.env→e.c<n):StO B w { G with cb:=G.cb.take n,it:=G.it.take n } { σ with mem:=σ.mem.take n }:=by
 refine ⟨h.sto,h.cal,h.tap,h.inn,h.out,?_,?_,by simp [h.lcb],by simp [h.lit],h.frv,?_,fun i f e hi hm=>by have:=he i f e hi hm;simp;omega,h.ge⟩
 ·intro i b' hb'
  rw [List.getElem?_take] at hb'
  split at hb'
  ·rename_i hlt
   obtain ⟨v,e1,hv⟩:=h.cel i b' hb'
   exact ⟨v,by rw [List.getElem?_take,if_pos hlt];exact e1,hv⟩
  ·cases hb'
 ·intro i c' hc'
  rw [List.getElem?_take] at hc'
  split at hc'
  ·rename_i hlt
   obtain ⟨v,e1,hv⟩:=h.itm i c' hc'
   exact ⟨v,by rw [List.getElem?_take,if_pos hlt];exact e1,hv⟩
  ·cases hc'
 ·intro i f hi
  have e:ptrs (G.cb.take n) f.env=ptrs G.cb f.env:=by
   unfold ptrs
   refine List.map_congr_left fun e hm=>?_
   rw [List.getElem?_take,if_pos (he i f e hi hm)]
  show RowR w G.R (7,i) B _ 1 f.cV f.env.length (ptrs (G.cb.take n) f.env)
  rw [e]
  exact h.frc i f hi
end Go.Proofs.YtgbomnibedefoaaGreatDoor
