import Derived.Test.YtokjgegkhlkopaaGreatDoorMG
set_option linter.unusedVariables false
set_option linter.unusedSimpArgs false
namespace Go.Proofs.YtokjgegkhlkopaaGreatDoor
set_option maxRecDepth 100000
set_option maxHeartbeats 16000000
theorem vU.at_ {l:List ap} {o:List Int} (h:vU l o) {j:Nat} (hj:j<o.length):0<=o.getD j 0/\o.getD j 0<l.length:=by
 have e:o.getD j 0=o[j]:=by rw[gD,gL hj];rfl
 rw[e]
 exact h.rng _ (List.getElem_mem hj)
def F0 (o:List Int) (i:Nat):List Int:=(List.range (o.length+1)).map fun j=>if j<=i then(o++[0]).getD j 0 else o.getD (j-1) 0
theorem gH (o:List Int) (i:Nat):(F0 o i).length=o.length+1:=by simp[F0]
theorem oo (o:List Int) (i:Nat) {j:Nat} (h:j<o.length+1):(F0 o i).getD j 0=if j<=i then(o++[0]).getD j 0 else o.getD (j-1) 0:=by
 unfold F0
 rw[gD,List.getElem?_map,List.getElem?_range h]
 rfl
theorem sv {l m:List Int} (h:l.length=m.length) (hj:∀j,j<l.length->l.getD j 0=m.getD j 0):l=m:=by
 apply List.ext_getElem h
 intro j h1 h2
 have:=hj j h1
 rw[gD,gD,gL h1,gL h2] at this
 exact this
theorem uu (l:List Int) (i:Nat) (x:Int) (j:Nat) (hi:i<l.length):(l.set i x).getD j 0=if j=i then x else l.getD j 0:=by
 rw[gD,List.getElem?_set]
 by_cases h:i=j
 ·subst h;rw[if_pos rfl,if_pos hi,if_pos rfl];rfl
 ·rw[if_neg h,if_neg (fun e=>h e.symm),gD]
theorem CY (o:List Int):F0 o o.length=o++[0]:=by
 refine sv (by rw[gH];simp) fun j hj=>?_
 rw[gH] at hj
 rw[oo o _ hj,if_pos (by omega)]
theorem KY {o:List Int} {i:Nat} (h:i+1<=o.length):(F0 o (i+1)).set (i+1) ((F0 o (i+1)).getD i 0)=F0 o i:=by
 refine sv (by rw[List.length_set,gH,gH]) fun j hj=>?_
 rw[List.length_set,gH] at hj
 rw[uu _ _ _ _ (by rw[gH];omega),oo o _ hj,oo o _ hj,oo o _ (by omega)]
 by_cases h1:j=i+1
 ·subst h1
  rw[if_pos rfl,if_pos (by omega),if_neg (by omega),gD,List.getElem?_append_left (by omega),gD]
  rfl
 ·rw[if_neg h1]
  by_cases h2:j<=i
  ·rw[if_pos (by omega),if_pos h2]
  ·rw[if_neg (by omega),if_neg h2]
theorem Ij {o:List Int} {a:Nat} (x:Int) (h:a<=o.length):(F0 o a).set a x=sc o a x:=by
 refine sv (by rw[List.length_set,gH,yc x h]) fun j hj=>?_
 rw[List.length_set,gH] at hj
 rw[uu _ _ _ _ (by rw[gH];omega),oo o _ hj,FF x h]
 by_cases h1:j=a
 ·subst h1
  rw[if_pos rfl,if_neg (by omega),if_pos rfl]
 ·rw[if_neg h1]
  by_cases h2:j<=a
  ·rw[if_pos h2,if_pos (by omega),gD,List.getElem?_append_left (by omega),gD]
  ·rw[if_neg h2,if_neg (by omega),if_neg h1]
noncomputable def pP (l:List ap) (c:ap):List ap:=lN (fun d:ap=>d) l c
theorem vZ {l:List ap} {c:ap} (h:c∈l):pP l c=l:=dS _ (by rw[List.map_id'];exact h)
theorem zW {l:List ap} {c:ap} (h:c∉l):pP l c=l++[c]:=fo _ (by rw[List.map_id'];exact h)
end Go.Proofs.YtokjgegkhlkopaaGreatDoor
