import Derived.Test.YtekmminpfhacpaaGreatDoorGA
import Derived.Test.YtekmminpfhacpaaGreatDoorY1
set_option linter.unusedVariables false
set_option linter.unusedSimpArgs false
namespace Go.Proofs.YtekmminpfhacpaaGreatDoor
section
set_option maxRecDepth 100000
set_option maxHeartbeats 16000000
theorem ah.nilA {f:FuncId} {R:AV->Prop} (h:∀b c,ah Tryz.prog f [.val (.slice b 0 c)] R):ah Tryz.prog f [.sl (0:Int) al []] R:=by
 simp only[dM] at*
 refine⟨(h none 0).1,fun S F vs w hG hS hF hd hv=>?_⟩
 obtain⟨v,vs',rfl,hr,hn⟩:=hv.cons_inv
 cases hr with
 |sl _ _ _ base cap sz vals hcap ho hsz hb hnn hvv=>exact(h base cap).2 S F _ w hG hS hF hd (ir.cons (.val _) hn)
theorem MH (l:List Int) (hl:l.length<=1000):ah Tryz.prog 39 [.sl 0 al l] (fun u=>u= .sl 0 al l):=by
 by_cases h0:l=[]
 ·subst h0
  refine ah.nilA fun b c=>?_
  cases b with
  |none=>
   refine ah.sub (R:=fun u=>u= .nilsl) ?_ (by rintro _ rfl;exact⟨_,rfl,aa,rfl⟩)
   refine ah.intro ab ac Tryz.func39 rfl (by decide) ?_;(conv=>whnf)
   conv=>whnf
   exact⟨rfl,rfl⟩
  |some ad=>
   refine ah.intro ab ac Tryz.func39 rfl (by decide) ?_;(conv=>whnf)
   conv=>whnf
   refine bp 0 al [] rfl ?_
   conv=>whnf
   refine bq [] rfl (by simp only[List.length_nil];omega) ?_
   conv=>whnf
   exact⟨rfl,rfl⟩
 ·exact ol l (List.length_pos_iff.2 h0) hl
end
section
open Go.ChangeShapes Go.WideShapes Go.ChangeAt Go.RowKit
end
section
set_option maxRecDepth 100000
set_option maxHeartbeats 16000000
set_option maxHeartbeats 4000000
section
variable {p:av} {q:aP} {sch:List Int} {number:Int} {a:Co}
end
end
section
set_option maxRecDepth 100000
set_option maxHeartbeats 4000000
theorem getD_set_ne {l:List Int} {k j:Nat} (d:Int) (h:k≠j):(l.set k d).getD j 0=l.getD j 0:=by
 rw[gD,gD,List.getElem?_set_ne h]
theorem rq {l:List Int} {k:Nat} (d:Int) (h:k<l.length):(l.set k d).getD k 0=d:=by
 rw[gD,List.getElem?_set_self h,Option.getD_some]
theorem zF:∀(ms l:List Int) (j:Nat),ms.Nodup->(∀m∈ms,0<=m/\m<l.length)->(eh l ms).getD j 0=l.getD j 0+if(j:Int)∈ms then 1 else 0
 |[],l,j,_,_=>by simp[eh]
 |m::ms,l,j,hn,h=>by
  obtain⟨hm,hn⟩:=List.nodup_cons.1 hn
  have h0:=h m List.mem_cons_self
  rw[eh,zF ms _ j hn (fun x hx=>by rw[List.length_set];exact h x (List.mem_cons_of_mem _ hx))]
  by_cases e:m.toNat=j
  ·subst e
   have e2:((m.toNat:Nat):Int)=m:=Int.toNat_of_nonneg h0.1
   rw[rq _ (by omega),e2,if_neg hm,if_pos List.mem_cons_self]
   omega
  ·rw[getD_set_ne _ e]
   have e2:(j:Int)≠m:=fun h2=>e (by omega)
   simp[e2]
theorem EN {c:ct} {r:cf} {x:jk} (hk:r.kind=1) (hi:0<=x.process/\x.process<c.states.length):(ub c r x).states=c.states.set x.process.toNat r.dst:=
 (OM (by simp) fun j hj=>by
  rw[yW]
  unfold OK
  by_cases e:x.process.toNat=j
  ·rw[if_pos ⟨e,by omega⟩,if_pos (by omega)]
  ·rw[if_neg (fun h=>e h.1),if_neg (by omega),if_neg (by omega),if_neg (by omega)]).symm
theorem BJ {l:List Int} {n:Int} (h:ca l n=0):l.Pairwise (·<·):=by
 obtain⟨_,h2⟩:=pn h
 have key:∀(k i:Nat),i<k->k<l.length->l.getD i 0<l.getD k 0:=by
  intro k
  induction k with
  |zero=>intro i hi;omega
  |succ k ih=>
   intro i hi hk
   have h1:=h2 (k+1) hk (by omega)
   rw[Nat.add_sub_cancel] at h1
   by_cases e:i=k
   ·subst e;exact h1
   ·have:=ih i (by omega) (by omega);omega
 rw[List.pairwise_iff_getElem]
 intro i j hi hj hij
 have:=key j i hij hj
 rwa [ap 0 hi,ap 0 hj] at this
theorem EO {p:av} {q:aP} {sch:List Int} {x:Int}:(⟨3,0,x⟩:Vb)∈az p q sch↔x∈dJ p q:=by
 unfold az CI
 simp only[List.mem_append]
 constructor
 ·rintro((h|h|h)|h)
  ·simp only[List.mem_cons,List.not_mem_nil,or_false] at h
   rcases h with h|h|h<;>(have:=congrArg Vb.kind h;dsimp only at this;omega)
  ·obtain⟨y,hy,e⟩:=List.mem_map.1 h
   have:=congrArg Vb.idx e
   dsimp only at this
   subst this
   exact hy
  ·split at h
   ·obtain⟨y,hy,e⟩:=List.mem_map.1 h
    have:=congrArg Vb.kind e;dsimp only at this;omega
   ·cases h
  ·obtain⟨j,_,h⟩:=List.mem_flatMap.1 h
   obtain⟨r,_,h⟩:=iC h
   have:=(i8 h).1
   dsimp only at this;omega
 ·intro h
  exact .inl (.inr (.inl (List.mem_map.2 ⟨x,h,rfl⟩)))
theorem Hp {p:av} {q:aP} {sch:List Int} {x:Int}:(⟨4,0,x⟩:Vb)∈az p q sch↔jZ p/\x∈p.initial:=by
 unfold az CI
 simp only[List.mem_append]
 constructor
 ·rintro((h|h|h)|h)
  ·simp only[List.mem_cons,List.not_mem_nil,or_false] at h
   rcases h with h|h|h<;>(have:=congrArg Vb.kind h;dsimp only at this;omega)
  ·obtain⟨y,hy,e⟩:=List.mem_map.1 h
   have:=congrArg Vb.kind e;dsimp only at this;omega
  ·split at h
   ·rename_i hw
    obtain⟨y,hy,e⟩:=List.mem_map.1 h
    have:=congrArg Vb.idx e
    dsimp only at this
    subst this
    exact⟨hw,hy⟩
   ·cases h
  ·obtain⟨j,_,h⟩:=List.mem_flatMap.1 h
   obtain⟨r,_,h⟩:=iC h
   have:=(i8 h).1
   dsimp only at this;omega
 ·rintro⟨hw,h⟩
  exact .inl (.inr (.inr (by rw[if_pos hw];exact List.mem_map.2 ⟨x,h,rfl⟩)))
section
variable (p:av) (q:aP) (sch:List Int) (x:List Int)
end
end
end Go.Proofs.YtekmminpfhacpaaGreatDoor
