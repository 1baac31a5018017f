import Derived.Test.YtblcpnmnibcbbaaGreatDoorF2
set_option linter.unusedVariables false
set_option linter.unusedSimpArgs false
namespace Go.Proofs.YtblcpnmnibcbbaaGreatDoor
theorem wW:∀{l m:List Int},l.Perm m->l.Pairwise (·<=·)->m.Pairwise (·<=·)->l=m:=by
 intro l m h hl hm
 exact h.eq_of_pairwise (fun a b _ _ h1 h2=>Int.le_antisymm h1 h2) hl hm
def ti (l:List Int) (k:Nat):List Int:=(l.set (k-1) (l.getD k 0)).set k (l.getD (k-1) 0)
theorem vq {l:List Int} {k:Nat} (hk:0<k) (hl:k<l.length) (j:Nat):(ti l k).getD j 0=if j=k then l.getD (k-1) 0 else if j=k-1 then l.getD k 0 else l.getD j 0:=by
 unfold ti
 rw[ax,ax,List.length_set]
 by_cases h1:j=k
 ·rw[if_pos ⟨h1.symm,hl⟩,if_pos h1]
 ·rw[if_neg (fun h=>h1 h.1.symm),if_neg h1]
  by_cases h2:j=k-1
  ·rw[if_pos ⟨h2.symm,by omega⟩,if_pos h2]
  ·rw[if_neg (fun h=>h2 h.1.symm),if_neg h2]
structure qm (l:List Int) (i k:Nat):Prop where
 low:∀a b,a<b->b<=i->b≠k->a≠k->l.getD a 0<=l.getD b 0
 high:∀b,k<b->b<=i->l.getD k 0<=l.getD b 0
theorem qm.start {l:List Int} {i:Nat} (h:∀a b,a<b->b<i->l.getD a 0<=l.getD b 0):qm l i i:=
 ⟨fun a b h1 h2 h3 _=>h a b h1 (by omega),fun b h1 h2=>by omega⟩
theorem qm.step {l:List Int} {i k:Nat} (h:qm l i k) (hk:0<k) (hi:k<=i) (hl:i<l.length) (hg:l.getD k 0<l.getD (k-1) 0):qm (ti l k) i (k-1):=by
 have hget:=fun j=>vq (l:=l) hk (show k<l.length by omega) j
 refine⟨fun a b h1 h2 h3 h4=>?_,fun b h1 h2=>?_⟩
 ·rw[hget a,hget b]
  by_cases ea:a=k
  ·subst ea
   rw[if_pos rfl,if_neg (by omega),if_neg (by omega)]
   exact h.low (a-1) b (by omega) h2 (by omega) (by omega)
  ·rw[if_neg ea,if_neg h4]
   by_cases eb:b=k
   ·subst eb
    rw[if_pos rfl]
    by_cases e:a=b-1
    ·exact absurd e h4
    ·exact h.low a (b-1) (by omega) (by omega) (by omega) ea
   ·rw[if_neg eb,if_neg h3]
    exact h.low a b h1 h2 eb ea
 ·rw[hget (k-1),if_neg (by omega),if_pos rfl,hget b]
  by_cases eb:b=k
  ·subst eb;rw[if_pos rfl];omega
  ·rw[if_neg eb,if_neg (by omega)]
   exact h.high b (by omega) h2
def cT (l:List Int):List Int:=l.mergeSort fun x y=>decide (x<=y)
theorem fb (l:List Int):(cT l).Perm l:=List.mergeSort_perm _ _
theorem fy (l:List Int):(cT l).length=l.length:=(fb l).length_eq
theorem tj (l:List Int):(cT l).Pairwise (·<=·):=by
 have:=List.pairwise_mergeSort (le:=fun x y:Int=>decide (x<=y)) (fun a b c h1 h2=>by simp at*;omega) (fun a b=>by simp;omega) l
 exact this.imp (by simp)
theorem xY {l m:List Int} (h:m.Perm l) (hm:m.Pairwise (·<=·)):m=cT l:=wW (h.trans (fb l).symm) hm (tj l)
theorem r3 (l:List Int):cT (cT l)=cT l:=(xY (List.Perm.refl _) (tj l)).symm
def gm (l:List Int) (lo n:Nat):List Int:=l.take lo++(cT ((l.drop lo).take n)++l.drop (lo+n))
theorem i8 {l:List Int} {lo n:Nat} (h:lo+n<=l.length):(gm l lo n).length=l.length:=by
 simp only[gm,List.length_append,fy,List.length_take,List.length_drop];omega
end Go.Proofs.YtblcpnmnibcbbaaGreatDoor
