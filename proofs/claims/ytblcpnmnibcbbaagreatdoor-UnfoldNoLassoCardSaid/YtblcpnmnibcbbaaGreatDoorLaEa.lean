import Derived.Test.YtblcpnmnibcbbaaGreatDoorLaC
import Derived.Test.YtblcpnmnibcbbaaGreatDoorLaD
set_option linter.unusedVariables false
set_option linter.unusedSimpArgs false
namespace Go.Proofs.YtblcpnmnibcbbaaGreatDoor
set_option maxRecDepth 100000
set_option maxHeartbeats 16000000
section
variable {p:aq} {q:bO} {s:aB}
structure KY (p:aq) (q:bO) (s:aB) (l:List dy) (k:Nat) (y:mZ):Prop where
 se:oh p q s true y
 nr:∀o∈y.1,¬cS q o.c
 dn:∀j,j<k->(ce l j).src<0->¬cS q (ce l j).c->∃i,i<y.1.length/\(ce y.1 i).c=(ce l j).c
 le:y.1.length<=k
theorem KY.zero (l:List dy):KY p q s l 0 ([],fun _=>none):=⟨oh.nil,fun _ h=>(nomatch h),fun _ h=>absurd h (Nat.not_lt_zero _),Nat.le_refl _⟩
theorem KY.skip {l:List dy} {k:Nat} {y:mZ} (h:KY p q s l k y) (hs:¬((ce l k).src<0/\¬cS q (ce l k).c)):KY p q s l (k+1) y:=by
 refine⟨h.se,h.nr,fun j hj h1 h2=>?_,by have:=h.le;omega⟩
 by_cases e:j=k
 ·subst e;exact absurd ⟨h1,h2⟩ hs
 ·exact h.dn j (by omega) h1 h2
theorem KY.ori (S:jI p q s) {l:List dy} {k:Nat} {y:mZ} (h:KY p q s l k y) (hl:eJ p q s l) (hk:k<l.length) (h1:(ce l k).src<0):eJ p q s (y.1++[ce l k]):=by
 rcases hl k hk with ⟨e,hi⟩|⟨j,_,e,_⟩
 ·have:=h.se.og.ini hi (ce l k).st
  rw[<-e] at this
  exact this
 ·omega
theorem KY.step (S:jI p q s) {l:List dy} {k:Nat} {y:mZ} (h:KY p q s l k y) (hl:eJ p q s l) (hk:k<l.length) (h1:(ce l k).src<0) (h2:¬cS q (ce l k).c):
  KY p q s l (k+1) (de p true y.1 y.2 (ce l k),kJ p true y.1 y.2 (ce l k)):=by
 have ho:=h.ori S hl hk h1
 obtain⟨⟨m,em⟩,hm,j0,_,hj0,ec⟩:=De S h.se ho
 have el:y.1.length<=(de p true y.1 y.2 (ce l k)).length:=by rw[em,List.length_append];omega
 refine⟨(h.se.met S ho).2,fun o hz=>?_,fun j hj a b=>?_,?_⟩
 ·rcases hm o hz with hz|rfl
  ·exact h.nr o hz
  ·exact h2
 ·by_cases e:j=k
  ·subst e;exact⟨j0,hj0,ec⟩
  ·obtain⟨i,hi,e⟩:=h.dn j (by omega) a b
   refine⟨i,Nat.lt_of_lt_of_le hi el,?_⟩
   rw[<-e]
   show(ce (de p true y.1 y.2 (ce l k)) i).c=_
   rw[em]
   exact congrArg dy.c (dJ hi)
 ·have:=vN p true y.1 y.2 (ce l k)
  have:=h.le
  show(de p true y.1 y.2 (ce l k)).length<=k+1
  omega
theorem KY.fin (S:jI p q s) {l:List dy} {y:mZ} (h:KY p q s l l.length y) {m:List dy} (hp:l=(inF p true (qY p q s)).1++m):XpI p q s y []:=by
 refine⟨h.se,h.nr,fun c hc hn=>?_,Nat.zero_le _,fun k hk=>absurd hk (Nat.not_lt_zero _),fun k hk=>absurd hk (Nat.not_lt_zero _)⟩
 have e:=(oh.inF (ex:=true) S (qY p q s) fun c hc=>(C4 S).1 hc).2
 have hmem:=je (ia p true) ((qY p q s).map fun c=>(⟨c,-1,bm⟩:dy)) [] ⟨c,-1,bm⟩ (List.mem_map.2 ⟨c,(C4 S).2 hc,rfl⟩)
 rw[<-e] at hmem
 obtain⟨o,ho,hoc⟩:=List.mem_map.1 hmem
 have hoc:o.c=c:=hoc
 have ho2:o∈(qY p q s).map fun c=>(⟨c,-1,bm⟩:dy):=by
  rw[e] at ho
  rcases kK _ _ ho with k|k
  ·cases k
  ·exact k
 obtain⟨c',_,rfl⟩:=List.mem_map.1 ho2
 have hoc:c'=c:=hoc
 subst hoc
 obtain⟨j,hj,ej⟩:=bL hZ (show(⟨c',-1,bm⟩:dy)∈l by rw[hp];exact List.mem_append_left _ ho)
 have ej:ce l j=⟨c',-1,bm⟩:=ej
 obtain⟨i,hi,e2⟩:=h.dn j hj (by rw[ej];show(-1:Int)<0;decide) (by rw[ej];exact hn)
 exact⟨i,hi,by rw[e2,ej]⟩
theorem KZ (S:jI p q s) {y:mZ} (h:oh p q s true y) {L:List ap} (hC:tp p q s true L):y.1.length<=L.length:=by
 have h1:(tE y.1).Nodup:=h.sr.nodup
 have h2:∀c∈tE y.1,c∈L:=by
  intro c hc
  obtain⟨i,hi,rfl⟩:=bL aA hc
  rw[mT] at hi
  rw[yi]
  obtain⟨_,n,d,hd,e⟩:=h.og.rp (ex:=true) S hi
  have:=hC.all S hd
  rw[e] at this
  obtain⟨z,hz,ez⟩:=List.mem_map.1 this
  have ez:z=(ce y.1 i).c:=ez
  rw[<-ez];exact hz
 have:=vB h1 h2
 rw[mT] at this
 exact this
end
def K6 (l:List GL):bj:=.row 119 Kb Kt l
def K3 (l:List (List GL)):bj:=.row 180 [] Kq l
def K5 (p:aq) (s:aB) (u v:AV):List AV:=[.str p.name, .int .i64 p.topology, .sl t0 gU p.states, .sl t0 gU p.messages, .sl t0 gU p.values, .int .i64 p.fault, .sl nq lD p.resilience, .sl 0 aD p.initial, .sl 0 aD p.leader, .sl au iY p.rules, .int .i64 s.n, .int .i64 s.t, .int .i64 s.f, .bool true,u,v]
def K7 (p:aq) (s:aB) (y:mZ) (es:List (List GL)):List (Nat×bj):=(11, .box 107 [.ptr 7001 0])::(66, .box 110 [.ptr 7001 0, .row 300 es.length 1, .nilsl, .nilsl])::(300,K3 es)::qD p s true y.1 y.2
structure K8 (p:aq) (q:bO) (s:aB) (y:mZ) (es:List (List GL)) (t:TS):Prop where
 x:XpI p q s y es
 l:es.length=y.1.length
 ok:Kj es
 t:KR es t
def K9 (p:aq) (s:aB) (l:List dy) (es:List (List GL)) (t:TS):List AV:=[.pd (K5 p s .top (.sl hZ Cu l)), .sl [] Kq es, .sl 0 aD (vU es.length t.pt), .sl [] eG (t.inn.map JN)]
end Go.Proofs.YtblcpnmnibcbbaaGreatDoor
