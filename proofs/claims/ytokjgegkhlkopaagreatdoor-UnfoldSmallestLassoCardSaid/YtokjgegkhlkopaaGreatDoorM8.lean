import Derived.Test.YtokjgegkhlkopaaGreatDoorMN
set_option linter.unusedVariables false
set_option linter.unusedSimpArgs false
namespace Go.Proofs.YtokjgegkhlkopaaGreatDoor
set_option maxRecDepth 100000
set_option maxHeartbeats 16000000
theorem pB {p:ao} (h:bD p=0):0<p.initial.length/\c7 p.initial p.states.length=0/\c7 p.leader p.states.length=0:=by
 unfold bD at h
 have ht:xq p=0:=by
  (repeat' split at h)<;>first|exact h|omega
 have hz:=cm ht
 have h1:=hz (if p.initial.length=0 then 1 else 0) (by simp)
 refine⟨?_,hz _ (by simp),hz _ (by simp)⟩
 split at h1<;>omega
theorem pC {p:ao} {q:bn} (h:cq p q=0):bD p=0:=by
 unfold cq at h
 by_cases h1:bD p≠0
 ·rw[if_pos h1] at h;omega
 ·omega
theorem xL {p:ao} {q:bn} (h:cq p q=0):c7 q.start p.states.length=0/\∀j,j<q.start.length->q.start.getD j 0∈p.initial:=by
 unfold cq at h
 by_cases h1:bD p≠0
 ·rw[if_pos h1] at h;omega
 rw[if_neg h1] at h
 by_cases h2:¬de q.name
 ·rw[if_pos h2] at h;omega
 rw[if_neg h2] at h
 split at h
 ·omega
 split at h
 ·omega
 by_cases h4:c7 q.start p.states.length≠0
 ·rw[if_pos h4] at h;omega
 rw[if_neg h4] at h
 by_cases h5:¬(∀j,j<q.start.length->q.start.getD j 0∈p.initial)
 ·rw[if_pos h5] at h;omega
 ·exact⟨by omega,Classical.not_not.1 h5⟩
def HH (p:ao) (q:bn):List Int:=if 0<q.start.length then q.start else p.initial
def cK (p:ao) (q:bn) (s:az) (i:Nat):List Int:=if i=0/\0<p.leader.length then p.leader else if(i:Int)<s.n-s.f then HH p q else p.initial
theorem rQ (l:List Int) (h0:0<l.length) (hl:l.length<=1000):ae Tryz.prog 178 [.sl 0 aD l] (fun u=>u= .sl 0 aD l):=by
 refine ae.intro ab ac Tryz.func178 rfl (by decide) ?_;(conv=>whnf)
 refine d7 (fun e=>by rw[e] at h0;simp at h0) ?_
 conv=>whnf
 refine cA 0 aD [] rfl ?_
 conv=>whnf
 refine cB _ rfl (by simp only[List.length_nil];omega) ?_
 conv=>whnf
 exact⟨rfl,rfl⟩
theorem HI (p:ao) (q:bn) (hp:¬b9 p) (hq:¬eU q) (hv:cq p q=0):ae Tryz.prog 150 [.agg (bf p), .agg (eh q)] (fun u=>u= .tup [.sl 0 aD (HH p q), .int .i64 0]):=by
 have hle:=aF hp
 have hlq:=kE hq
 have hi:=pB (pC hv)
 have he:=HH.eq_1 p q
 refine ae.intro ab ac Tryz.func150 rfl (by decide) ?_;(conv=>whnf)
 refine am rfl ?_
 conv=>whnf
 refine am rfl ?_
 conv=>whnf
 (refine oP (o1 p q (iO hp) (rG hq)) ?_;conv=>whnf)
 refine fI ?_
 conv=>whnf
 refine ah ?_ ?_<;>(intro h1;conv=>whnf)
 ·rw[if_pos (by omega)] at he
  (refine oP (rQ q.start (by omega) (by omega)) ?_;conv=>whnf)
  exact⟨he▸rfl,rfl⟩
 ·rw[if_neg (by omega)] at he
  (refine oP (rQ p.initial (by omega) (by omega)) ?_;conv=>whnf)
  exact⟨he▸rfl,rfl⟩
theorem vH (p:ao) (q:bn) (hp:¬b9 p) (hq:¬eU q):ae Tryz.prog 93 [.agg (bf p), .agg (eh q)] (fun u=>u= .sl 0 aD (HH p q)):=by
 have hle:=aF hp
 have hlq:=kE hq
 have he:=HH.eq_1 p q
 refine ae.intro ab ac Tryz.func93 rfl (by decide) ?_;(conv=>whnf)
 refine am rfl ?_
 conv=>whnf
 refine am rfl ?_
 conv=>whnf
 refine ah ?_ ?_<;>(intro h1;conv=>whnf)
 ·rw[if_pos (by omega)] at he
  (refine oP (iv q.start (by omega)) ?_;conv=>whnf)
  exact⟨he▸rfl,rfl⟩
 ·rw[if_neg (by omega)] at he
  (refine oP (iv p.initial (by omega)) ?_;conv=>whnf)
  exact⟨he▸rfl,rfl⟩
theorem lG (p:ao) (q:bn) (s:az) (i:Nat) (hp:¬b9 p) (hq:¬eU q) (hs:(1<=s.n/\s.n<=8)/\(0<=s.f/\s.f<=s.n)):ae Tryz.prog 50 [.agg (bf p), .agg (eh q), .agg (b7 s), .int .i64 (i:Int)] (fun u=>u= .sl 0 aD (cK p q s i)):=by
 have he:=cK.eq_1 p q s i
 refine ae.intro ab ac Tryz.func50 rfl (by decide) ?_;(conv=>whnf)
 refine am rfl ?_
 conv=>whnf
 refine am rfl ?_
 conv=>whnf
 refine am rfl ?_
 conv=>whnf
 by_cases h1:i=0/\0<p.leader.length
 ·rw[if_pos h1] at he
  repeat' ((first|refine nI ?_|refine aI ?_|refine tI ?_|refine fI ?_|fail);conv=>whnf)
  exact⟨he▸rfl,rfl⟩
 rw[if_neg h1] at he
 by_cases h2:(i:Int)<s.n-s.f
 ·rw[if_pos h2] at he
  by_cases h3:i=0
  all_goals
   repeat' ((first|refine nI ?_|refine aI ?_|refine tI ?_|refine fI ?_|fail);conv=>whnf)
   (refine oP (vH p q hp hq) ?_;conv=>whnf)
   exact⟨he▸rfl,rfl⟩
 ·rw[if_neg h2] at he
  by_cases h3:i=0
  all_goals
   repeat' ((first|refine nI ?_|refine aI ?_|refine tI ?_|refine fI ?_|fail);conv=>whnf)
   exact⟨he▸rfl,rfl⟩
noncomputable def dB (p:ao) (q:bn) (s:az):Int:=if cq p q≠0 then cq p q else cT p s
theorem CG (p:ao) (q:bn) (s:az) (hp:¬b9 p) (hq:¬eU q):ae Tryz.prog 18 [.agg (bf p), .agg (eh q), .agg (b7 s)] (fun u=>u= .int .i64 (dB p q s)):=by
 have he:=dB.eq_1 p q s
 refine ae.intro ab ac Tryz.func18 rfl (by decide) ?_;(conv=>whnf)
 refine am rfl ?_
 conv=>whnf
 refine am rfl ?_
 conv=>whnf
 refine am rfl ?_
 conv=>whnf
 (refine oP (o1 p q (iO hp) (rG hq)) ?_;conv=>whnf)
 refine ah ?_ ?_<;>(intro h1;conv=>whnf)
 ·rw[if_pos h1] at he;exact⟨he▸rfl,rfl⟩
 ·rw[if_neg h1] at he
  (refine oP (zD p s hp) ?_;conv=>whnf)
  exact⟨he▸rfl,rfl⟩
theorem rR (p:ao) (q:bn) (s:az) (hp:¬b9 p) (hq:¬eU q):ae Tryz.prog 20 [.agg (bf p), .agg (eh q), .agg (b7 s)] (fun u=>u= .int .i64 (dB p q s)):=by
 have he:=dB.eq_1 p q s
 refine ae.intro ab ac Tryz.func20 rfl (by decide) ?_;(conv=>whnf)
 refine am rfl ?_
 conv=>whnf
 refine am rfl ?_
 conv=>whnf
 refine am rfl ?_
 conv=>whnf
 (refine oP (ub p q (iO hp) (rG hq)) ?_;conv=>whnf)
 refine ah ?_ ?_<;>(intro h1;conv=>whnf)
 ·rw[if_pos h1] at he;exact⟨he▸rfl,rfl⟩
 ·rw[if_neg h1] at he
  (refine oP (EN p s hp) ?_;conv=>whnf)
  exact⟨he▸rfl,rfl⟩
def OJ:Option (List Int)->AV
 |none=>.nilsl
 |some l=>.sl 0 aD l
def kT (o:Option (List Int)):List AV:=[OJ o]
def CH (l:List (Option (List Int))):aX:=.row 24 none kT l
def fg (out:List (List Int)) (c:List Int):List (List Int):=out.flatMap fun h=>c.map fun x=>h++[x]
def ar (ch:Nat->List Int):Nat->List (List Int)
 |0=>[[]]
 |k+1=>fg (ar ch k) (ch k)
theorem xM {l:List (List Int)} {k:Nat} (h:k<l.length):l.getD k []=l[k]:=by
 rw[gD,gL h];rfl
theorem HJ {l:List Int} {k:Nat} (h:k<l.length):l.getD k 0=l[k]:=by
 rw[gD,gL h];rfl
theorem o4 {out:List (List Int)} {c:List Int} {a:Nat} (h:a<out.length):fg (out.take (a+1)) c=fg (out.take a) c++c.map fun x=>out.getD a []++[x]:=by
 unfold fg
 rw[List.take_succ_eq_append_getElem h,List.flatMap_append,xM h]
 simp
theorem o5 {c:List Int} {h:List Int} {b:Nat} (hb:b<c.length):(c.take (b+1)).map (fun x=>h++[x])=(c.take b).map (fun x=>h++[x])++[h++[c.getD b 0]]:=by
 rw[List.take_succ_eq_append_getElem hb,List.map_append,HJ hb]
 rfl
theorem nZ:∀(out:List (List Int)) (c:List Int),(fg out c).length=out.length*c.length
 |[],c=>by simp[fg]
 |h::out,c=>by
  have ih:=nZ out c
  unfold fg at ih⊢
  rw[List.flatMap_cons,List.length_append,ih,List.length_map,List.length_cons,Nat.add_mul,Nat.one_mul,Nat.add_comm]
theorem rS {out:List (List Int)} {c:List Int} {a b m:Nat} (ha:a<out.length) (hb:b<c.length) (hm:(fg out c).length<=m) {h:List Int}:(fg (out.take a) c++(c.take b).map fun x=>h++[x]).length<m:=by
 rw[List.length_append,nZ,List.length_map,List.length_take,List.length_take]
 rw[nZ] at hm
 have h1:(a+1)*c.length<=out.length*c.length:=Nat.mul_le_mul_right _ (by omega)
 rw[Nat.add_mul,Nat.one_mul] at h1
 rw[show min a out.length=a by omega,show min b c.length=b by omega]
 omega
theorem xN (cs:List (Option (List Int))) (ch:Nat->List Int) (hcs:∀k,k<cs.length->cs.getD k none=some (ch k)) (hb:∀k,k<=cs.length->(ar ch k).length<=4000) (hch:∀k,k<cs.length->(ch k).length<=60) (hl:cs.length<=8) (hd:∀k,k<=cs.length->∀w∈ar ch k,w.length<=8):ae Tryz.prog 152 [.sl none kT cs] (fun u=>u= .sl [] cU (ar ch cs.length)):=by
 refine ae.intro ab ac Tryz.func152 rfl (by decide) ?_;(conv=>whnf)
 refine cA 0 aD [] rfl ?_
 conv=>whnf
 refine cA [] cU [[]] rfl ?_
 conv=>whnf
 refine aE.loopF ab ac (fun k:Nat=>k<=cs.length) (fun k=>[(15, .int .i64 (k:Int)),(11, .top),(12, .top),(3, .row 1000 (ar ch k).length 1)]) (fun k=>[(1000,cJ (ar ch k))]) (fun k=>cs.length-k) 0 (Nat.zero_le _) ?_;conv=>whnf
 refine⟨aM.by_ [(1000, .old 12)] _ 400 rfl (aa) (aa),?_⟩
 rintro k hk
 conv=>whnf
 refine ah ?_ ?_<;>(intro g1;conv=>whnf)
 ·have hc:=hch k (by omega)
  have hm:=hb (k+1) (by omega)
  have hw:=hd k (by omega)
  have hm0:=hb k (by omega)
  have hpk:ar ch (k+1)=fg (ar ch k) (ch k):=rfl
  rw[hpk] at hm
  refine nI ?_
  rw[tN,hcs k (by omega)]
  generalize hO:ar ch k=out at hm hw hm0 hpk
  generalize ch k=c at hc hm hpk
  conv=>whnf
  refine aE.loopF ab ac (fun a:Nat=>a<=out.length) (fun a=>[(21, .int .i64 (a:Int)),(6, .row 1001 (fg (out.take a) c).length 1)]) (fun a=>[(1000,cJ out),(1001,cJ (fg (out.take a) c))]) (fun a=>out.length-a) 0 (Nat.zero_le _) ?_;conv=>whnf
  refine⟨aM.by_ [(1000, .old 1000),(1001, .nil 1)] _ 400 rfl (aa) (aa),?_⟩
  rintro a ha
  conv=>whnf
  refine ah ?_ ?_<;>(intro g2;conv=>whnf)
  ·have hwa:(out.getD a []).length<=8:=by
    rw[xM (by omega)];exact hw _ (List.getElem_mem _)
   have hup:=o4 (c:=c) (show a<out.length by omega)
   refine nI ?_
   rw[tN]
   conv=>whnf
   generalize out.getD a []=h at hwa hup⊢
   have hz0:(List.map (fun x=>h++[x]) (List.take 0 c)).length=0:=by simp
   refine aE.loopF ab ac (fun b:Nat=>b<=c.length) (fun b=>[(27, .int .i64 (b:Int)),(6, .row 1001 (fg (out.take a) c++(c.take b).map fun x=>h++[x]).length 1)]) (fun b=>[(1000,cJ out),(1001,cJ (fg (out.take a) c++(c.take b).map fun x=>h++[x]))]) (fun b=>c.length-b) 0 (Nat.zero_le _) ?_;conv=>whnf
   refine⟨aM.id_ 400 rfl ⟨rfl,by show aX.row _ _ _ _=aX.row _ _ _ _;simp,trivial⟩ (aa),?_⟩
   rintro b hbb
   conv=>whnf
   refine ah ?_ ?_<;>(intro g3;conv=>whnf)
   ·have hlt:=rS (h:=h) (show a<out.length by omega) (show b<c.length by omega) hm
    have hup2:=o5 (h:=h) (show b<c.length by omega)
    have hz1:(List.map (fun x=>h++[x]) (List.take (b+1) c)).length=(List.map (fun x=>h++[x]) (List.take b c)).length+1:=by rw[hup2];simp
    refine nI ?_
    rw[tN]
    conv=>whnf
    refine d7 ⟨rfl,rfl⟩ ?_
    conv=>whnf
    refine d7 (Nat.succ_pos _) ?_
    conv=>whnf
    refine cB [c.getD b 0] rfl lI ?_
    conv=>whnf
    refine cA [] cU [h++[c.getD b 0]] rfl ?_
    conv=>whnf
    refine cB [h++[c.getD b 0]] rfl lI ?_
    rw[List.append_assoc,<-hup2]
    conv=>whnf
    repeat' ((first|refine nI ?_|refine aI ?_|refine tI ?_|refine fI ?_|fail);conv=>whnf)
    exact⟨b+1,aM.by_ [(1000, .old 1000),(1001, .old 42)] _ 400 rfl (aa) (aa),by omega,by dsimp only;omega⟩
   ·obtain rfl:b=c.length:=by omega
    rw[List.take_length,<-hup]
    repeat' ((first|refine nI ?_|refine aI ?_|refine tI ?_|refine fI ?_|fail);conv=>whnf)
    exact⟨a+1,sI,by omega,by dsimp only;omega⟩
  ·obtain rfl:a=out.length:=by omega
   rw[List.take_length,<-hpk]
   repeat' ((first|refine nI ?_|refine aI ?_|refine tI ?_|refine fI ?_|fail);conv=>whnf)
   exact⟨k+1,aM.by_ [(1000, .old 1001)] _ 400 rfl (aa) (aa),by omega,by dsimp only;omega⟩
 ·obtain rfl:k=cs.length:=by omega
  exact⟨rfl,rfl⟩
def e8 (F:Nat) (ch:Nat->List Int):Nat->Nat
 |0=>F
 |k+1=>e8 F ch k*(ch k).length
def n5 (F:Nat) (ch:Nat->List Int) (n:Nat):Prop:=∀k,k<n->e8 F ch (k+1)<=4000
noncomputable instance decIni (F:Nat) (ch:Nat->List Int) (n:Nat):Decidable (n5 F ch n):=Classical.propDecidable _
def dE (p:ao) (s:az) (sh st:List Int):ap:=⟨sh,st,s.n-s.f,List.replicate p.messages.length 0,List.replicate p.messages.length 0,0⟩
def dk (p:ao) (s:az) (forms mF:List (List Int)):List ap:=forms.flatMap fun sh=>mF.map fun st=>dE p s sh st
def i6 (p:ao) (s:az):List (List Int):=if p.topology=4 then ci s.n.toNat else[[]]
noncomputable def pO (p:ao) (q:bn) (s:az):AV:=if n5 (i6 p s).length (cK p q s) (ee p s).toNat then pA (dk p s (i6 p s) (ar (cK p q s) (ee p s).toNat)) 0 else pA [] 4
theorem xO (F:Nat) (ch:Nat->List Int):∀k,e8 F ch k=F*e8 1 ch k
 |0=>by simp[e8]
 |k+1=>by simp only[e8];rw[xO F ch k,Nat.mul_assoc]
theorem xP (ch:Nat->List Int):∀k,(ar ch k).length=e8 1 ch k
 |0=>rfl
 |k+1=>by simp only[ar,e8];rw[nZ,xP ch k]
theorem rT {F n k:Nat} {ch:Nat->List Int} (hF:F<=5) (hk:k<=n) (ha:∀j,j<k->e8 F ch (j+1)<=4000):e8 F ch k<=4000:=by
 cases k with
 |zero=>simp only[e8];omega
 |succ k=>exact ha k (by omega)
theorem n6 {F n:Nat} {ch:Nat->List Int} (h0:1<=F) (h1:F<=5) (h:n5 F ch n):∀k,k<=n->(ar ch k).length<=4000/\F*(ar ch k).length<=4000:=by
 intro k hk
 have ht:e8 F ch k<=4000:=rT h1 hk (fun j hj=>h j (by omega))
 rw[xO] at ht
 rw[xP]
 have:=Nat.le_mul_of_pos_left (e8 1 ch k) (show 0<F by omega)
 omega
theorem jW (ch:Nat->List Int):∀k,∀w∈ar ch k,w.length=k
 |0,w,h=>by simp only[ar,List.mem_singleton] at h;subst h;rfl
 |k+1,w,h=>by
  simp only[ar,fg,List.mem_flatMap,List.mem_map] at h
  obtain⟨a,ha,x,_,rfl⟩:=h
  have:=jW ch k a ha
  simp;omega
theorem jp {p:ao} {q:bn} (hp:¬b9 p) (hq:¬eU q) (s:az) (k:Nat):(cK p q s k).length<=60:=by
 have hle:=aF hp
 have hlq:=kE hq
 unfold cK HH
 (repeat' split)<;>omega
theorem o6:∀m,m<=3->1<=(ci (2*m+1)).length:=by decide
theorem rU {p:ao} {s:az} (h:cT p s=0) (ht:p.topology=4):∃m,m<=3/\s.n=((2*m+1:Nat):Int):=by
 have h1:=dM h
 have h2:¬(p.topology=4/\s.n.tmod 2=0):=h1.2.1.2.2.1
 have h3:s.n.tmod 2=s.n % 2:=Int.tmod_eq_emod_of_nonneg (by omega)
 refine⟨(s.n.toNat-1) / 2,by omega,by omega⟩
theorem HK {n k:Nat} {g:Nat->List Int} (h:k<n):((List.range n).map fun i=>some (g i)).getD k none=some (g k):=by
 rw[gD,List.getElem?_map,List.getElem?_range h];rfl
theorem Mw {n k:Nat} (g:Nat->List Int) (h:k<n):(((List.range k).map fun i=>some (g i))++List.replicate (n-k) none).set k (some (g k))=((List.range (k+1)).map fun i=>some (g i))++List.replicate (n-(k+1)) none:=by
 rw[List.set_append_right _ _ (by simp),List.length_map,List.length_range,Nat.sub_self,List.range_succ,List.map_append,List.append_assoc]
 congr 1
 rw[show n-k=(n-(k+1))+1 by omega,List.replicate_succ]
 rfl
theorem md {p:ao} {s:az} {forms W:List (List Int)} {a:Nat} (h:a<forms.length):dk p s (forms.take (a+1)) W=dk p s (forms.take a) W++W.map (dE p s (forms.getD a [])):=by
 unfold dk
 rw[List.take_succ_eq_append_getElem h,List.flatMap_append,xM h]
 simp
theorem mf {p:ao} {s:az} {sh:List Int} {W:List (List Int)} {b:Nat} (h:b<W.length):(W.take (b+1)).map (dE p s sh)=(W.take b).map (dE p s sh)++[dE p s sh (W.getD b [])]:=by
 rw[List.take_succ_eq_append_getElem h,List.map_append,xM h]
 rfl
theorem rV (p:ao) (s:az):∀(forms W:List (List Int)),(dk p s forms W).length=forms.length*W.length
 |[],W=>by simp[dk]
 |h::forms,W=>by
  have ih:=rV p s forms W
  unfold dk at ih⊢
  rw[List.flatMap_cons,List.length_append,ih,List.length_map,List.length_cons,Nat.add_mul,Nat.one_mul,Nat.add_comm]
theorem n7 {p:ao} {s:az} {forms W:List (List Int)} {sh:List Int} {a b:Nat} (ha:a<forms.length) (hb:b<W.length) (hm:forms.length*W.length<=4000):(dk p s (forms.take a) W++(W.take b).map (dE p s sh)).length<4000:=by
 rw[List.length_append,rV,List.length_map,List.length_take,List.length_take]
 have h1:(a+1)*W.length<=forms.length*W.length:=Nat.mul_le_mul_right _ (by omega)
 rw[Nat.add_mul,Nat.one_mul] at h1
 rw[show min a forms.length=a by omega,show min b W.length=b by omega]
 omega
theorem Fc (p:ao) (q:bn) (s:az) (hp:¬b9 p) (hq:¬eU q) (hv:cq p q=0) (hz:cT p s=0):ae Tryz.prog 121 [.agg (bf p), .agg (eh q), .agg (b7 s)] (Og (pO p q s)):=by
 have hle:=aF hp
 have hsz:=dM hz
 obtain⟨n,hn⟩:∃n:Nat,ee p s=n:=⟨(ee p s).toNat,by unfold ee;split<;>omega⟩
 have hn8:n<=8:=by unfold ee at hn;split at hn<;>omega
 have hM:=EO p s (by omega)
 rw[hn] at hM
 refine ae.intro ab ac Tryz.func121 rfl (by decide) ?_;(conv=>whnf)
 refine am rfl ?_
 conv=>whnf
 refine am rfl ?_
 conv=>whnf
 refine am rfl ?_
 conv=>whnf
 (refine oP (HI p q hp hq hv) ?_;conv=>whnf)
 (refine oP (hM) ?_;conv=>whnf)
 refine ww none kT none rfl (by dsimp only;omega) ?_
 rw[tN]
 conv=>whnf
 refine aE.loopF ab ac (fun k:Nat=>k<=n) (fun k=>[(33, .int .i64 (k:Int))]) (fun k=>[(30,CH (((List.range k).map fun i=>some (cK p q s i))++List.replicate (n-k) none))]) (fun k=>n-k) 0 (Nat.zero_le _) ?_;conv=>whnf
 refine⟨aM.id_ 400 rfl ⟨by show aX.row _ _ _ _=aX.row _ _ _ _;simp,trivial⟩ (aa),?_⟩
 rintro k hk
 conv=>whnf
 refine ah ?_ ?_<;>(intro g1;conv=>whnf)
 ·have hf:=Mw (cK p q s) (show k<n by omega)
  have he:=cK.eq_1 p q s k
  by_cases h1:k=0/\0<p.leader.length
  ·rw[if_pos h1] at he
   repeat' ((first|refine nI ?_|refine aI ?_|refine tI ?_|refine fI ?_|fail);conv=>whnf)
   refine ak (some p.leader) rfl ?_
   rw[tN,<-he,hf]
   conv=>whnf
   repeat' ((first|refine nI ?_|refine aI ?_|refine tI ?_|refine fI ?_|fail);conv=>whnf)
   exact⟨k+1,sI,by omega,by dsimp only;omega⟩
  rw[if_neg h1] at he
  by_cases h2:(k:Int)<s.n-s.f
  ·rw[if_pos h2] at he
   by_cases h3:k=0
   all_goals
    repeat' ((first|refine nI ?_|refine aI ?_|refine tI ?_|refine fI ?_|fail);conv=>whnf)
    refine ak (some (HH p q)) rfl ?_
    rw[tN,<-he,hf]
    conv=>whnf
    repeat' ((first|refine nI ?_|refine aI ?_|refine tI ?_|refine fI ?_|fail);conv=>whnf)
    exact⟨k+1,sI,by omega,by dsimp only;omega⟩
  ·rw[if_neg h2] at he
   by_cases h3:k=0
   all_goals
    repeat' ((first|refine nI ?_|refine aI ?_|refine tI ?_|refine fI ?_|fail);conv=>whnf)
    refine ak (some p.initial) rfl ?_
    rw[tN,<-he,hf]
    conv=>whnf
    repeat' ((first|refine nI ?_|refine aI ?_|refine tI ?_|refine fI ?_|fail);conv=>whnf)
    exact⟨k+1,sI,by omega,by dsimp only;omega⟩
 obtain rfl:n=k:=by omega
 rw[Nat.sub_self,List.replicate_zero,List.append_nil]
 by_cases hT:p.topology=4
 case pos=>
  obtain⟨m,hm,hsn⟩:=rU hz hT
  have hF0:=o6 m hm
  have hF1:=(fR (n:=2*m+1) (by omega)).1
  have hF2:=(fR (n:=2*m+1) (by omega)).2
  have hS:=tX m hm
  rw[<-hsn] at hS
  refine cA none kT [none] rfl ?_
  conv=>whnf
  repeat' ((first|refine nI ?_|refine aI ?_|refine tI ?_|refine fI ?_|fail);conv=>whnf)
  (refine oP (hS) ?_;conv=>whnf)
  have hform:i6 p s=(ci (2*m+1)):=by unfold i6;rw[if_pos hT];rw[hsn];rfl
  have he:pO p q s=if n5 (ci (2*m+1)).length (cK p q s) n then pA (dk p s (ci (2*m+1)) (ar (cK p q s) n)) 0 else pA [] 4:=by
   unfold pO;rw[hform,hn];rfl
  refine aE.loopF ab ac (fun k:Nat=>k<=n/\∀j,j<k->e8 (ci (2*m+1)).length (cK p q s) (j+1)<=4000) (fun k=>[(79, .int .i64 (k:Int)),(68, .top),(13, .int .i64 (e8 (ci (2*m+1)).length (cK p q s) k:Int))]) (fun k=>[(30,CH ((List.range n).map fun i=>some (cK p q s i)))]) (fun k=>n-k) 0 ⟨by omega,fun j hj=>by omega⟩ ?_;conv=>whnf
  refine⟨sI,?_⟩
  rintro k ⟨hk,ha⟩
  conv=>whnf
  refine ah ?_ ?_<;>(intro g1;conv=>whnf)
  ·have hck:=jp hp hq s k
   have htk:e8 (ci (2*m+1)).length (cK p q s) k<=4000:=rT hF1 hk ha
   have hmul:=Nat.mul_le_mul htk hck
   have hup:e8 (ci (2*m+1)).length (cK p q s) (k+1)=e8 (ci (2*m+1)).length (cK p q s) k*(cK p q s k).length:=rfl
   refine d7 (by first|omega|(simp only[List.length_map,List.length_range];omega)) ?_
   conv=>whnf
   rw[tN,HK (by omega)]
   conv=>whnf
   rw[<-Int.natCast_mul,<-hup]
   refine aI ?_
   conv=>whnf
   refine ah ?_ ?_<;>(intro g2;conv=>whnf)
   ·rw[if_neg (fun hb=>by have:=hb k (by omega);omega)] at he
    exact⟨.inr ⟨4,rfl,he⟩,rfl⟩
   ·repeat' ((first|refine nI ?_|refine aI ?_|refine tI ?_|refine fI ?_|fail);conv=>whnf)
    refine⟨k+1,sI,⟨by omega,fun j hj=>?_⟩,by dsimp only;omega⟩
    by_cases e:j=k
    ·subst e;omega
    ·exact ha j (by omega)
  have hB:n5 (ci (2*m+1)).length (cK p q s) n:=fun j hj=>ha j (by omega)
  rw[if_pos hB] at he
  have hpl:=n6 (F:=(ci (2*m+1)).length) (ch:=cK p q s) hF0 (by omega) hB
  have hpw:=jW (cK p q s)
  have hcl:((List.range n).map fun i=>some (cK p q s i)).length=n:=by simp
  have hP:=xN ((List.range n).map fun i=>some (cK p q s i)) (cK p q s) (fun k hk=>HK (by omega)) (fun k hk=>(hpl k (by omega)).1) (fun k hk=>jp hp hq s k) (by omega) (fun k hk w hw=>by have:=hpw k w hw;omega)
  rw[hcl] at hP
  have hwl:=(hpl n (Nat.le_refl n)).2
  have hwn:=hpw n
  have hw4:=(hpl n (Nat.le_refl n)).1
  generalize ar (cK p q s) n=W at hP hwl hwn he hw4
  generalize hC:((List.range n).map fun i=>some (cK p q s i))=C at hP
  refine aE.loopF ab ac (fun a:Nat=>a<=(ci (2*m+1)).length) (fun a=>[(92, .int .i64 (a:Int)),(16, .row 1000 (dk p s ((ci (2*m+1)).take a) W).length 6),(10, .sl none kT C),(30, .sl none kT C),(31, .sl none kT C),(77, .sl none kT C)]) (fun a=>[(1000,kS (dk p s ((ci (2*m+1)).take a) W))]) (fun a=>(ci (2*m+1)).length-a) 0 (Nat.zero_le _) ?_;conv=>whnf
  refine⟨aM.leak 30 rfl (aM.by_ [(1000, .nil 6)] _ 400 rfl (aa) (aa)),?_⟩
  rintro a ha
  conv=>whnf
  refine ah ?_ ?_<;>(intro g2;conv=>whnf)
  ·have hup:=md (p:=p) (s:=s) (W:=W) (show a<(ci (2*m+1)).length by omega)
   refine nI ?_
   rw[tN]
   have hsh:((ci (2*m+1)).getD a []).length<=8:=by rw[xM (by omega)];exact hF2 _ (List.getElem_mem _)
   generalize (ci (2*m+1)).getD a []=sh at hsh hup
   conv=>whnf
   have hz0:(List.map (dE p s sh) (List.take 0 W)).length=0:=by simp
   (refine oP (hP) ?_;conv=>whnf)
   refine aE.loopF ab ac (fun b:Nat=>b<=W.length) (fun b=>[(99, .int .i64 (b:Int)),(16, .row 1000 (dk p s ((ci (2*m+1)).take a) W++(W.take b).map (dE p s sh)).length 6),(18, .sl 0 aD sh)]) (fun b=>[(1000,kS (dk p s ((ci (2*m+1)).take a) W++(W.take b).map (dE p s sh)))]) (fun b=>W.length-b) 0 (Nat.zero_le _) ?_;conv=>whnf
   refine⟨aM.id_ 400 rfl ⟨by show aX.row _ _ _ _=aX.row _ _ _ _;simp,trivial⟩ (aa),?_⟩
   rintro b hb
   conv=>whnf
   refine ah ?_ ?_<;>(intro g3;conv=>whnf)
   ·have hlt:=n7 (p:=p) (s:=s) (sh:=sh) (show a<(ci (2*m+1)).length by omega) (show b<W.length by omega) hwl
    have hup2:=mf (p:=p) (s:=s) (sh:=sh) (show b<W.length by omega)
    have hz1:(List.map (dE p s sh) (List.take (b+1) W)).length=(List.map (dE p s sh) (List.take b W)).length+1:=by rw[hup2];simp
    refine nI ?_
    rw[tN]
    conv=>whnf
    refine eC (by decide+kernel) ?_
    conv=>whnf
    refine nI ?_
    conv=>whnf
    refine aI ?_
    conv=>whnf
    refine ww 0 aD 0 rfl (by dsimp only;omega) ?_
    conv=>whnf
    refine ww 0 aD 0 rfl (by dsimp only;omega) ?_
    rw[tN]
    conv=>whnf
    refine cA aC bg [dE p s sh (W.getD b [])] rfl ?_
    conv=>whnf
    refine iH ?_
    conv=>whnf
    refine cB [dE p s sh (W.getD b [])] rfl lI ?_
    rw[List.append_assoc,<-hup2]
    conv=>whnf
    repeat' ((first|refine nI ?_|refine aI ?_|refine tI ?_|refine fI ?_|fail);conv=>whnf)
    exact⟨b+1,aM.by_ [(1000, .old 122)] _ 400 rfl (aa) (aa),by omega,by dsimp only;omega⟩
   ·obtain rfl:b=W.length:=by omega
    rw[List.take_length,<-hup]
    repeat' ((first|refine nI ?_|refine aI ?_|refine tI ?_|refine fI ?_|fail);conv=>whnf)
    exact⟨a+1,sI,by omega,by dsimp only;omega⟩
  ·obtain rfl:a=(ci (2*m+1)).length:=by omega
   rw[List.take_length]
   exact⟨.inl he.symm,rfl⟩
 case neg=>
  have hF0:1<=1:=Nat.le_refl 1
  have hF1:1<=5:=by omega
  have hl1:[([]:List Int)].length=1:=rfl
  have hg0:∀a,a<1->([none]:List (Option (List Int))).getD a none=none:=fun a h=>by rw[show a=0 by omega];rfl
  refine cA none kT [none] rfl ?_
  conv=>whnf
  repeat' ((first|refine nI ?_|refine aI ?_|refine tI ?_|refine fI ?_|fail);conv=>whnf)
  have hform:i6 p s=[([]:List Int)]:=by unfold i6;rw[if_neg hT]
  have he:pO p q s=if n5 1 (cK p q s) n then pA (dk p s [([]:List Int)] (ar (cK p q s) n)) 0 else pA [] 4:=by
   unfold pO;rw[hform,hn];rfl
  refine aE.loopF ab ac (fun k:Nat=>k<=n/\∀j,j<k->e8 1 (cK p q s) (j+1)<=4000) (fun k=>[(79, .int .i64 (k:Int)),(13, .int .i64 (e8 1 (cK p q s) k:Int))]) (fun k=>[(30,CH ((List.range n).map fun i=>some (cK p q s i))),(68,CH [none])]) (fun k=>n-k) 0 ⟨by omega,fun j hj=>by omega⟩ ?_;conv=>whnf
  refine⟨sI,?_⟩
  rintro k ⟨hk,ha⟩
  conv=>whnf
  refine ah ?_ ?_<;>(intro g1;conv=>whnf)
  ·have hck:=jp hp hq s k
   have htk:e8 1 (cK p q s) k<=4000:=rT hF1 hk ha
   have hmul:=Nat.mul_le_mul htk hck
   have hup:e8 1 (cK p q s) (k+1)=e8 1 (cK p q s) k*(cK p q s k).length:=rfl
   refine d7 (by first|omega|(simp only[List.length_map,List.length_range];omega)) ?_
   conv=>whnf
   rw[tN,HK (by omega)]
   conv=>whnf
   rw[<-Int.natCast_mul,<-hup]
   refine aI ?_
   conv=>whnf
   refine ah ?_ ?_<;>(intro g2;conv=>whnf)
   ·rw[if_neg (fun hb=>by have:=hb k (by omega);omega)] at he
    exact⟨.inr ⟨4,rfl,he⟩,rfl⟩
   ·repeat' ((first|refine nI ?_|refine aI ?_|refine tI ?_|refine fI ?_|fail);conv=>whnf)
    refine⟨k+1,sI,⟨by omega,fun j hj=>?_⟩,by dsimp only;omega⟩
    by_cases e:j=k
    ·subst e;omega
    ·exact ha j (by omega)
  have hB:n5 1 (cK p q s) n:=fun j hj=>ha j (by omega)
  rw[if_pos hB] at he
  have hpl:=n6 (F:=1) (ch:=cK p q s) hF0 (by omega) hB
  have hpw:=jW (cK p q s)
  have hcl:((List.range n).map fun i=>some (cK p q s i)).length=n:=by simp
  have hP:=xN ((List.range n).map fun i=>some (cK p q s i)) (cK p q s) (fun k hk=>HK (by omega)) (fun k hk=>(hpl k (by omega)).1) (fun k hk=>jp hp hq s k) (by omega) (fun k hk w hw=>by have:=hpw k w hw;omega)
  rw[hcl] at hP
  have hwl:=(hpl n (Nat.le_refl n)).2
  have hwn:=hpw n
  have hw4:=(hpl n (Nat.le_refl n)).1
  generalize ar (cK p q s) n=W at hP hwl hwn he hw4
  generalize hC:((List.range n).map fun i=>some (cK p q s i))=C at hP
  refine aE.loopF ab ac (fun a:Nat=>a<=[([]:List Int)].length) (fun a=>[(92, .int .i64 (a:Int)),(16, .row 1000 (dk p s ([([]:List Int)].take a) W).length 6),(10, .sl none kT C),(30, .sl none kT C),(31, .sl none kT C),(77, .sl none kT C)]) (fun a=>[(1000,kS (dk p s ([([]:List Int)].take a) W)),(68,CH [none])]) (fun a=>[([]:List Int)].length-a) 0 (Nat.zero_le _) ?_;conv=>whnf
  refine⟨aM.leak 30 rfl (aM.by_ [(1000, .nil 6),(68, .old 68)] _ 400 rfl (aa) (aa)),?_⟩
  rintro a ha
  conv=>whnf
  refine ah ?_ ?_<;>(intro g2;conv=>whnf)
  ·have hup:=md (p:=p) (s:=s) (W:=W) (show a<[([]:List Int)].length by omega)
   refine nI ?_
   have ha0:a=0:=by omega
   have hsh:([]:List Int).length<=8:=by simp
   rw[show[([]:List Int)].getD a []=[] by rw[ha0];rfl] at hup
   conv=>whnf
   rw[tN,hg0 a (by omega)]
   conv=>whnf
   have hz0:(List.map (dE p s ([]:List Int)) (List.take 0 W)).length=0:=by simp
   (refine oP (hP) ?_;conv=>whnf)
   refine aE.loopF ab ac (fun b:Nat=>b<=W.length) (fun b=>[(99, .int .i64 (b:Int)),(16, .row 1000 (dk p s ([([]:List Int)].take a) W++(W.take b).map (dE p s ([]:List Int))).length 6),(18, .sl 0 aD ([]:List Int))]) (fun b=>[(1000,kS (dk p s ([([]:List Int)].take a) W++(W.take b).map (dE p s ([]:List Int)))),(68,CH [none])]) (fun b=>W.length-b) 0 (Nat.zero_le _) ?_;conv=>whnf
   refine⟨aM.id_ 400 rfl ⟨by show aX.row _ _ _ _=aX.row _ _ _ _;simp,rfl,trivial⟩ (aa),?_⟩
   rintro b hb
   conv=>whnf
   refine ah ?_ ?_<;>(intro g3;conv=>whnf)
   ·have hlt:=n7 (p:=p) (s:=s) (sh:=([]:List Int)) (show a<[([]:List Int)].length by omega) (show b<W.length by omega) hwl
    have hup2:=mf (p:=p) (s:=s) (sh:=([]:List Int)) (show b<W.length by omega)
    have hz1:(List.map (dE p s ([]:List Int)) (List.take (b+1) W)).length=(List.map (dE p s ([]:List Int)) (List.take b W)).length+1:=by rw[hup2];simp
    refine nI ?_
    rw[tN]
    conv=>whnf
    refine eC (by decide+kernel) ?_
    conv=>whnf
    refine nI ?_
    conv=>whnf
    refine aI ?_
    conv=>whnf
    refine ww 0 aD 0 rfl (by dsimp only;omega) ?_
    conv=>whnf
    refine ww 0 aD 0 rfl (by dsimp only;omega) ?_
    rw[tN]
    conv=>whnf
    refine cA aC bg [dE p s ([]:List Int) (W.getD b [])] rfl ?_
    conv=>whnf
    refine iH ?_
    conv=>whnf
    refine cB [dE p s ([]:List Int) (W.getD b [])] rfl lI ?_
    rw[List.append_assoc,<-hup2]
    conv=>whnf
    repeat' ((first|refine nI ?_|refine aI ?_|refine tI ?_|refine fI ?_|fail);conv=>whnf)
    exact⟨b+1,aM.by_ [(1000, .old 122),(68, .old 68)] _ 400 rfl (aa) (aa),by omega,by dsimp only;omega⟩
   ·obtain rfl:b=W.length:=by omega
    rw[List.take_length,<-hup]
    repeat' ((first|refine nI ?_|refine aI ?_|refine tI ?_|refine fI ?_|fail);conv=>whnf)
    exact⟨a+1,sI,by omega,by dsimp only;omega⟩
  ·obtain rfl:a=[([]:List Int)].length:=by omega
   rw[List.take_length]
   exact⟨.inl he.symm,rfl⟩
end Go.Proofs.YtokjgegkhlkopaaGreatDoor
