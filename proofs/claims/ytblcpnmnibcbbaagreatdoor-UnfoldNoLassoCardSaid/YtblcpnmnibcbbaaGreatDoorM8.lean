import Derived.Test.YtblcpnmnibcbbaaGreatDoorMN
set_option linter.unusedVariables false
set_option linter.unusedSimpArgs false
namespace Go.Proofs.YtblcpnmnibcbbaaGreatDoor
set_option maxRecDepth 100000
set_option maxHeartbeats 16000000
theorem nZ {p:aq} (h:bC p=0):0<p.initial.length/\cO p.initial p.states.length=0/\cO p.leader p.states.length=0:=by
 unfold bC at h
 have ht:uP p=0:=by
  (repeat' split at h)<;>first|exact h|omega
 have hz:=cd ht
 have h1:=hz (if p.initial.length=0 then 1 else 0) (by simp)
 refine⟨?_,hz _ (by simp),hz _ (by simp)⟩
 split at h1<;>omega
theorem n5 {p:aq} {q:bO} (h:db p q=0):bC p=0:=by
 unfold db at h
 by_cases h1:bC p≠0
 ·rw[if_pos h1] at h;omega
 ·omega
theorem vb {p:aq} {q:bO} (h:db p q=0):cO q.start p.states.length=0/\∀j,j<q.start.length->q.start.getD j 0∈p.initial:=by
 unfold db at h
 by_cases h1:bC p≠0
 ·rw[if_pos h1] at h;omega
 rw[if_neg h1] at h
 by_cases h2:¬cR q.name
 ·rw[if_pos h2] at h;omega
 rw[if_neg h2] at h
 split at h
 ·omega
 split at h
 ·omega
 by_cases h4:cO q.start p.states.length≠0
 ·rw[if_pos h4] at h;omega
 rw[if_neg h4] at h
 by_cases h5:¬(∀j,j<q.start.length->q.start.getD j 0∈p.initial)
 ·rw[if_pos h5] at h;omega
 ·exact⟨by omega,Classical.not_not.1 h5⟩
def Dm (p:aq) (q:bO):List Int:=if 0<q.start.length then q.start else p.initial
def cr (p:aq) (q:bO) (s:aB) (i:Nat):List Int:=if i=0/\0<p.leader.length then p.leader else if(i:Int)<s.n-s.f then Dm p q else p.initial
theorem qa (l:List Int) (h0:0<l.length) (hl:l.length<=1000):aa Tryz.prog 126 [.sl 0 aD l] (fun u=>u= .sl 0 aD l):=by
 refine aa.intro ab ac Tryz.func126 rfl (by decide) ?_;(conv=>whnf)
 refine dA (fun e=>by rw[e] at h0;simp at h0) ?_
 conv=>whnf
 refine c8 0 aD [] rfl ?_
 conv=>whnf
 refine eC _ rfl (by simp only[List.length_nil];omega) ?_
 conv=>whnf
 exact⟨rfl,rfl⟩
theorem xS (p:aq) (q:bO) (hp:¬bV p) (hq:¬fC q) (hv:db p q=0):aa Tryz.prog 77 [.agg (bc p), .agg (gb q)] (fun u=>u= .tup [.sl 0 aD (Dm p q), .int .i64 0]):=by
 have hle:=aC hp
 have hlq:=jE hq
 have hi:=nZ (n5 hv)
 have he:=Dm.eq_1 p q
 refine aa.intro ab ac Tryz.func77 rfl (by decide) ?_;(conv=>whnf)
 refine am rfl ?_
 conv=>whnf
 refine am rfl ?_
 conv=>whnf
 (refine oP (rT p q (jx hp) (wJ hq)) ?_;conv=>whnf)
 refine fI ?_
 conv=>whnf
 refine ag ?_ ?_<;>(intro h1;conv=>whnf)
 ·rw[if_pos (by omega)] at he
  (refine oP (qa q.start (by omega) (by omega)) ?_;conv=>whnf)
  exact⟨he▸rfl,rfl⟩
 ·rw[if_neg (by omega)] at he
  (refine oP (qa p.initial (by omega) (by omega)) ?_;conv=>whnf)
  exact⟨he▸rfl,rfl⟩
theorem tb (p:aq) (q:bO) (hp:¬bV p) (hq:¬fC q):aa Tryz.prog 108 [.agg (bc p), .agg (gb q)] (fun u=>u= .sl 0 aD (Dm p q)):=by
 have hle:=aC hp
 have hlq:=jE hq
 have he:=Dm.eq_1 p q
 refine aa.intro ab ac Tryz.func108 rfl (by decide) ?_;(conv=>whnf)
 refine am rfl ?_
 conv=>whnf
 refine am rfl ?_
 conv=>whnf
 refine ag ?_ ?_<;>(intro h1;conv=>whnf)
 ·rw[if_pos (by omega)] at he
  (refine oP (gF q.start (by omega)) ?_;conv=>whnf)
  exact⟨he▸rfl,rfl⟩
 ·rw[if_neg (by omega)] at he
  (refine oP (gF p.initial (by omega)) ?_;conv=>whnf)
  exact⟨he▸rfl,rfl⟩
theorem kE (p:aq) (q:bO) (s:aB) (i:Nat) (hp:¬bV p) (hq:¬fC q) (hs:(1<=s.n/\s.n<=8)/\(0<=s.f/\s.f<=s.n)):aa Tryz.prog 58 [.agg (bc p), .agg (gb q), .agg (bW s), .int .i64 (i:Int)] (fun u=>u= .sl 0 aD (cr p q s i)):=by
 have he:=cr.eq_1 p q s i
 refine aa.intro ab ac Tryz.func58 rfl (by decide) ?_;(conv=>whnf)
 refine am rfl ?_
 conv=>whnf
 refine am rfl ?_
 conv=>whnf
 refine am rfl ?_
 conv=>whnf
 by_cases h1:i=0/\0<p.leader.length
 ·rw[if_pos h1] at he
  repeat' ((first|refine nI ?_|refine aI ?_|refine tI ?_|refine fI ?_|fail);conv=>whnf)
  exact⟨he▸rfl,rfl⟩
 rw[if_neg h1] at he
 by_cases h2:(i:Int)<s.n-s.f
 ·rw[if_pos h2] at he
  by_cases h3:i=0
  all_goals
   repeat' ((first|refine nI ?_|refine aI ?_|refine tI ?_|refine fI ?_|fail);conv=>whnf)
   (refine oP (tb p q hp hq) ?_;conv=>whnf)
   exact⟨he▸rfl,rfl⟩
 ·rw[if_neg h2] at he
  by_cases h3:i=0
  all_goals
   repeat' ((first|refine nI ?_|refine aI ?_|refine tI ?_|refine fI ?_|fail);conv=>whnf)
   exact⟨he▸rfl,rfl⟩
noncomputable def fO (p:aq) (q:bO) (s:aB):Int:=if db p q≠0 then db p q else cE p s
theorem zw (p:aq) (q:bO) (s:aB) (hp:¬bV p) (hq:¬fC q):aa Tryz.prog 21 [.agg (bc p), .agg (gb q), .agg (bW s)] (fun u=>u= .int .i64 (fO p q s)):=by
 have he:=fO.eq_1 p q s
 refine aa.intro ab ac Tryz.func21 rfl (by decide) ?_;(conv=>whnf)
 refine am rfl ?_
 conv=>whnf
 refine am rfl ?_
 conv=>whnf
 refine am rfl ?_
 conv=>whnf
 (refine oP (rT p q (jx hp) (wJ hq)) ?_;conv=>whnf)
 refine ag ?_ ?_<;>(intro h1;conv=>whnf)
 ·rw[if_pos h1] at he;exact⟨he▸rfl,rfl⟩
 ·rw[if_neg h1] at he
  (refine oP (wH p s hp) ?_;conv=>whnf)
  exact⟨he▸rfl,rfl⟩
theorem qb (p:aq) (q:bO) (s:aB) (hp:¬bV p) (hq:¬fC q):aa Tryz.prog 23 [.agg (bc p), .agg (gb q), .agg (bW s)] (fun u=>u= .int .i64 (fO p q s)):=by
 have he:=fO.eq_1 p q s
 refine aa.intro ab ac Tryz.func23 rfl (by decide) ?_;(conv=>whnf)
 refine am rfl ?_
 conv=>whnf
 refine am rfl ?_
 conv=>whnf
 refine am rfl ?_
 conv=>whnf
 (refine oP (y5 p q (jx hp) (wJ hq)) ?_;conv=>whnf)
 refine ag ?_ ?_<;>(intro h1;conv=>whnf)
 ·rw[if_pos h1] at he;exact⟨he▸rfl,rfl⟩
 ·rw[if_neg h1] at he
  (refine oP (BE p s hp) ?_;conv=>whnf)
  exact⟨he▸rfl,rfl⟩
def JH:Option (List Int)->AV
 |none=>.nilsl
 |some l=>.sl 0 aD l
def jU (o:Option (List Int)):List AV:=[JH o]
def zx (l:List (Option (List Int))):bj:=.row 24 none jU l
def eI (out:List (List Int)) (c:List Int):List (List Int):=out.flatMap fun h=>c.map fun x=>h++[x]
def ao (ch:Nat->List Int):Nat->List (List Int)
 |0=>[[]]
 |k+1=>eI (ao ch k) (ch k)
theorem vd {l:List (List Int)} {k:Nat} (h:k<l.length):l.getD k []=l[k]:=by
 rw[gD,gL h];rfl
theorem En {l:List Int} {k:Nat} (h:k<l.length):l.getD k 0=l[k]:=by
 rw[gD,gL h];rfl
theorem nA {out:List (List Int)} {c:List Int} {a:Nat} (h:a<out.length):eI (out.take (a+1)) c=eI (out.take a) c++c.map fun x=>out.getD a []++[x]:=by
 unfold eI
 rw[List.take_succ_eq_append_getElem h,List.flatMap_append,vd h]
 simp
theorem nB {c:List Int} {h:List Int} {b:Nat} (hb:b<c.length):(c.take (b+1)).map (fun x=>h++[x])=(c.take b).map (fun x=>h++[x])++[h++[c.getD b 0]]:=by
 rw[List.take_succ_eq_append_getElem hb,List.map_append,En hb]
 rfl
theorem mD:∀(out:List (List Int)) (c:List Int),(eI out c).length=out.length*c.length
 |[],c=>by simp[eI]
 |h::out,c=>by
  have ih:=mD out c
  unfold eI at ih⊢
  rw[List.flatMap_cons,List.length_append,ih,List.length_map,List.length_cons,Nat.add_mul,Nat.one_mul,Nat.add_comm]
theorem qc {out:List (List Int)} {c:List Int} {a b m:Nat} (ha:a<out.length) (hb:b<c.length) (hm:(eI out c).length<=m) {h:List Int}:(eI (out.take a) c++(c.take b).map fun x=>h++[x]).length<m:=by
 rw[List.length_append,mD,List.length_map,List.length_take,List.length_take]
 rw[mD] at hm
 have h1:(a+1)*c.length<=out.length*c.length:=Nat.mul_le_mul_right _ (by omega)
 rw[Nat.add_mul,Nat.one_mul] at h1
 rw[show min a out.length=a by omega,show min b c.length=b by omega]
 omega
theorem ve (cs:List (Option (List Int))) (ch:Nat->List Int) (hcs:∀k,k<cs.length->cs.getD k none=some (ch k)) (hb:∀k,k<=cs.length->(ao ch k).length<=4000) (hch:∀k,k<cs.length->(ch k).length<=60) (hl:cs.length<=8) (hd:∀k,k<=cs.length->∀w∈ao ch k,w.length<=8):aa Tryz.prog 171 [.sl none jU cs] (fun u=>u= .sl [] eG (ao ch cs.length)):=by
 refine aa.intro ab ac Tryz.func171 rfl (by decide) ?_;(conv=>whnf)
 refine c8 0 aD [] rfl ?_
 conv=>whnf
 refine c8 [] eG [[]] rfl ?_
 conv=>whnf
 refine aR.loopF ab ac (fun k:Nat=>k<=cs.length) (fun k=>[(15, .int .i64 (k:Int)),(11, .top),(12, .top),(3, .row 1000 (ao ch k).length 1)]) (fun k=>[(1000,cX (ao ch k))]) (fun k=>cs.length-k) 0 (Nat.zero_le _) ?_;conv=>whnf
 refine⟨bE.by_ [(1000, .old 12)] _ 400 rfl (ai) (ai),?_⟩
 rintro k hk
 conv=>whnf
 refine ag ?_ ?_<;>(intro g1;conv=>whnf)
 ·have hc:=hch k (by omega)
  have hm:=hb (k+1) (by omega)
  have hw:=hd k (by omega)
  have hm0:=hb k (by omega)
  have hpk:ao ch (k+1)=eI (ao ch k) (ch k):=rfl
  rw[hpk] at hm
  refine nI ?_
  rw[tN,hcs k (by omega)]
  generalize hO:ao ch k=out at hm hw hm0 hpk
  generalize ch k=c at hc hm hpk
  conv=>whnf
  refine aR.loopF ab ac (fun a:Nat=>a<=out.length) (fun a=>[(21, .int .i64 (a:Int)),(6, .row 1001 (eI (out.take a) c).length 1)]) (fun a=>[(1000,cX out),(1001,cX (eI (out.take a) c))]) (fun a=>out.length-a) 0 (Nat.zero_le _) ?_;conv=>whnf
  refine⟨bE.by_ [(1000, .old 1000),(1001, .nil 1)] _ 400 rfl (ai) (ai),?_⟩
  rintro a ha
  conv=>whnf
  refine ag ?_ ?_<;>(intro g2;conv=>whnf)
  ·have hwa:(out.getD a []).length<=8:=by
    rw[vd (by omega)];exact hw _ (List.getElem_mem _)
   have hup:=nA (c:=c) (show a<out.length by omega)
   refine nI ?_
   rw[tN]
   conv=>whnf
   generalize out.getD a []=h at hwa hup⊢
   have hz0:(List.map (fun x=>h++[x]) (List.take 0 c)).length=0:=by simp
   refine aR.loopF ab ac (fun b:Nat=>b<=c.length) (fun b=>[(27, .int .i64 (b:Int)),(6, .row 1001 (eI (out.take a) c++(c.take b).map fun x=>h++[x]).length 1)]) (fun b=>[(1000,cX out),(1001,cX (eI (out.take a) c++(c.take b).map fun x=>h++[x]))]) (fun b=>c.length-b) 0 (Nat.zero_le _) ?_;conv=>whnf
   refine⟨bE.id_ 400 rfl ⟨rfl,by show bj.row _ _ _ _=bj.row _ _ _ _;simp,trivial⟩ (ai),?_⟩
   rintro b hbb
   conv=>whnf
   refine ag ?_ ?_<;>(intro g3;conv=>whnf)
   ·have hlt:=qc (h:=h) (show a<out.length by omega) (show b<c.length by omega) hm
    have hup2:=nB (h:=h) (show b<c.length by omega)
    have hz1:(List.map (fun x=>h++[x]) (List.take (b+1) c)).length=(List.map (fun x=>h++[x]) (List.take b c)).length+1:=by rw[hup2];simp
    refine nI ?_
    rw[tN]
    conv=>whnf
    refine dA ⟨rfl,rfl⟩ ?_
    conv=>whnf
    refine dA (Nat.succ_pos _) ?_
    conv=>whnf
    refine eC [c.getD b 0] rfl lI ?_
    conv=>whnf
    refine c8 [] eG [h++[c.getD b 0]] rfl ?_
    conv=>whnf
    refine eC [h++[c.getD b 0]] rfl lI ?_
    rw[List.append_assoc,<-hup2]
    conv=>whnf
    repeat' ((first|refine nI ?_|refine aI ?_|refine tI ?_|refine fI ?_|fail);conv=>whnf)
    exact⟨b+1,bE.by_ [(1000, .old 1000),(1001, .old 42)] _ 400 rfl (ai) (ai),by omega,by dsimp only;omega⟩
   ·obtain rfl:b=c.length:=by omega
    rw[List.take_length,<-hup]
    repeat' ((first|refine nI ?_|refine aI ?_|refine tI ?_|refine fI ?_|fail);conv=>whnf)
    exact⟨a+1,sI,by omega,by dsimp only;omega⟩
  ·obtain rfl:a=out.length:=by omega
   rw[List.take_length,<-hpk]
   repeat' ((first|refine nI ?_|refine aI ?_|refine tI ?_|refine fI ?_|fail);conv=>whnf)
   exact⟨k+1,bE.by_ [(1000, .old 1001)] _ 400 rfl (ai) (ai),by omega,by dsimp only;omega⟩
 ·obtain rfl:k=cs.length:=by omega
  exact⟨rfl,rfl⟩
def er (F:Nat) (ch:Nat->List Int):Nat->Nat
 |0=>F
 |k+1=>er F ch k*(ch k).length
def mE (F:Nat) (ch:Nat->List Int) (n:Nat):Prop:=∀k,k<n->er F ch (k+1)<=4000
noncomputable instance decIni (F:Nat) (ch:Nat->List Int) (n:Nat):Decidable (mE F ch n):=Classical.propDecidable _
def dn (p:aq) (s:aB) (sh st:List Int):ap:=⟨sh,st,s.n-s.f,List.replicate p.messages.length 0,List.replicate p.messages.length 0,0⟩
def c0 (p:aq) (s:aB) (forms lp:List (List Int)):List ap:=forms.flatMap fun sh=>lp.map fun st=>dn p s sh st
def hW (p:aq) (s:aB):List (List Int):=if p.topology=4 then b7 s.n.toNat else[[]]
noncomputable def oj (p:aq) (q:bO) (s:aB):AV:=if mE (hW p s).length (cr p q s) (dL p s).toNat then nz (c0 p s (hW p s) (ao (cr p q s) (dL p s).toNat)) 0 else nz [] 4
theorem vf (F:Nat) (ch:Nat->List Int):∀k,er F ch k=F*er 1 ch k
 |0=>by simp[er]
 |k+1=>by simp only[er];rw[vf F ch k,Nat.mul_assoc]
theorem vg (ch:Nat->List Int):∀k,(ao ch k).length=er 1 ch k
 |0=>rfl
 |k+1=>by simp only[ao,er];rw[mD,vg ch k]
theorem qd {F n k:Nat} {ch:Nat->List Int} (hF:F<=5) (hk:k<=n) (ha:∀j,j<k->er F ch (j+1)<=4000):er F ch k<=4000:=by
 cases k with
 |zero=>simp only[er];omega
 |succ k=>exact ha k (by omega)
theorem mF {F n:Nat} {ch:Nat->List Int} (h0:1<=F) (h1:F<=5) (h:mE F ch n):∀k,k<=n->(ao ch k).length<=4000/\F*(ao ch k).length<=4000:=by
 intro k hk
 have ht:er F ch k<=4000:=qd h1 hk (fun j hj=>h j (by omega))
 rw[vf] at ht
 rw[vg]
 have:=Nat.le_mul_of_pos_left (er 1 ch k) (show 0<F by omega)
 omega
theorem i6 (ch:Nat->List Int):∀k,∀w∈ao ch k,w.length=k
 |0,w,h=>by simp only[ao,List.mem_singleton] at h;subst h;rfl
 |k+1,w,h=>by
  simp only[ao,eI,List.mem_flatMap,List.mem_map] at h
  obtain⟨a,ha,x,_,rfl⟩:=h
  have:=i6 ch k a ha
  simp;omega
theorem iu {p:aq} {q:bO} (hp:¬bV p) (hq:¬fC q) (s:aB) (k:Nat):(cr p q s k).length<=60:=by
 have hle:=aC hp
 have hlq:=jE hq
 unfold cr Dm
 (repeat' split)<;>omega
theorem nC:∀m,m<=3->1<=(b7 (2*m+1)).length:=by decide
theorem qe {p:aq} {s:aB} (h:cE p s=0) (ht:p.topology=4):∃m,m<=3/\s.n=((2*m+1:Nat):Int):=by
 have h1:=dY h
 have h2:¬(p.topology=4/\s.n.tmod 2=0):=h1.2.1.2.2.1
 have h3:s.n.tmod 2=s.n % 2:=Int.tmod_eq_emod_of_nonneg (by omega)
 refine⟨(s.n.toNat-1) / 2,by omega,by omega⟩
theorem Eo {n k:Nat} {g:Nat->List Int} (h:k<n):((List.range n).map fun i=>some (g i)).getD k none=some (g k):=by
 rw[gD,List.getElem?_map,List.getElem?_range h];rfl
theorem HN {n k:Nat} (g:Nat->List Int) (h:k<n):(((List.range k).map fun i=>some (g i))++List.replicate (n-k) none).set k (some (g k))=((List.range (k+1)).map fun i=>some (g i))++List.replicate (n-(k+1)) none:=by
 rw[List.set_append_right _ _ (by simp),List.length_map,List.length_range,Nat.sub_self,List.range_succ,List.map_append,List.append_assoc]
 congr 1
 rw[show n-k=(n-(k+1))+1 by omega,List.replicate_succ]
 rfl
theorem k7 {p:aq} {s:aB} {forms W:List (List Int)} {a:Nat} (h:a<forms.length):c0 p s (forms.take (a+1)) W=c0 p s (forms.take a) W++W.map (dn p s (forms.getD a [])):=by
 unfold c0
 rw[List.take_succ_eq_append_getElem h,List.flatMap_append,vd h]
 simp
theorem k8 {p:aq} {s:aB} {sh:List Int} {W:List (List Int)} {b:Nat} (h:b<W.length):(W.take (b+1)).map (dn p s sh)=(W.take b).map (dn p s sh)++[dn p s sh (W.getD b [])]:=by
 rw[List.take_succ_eq_append_getElem h,List.map_append,vd h]
 rfl
theorem qf (p:aq) (s:aB):∀(forms W:List (List Int)),(c0 p s forms W).length=forms.length*W.length
 |[],W=>by simp[c0]
 |h::forms,W=>by
  have ih:=qf p s forms W
  unfold c0 at ih⊢
  rw[List.flatMap_cons,List.length_append,ih,List.length_map,List.length_cons,Nat.add_mul,Nat.one_mul,Nat.add_comm]
theorem mG {p:aq} {s:aB} {forms W:List (List Int)} {sh:List Int} {a b:Nat} (ha:a<forms.length) (hb:b<W.length) (hm:forms.length*W.length<=4000):(c0 p s (forms.take a) W++(W.take b).map (dn p s sh)).length<4000:=by
 rw[List.length_append,qf,List.length_map,List.length_take,List.length_take]
 have h1:(a+1)*W.length<=forms.length*W.length:=Nat.mul_le_mul_right _ (by omega)
 rw[Nat.add_mul,Nat.one_mul] at h1
 rw[show min a forms.length=a by omega,show min b W.length=b by omega]
 omega
theorem B9 (p:aq) (q:bO) (s:aB) (hp:¬bV p) (hq:¬fC q) (hv:db p q=0) (hz:cE p s=0):aa Tryz.prog 144 [.agg (bc p), .agg (gb q), .agg (bW s)] (Jm (oj p q s)):=by
 have hle:=aC hp
 have hsz:=dY hz
 obtain⟨n,hn⟩:∃n:Nat,dL p s=n:=⟨(dL p s).toNat,by unfold dL;split<;>omega⟩
 have hn8:n<=8:=by unfold dL at hn;split at hn<;>omega
 have hM:=uT p s (by omega)
 rw[hn] at hM
 refine aa.intro ab ac Tryz.func144 rfl (by decide) ?_;(conv=>whnf)
 refine am rfl ?_
 conv=>whnf
 refine am rfl ?_
 conv=>whnf
 refine am rfl ?_
 conv=>whnf
 (refine oP (xS p q hp hq hv) ?_;conv=>whnf)
 (refine oP (hM) ?_;conv=>whnf)
 refine yv none jU none rfl (by dsimp only;omega) ?_
 rw[tN]
 conv=>whnf
 refine aR.loopF ab ac (fun k:Nat=>k<=n) (fun k=>[(33, .int .i64 (k:Int))]) (fun k=>[(30,zx (((List.range k).map fun i=>some (cr p q s i))++List.replicate (n-k) none))]) (fun k=>n-k) 0 (Nat.zero_le _) ?_;conv=>whnf
 refine⟨bE.id_ 400 rfl ⟨by show bj.row _ _ _ _=bj.row _ _ _ _;simp,trivial⟩ (ai),?_⟩
 rintro k hk
 conv=>whnf
 refine ag ?_ ?_<;>(intro g1;conv=>whnf)
 ·have hf:=HN (cr p q s) (show k<n by omega)
  have he:=cr.eq_1 p q s k
  by_cases h1:k=0/\0<p.leader.length
  ·rw[if_pos h1] at he
   repeat' ((first|refine nI ?_|refine aI ?_|refine tI ?_|refine fI ?_|fail);conv=>whnf)
   refine ak (some p.leader) rfl ?_
   rw[tN,<-he,hf]
   conv=>whnf
   repeat' ((first|refine nI ?_|refine aI ?_|refine tI ?_|refine fI ?_|fail);conv=>whnf)
   exact⟨k+1,sI,by omega,by dsimp only;omega⟩
  rw[if_neg h1] at he
  by_cases h2:(k:Int)<s.n-s.f
  ·rw[if_pos h2] at he
   by_cases h3:k=0
   all_goals
    repeat' ((first|refine nI ?_|refine aI ?_|refine tI ?_|refine fI ?_|fail);conv=>whnf)
    refine ak (some (Dm p q)) rfl ?_
    rw[tN,<-he,hf]
    conv=>whnf
    repeat' ((first|refine nI ?_|refine aI ?_|refine tI ?_|refine fI ?_|fail);conv=>whnf)
    exact⟨k+1,sI,by omega,by dsimp only;omega⟩
  ·rw[if_neg h2] at he
   by_cases h3:k=0
   all_goals
    repeat' ((first|refine nI ?_|refine aI ?_|refine tI ?_|refine fI ?_|fail);conv=>whnf)
    refine ak (some p.initial) rfl ?_
    rw[tN,<-he,hf]
    conv=>whnf
    repeat' ((first|refine nI ?_|refine aI ?_|refine tI ?_|refine fI ?_|fail);conv=>whnf)
    exact⟨k+1,sI,by omega,by dsimp only;omega⟩
 obtain rfl:n=k:=by omega
 rw[Nat.sub_self,List.replicate_zero,List.append_nil]
 by_cases hT:p.topology=4
 case pos=>
  obtain⟨m,hm,hsn⟩:=qe hz hT
  have hF0:=nC m hm
  have hF1:=(fv (n:=2*m+1) (by omega)).1
  have hF2:=(fv (n:=2*m+1) (by omega)).2
  have hS:=rK m hm
  rw[<-hsn] at hS
  refine c8 none jU [none] rfl ?_
  conv=>whnf
  repeat' ((first|refine nI ?_|refine aI ?_|refine tI ?_|refine fI ?_|fail);conv=>whnf)
  (refine oP (hS) ?_;conv=>whnf)
  have hform:hW p s=(b7 (2*m+1)):=by unfold hW;rw[if_pos hT];rw[hsn];rfl
  have he:oj p q s=if mE (b7 (2*m+1)).length (cr p q s) n then nz (c0 p s (b7 (2*m+1)) (ao (cr p q s) n)) 0 else nz [] 4:=by
   unfold oj;rw[hform,hn];rfl
  refine aR.loopF ab ac (fun k:Nat=>k<=n/\∀j,j<k->er (b7 (2*m+1)).length (cr p q s) (j+1)<=4000) (fun k=>[(79, .int .i64 (k:Int)),(68, .top),(13, .int .i64 (er (b7 (2*m+1)).length (cr p q s) k:Int))]) (fun k=>[(30,zx ((List.range n).map fun i=>some (cr p q s i)))]) (fun k=>n-k) 0 ⟨by omega,fun j hj=>by omega⟩ ?_;conv=>whnf
  refine⟨sI,?_⟩
  rintro k ⟨hk,ha⟩
  conv=>whnf
  refine ag ?_ ?_<;>(intro g1;conv=>whnf)
  ·have hck:=iu hp hq s k
   have htk:er (b7 (2*m+1)).length (cr p q s) k<=4000:=qd hF1 hk ha
   have hmul:=Nat.mul_le_mul htk hck
   have hup:er (b7 (2*m+1)).length (cr p q s) (k+1)=er (b7 (2*m+1)).length (cr p q s) k*(cr p q s k).length:=rfl
   refine dA (by first|omega|(simp only[List.length_map,List.length_range];omega)) ?_
   conv=>whnf
   rw[tN,Eo (by omega)]
   conv=>whnf
   rw[<-Int.natCast_mul,<-hup]
   refine aI ?_
   conv=>whnf
   refine ag ?_ ?_<;>(intro g2;conv=>whnf)
   ·rw[if_neg (fun hb=>by have:=hb k (by omega);omega)] at he
    exact⟨.inr ⟨4,rfl,he⟩,rfl⟩
   ·repeat' ((first|refine nI ?_|refine aI ?_|refine tI ?_|refine fI ?_|fail);conv=>whnf)
    refine⟨k+1,sI,⟨by omega,fun j hj=>?_⟩,by dsimp only;omega⟩
    by_cases e:j=k
    ·subst e;omega
    ·exact ha j (by omega)
  have hB:mE (b7 (2*m+1)).length (cr p q s) n:=fun j hj=>ha j (by omega)
  rw[if_pos hB] at he
  have hpl:=mF (F:=(b7 (2*m+1)).length) (ch:=cr p q s) hF0 (by omega) hB
  have hpw:=i6 (cr p q s)
  have hcl:((List.range n).map fun i=>some (cr p q s i)).length=n:=by simp
  have hP:=ve ((List.range n).map fun i=>some (cr p q s i)) (cr p q s) (fun k hk=>Eo (by omega)) (fun k hk=>(hpl k (by omega)).1) (fun k hk=>iu hp hq s k) (by omega) (fun k hk w hw=>by have:=hpw k w hw;omega)
  rw[hcl] at hP
  have hwl:=(hpl n (Nat.le_refl n)).2
  have hwn:=hpw n
  have hw4:=(hpl n (Nat.le_refl n)).1
  generalize ao (cr p q s) n=W at hP hwl hwn he hw4
  generalize hC:((List.range n).map fun i=>some (cr p q s i))=C at hP
  refine aR.loopF ab ac (fun a:Nat=>a<=(b7 (2*m+1)).length) (fun a=>[(92, .int .i64 (a:Int)),(16, .row 1000 (c0 p s ((b7 (2*m+1)).take a) W).length 6),(10, .sl none jU C),(30, .sl none jU C),(31, .sl none jU C),(77, .sl none jU C)]) (fun a=>[(1000,iI (c0 p s ((b7 (2*m+1)).take a) W))]) (fun a=>(b7 (2*m+1)).length-a) 0 (Nat.zero_le _) ?_;conv=>whnf
  refine⟨bE.leak 30 rfl (bE.by_ [(1000, .nil 6)] _ 400 rfl (ai) (ai)),?_⟩
  rintro a ha
  conv=>whnf
  refine ag ?_ ?_<;>(intro g2;conv=>whnf)
  ·have hup:=k7 (p:=p) (s:=s) (W:=W) (show a<(b7 (2*m+1)).length by omega)
   refine nI ?_
   rw[tN]
   have hsh:((b7 (2*m+1)).getD a []).length<=8:=by rw[vd (by omega)];exact hF2 _ (List.getElem_mem _)
   generalize (b7 (2*m+1)).getD a []=sh at hsh hup
   conv=>whnf
   have hz0:(List.map (dn p s sh) (List.take 0 W)).length=0:=by simp
   (refine oP (hP) ?_;conv=>whnf)
   refine aR.loopF ab ac (fun b:Nat=>b<=W.length) (fun b=>[(99, .int .i64 (b:Int)),(16, .row 1000 (c0 p s ((b7 (2*m+1)).take a) W++(W.take b).map (dn p s sh)).length 6),(18, .sl 0 aD sh)]) (fun b=>[(1000,iI (c0 p s ((b7 (2*m+1)).take a) W++(W.take b).map (dn p s sh)))]) (fun b=>W.length-b) 0 (Nat.zero_le _) ?_;conv=>whnf
   refine⟨bE.id_ 400 rfl ⟨by show bj.row _ _ _ _=bj.row _ _ _ _;simp,trivial⟩ (ai),?_⟩
   rintro b hb
   conv=>whnf
   refine ag ?_ ?_<;>(intro g3;conv=>whnf)
   ·have hlt:=mG (p:=p) (s:=s) (sh:=sh) (show a<(b7 (2*m+1)).length by omega) (show b<W.length by omega) hwl
    have hup2:=k8 (p:=p) (s:=s) (sh:=sh) (show b<W.length by omega)
    have hz1:(List.map (dn p s sh) (List.take (b+1) W)).length=(List.map (dn p s sh) (List.take b W)).length+1:=by rw[hup2];simp
    refine nI ?_
    rw[tN]
    conv=>whnf
    refine dG (by decide+kernel) ?_
    conv=>whnf
    refine nI ?_
    conv=>whnf
    refine aI ?_
    conv=>whnf
    refine yv 0 aD 0 rfl (by dsimp only;omega) ?_
    conv=>whnf
    refine yv 0 aD 0 rfl (by dsimp only;omega) ?_
    rw[tN]
    conv=>whnf
    refine c8 aA aY [dn p s sh (W.getD b [])] rfl ?_
    conv=>whnf
    refine jN ?_
    conv=>whnf
    refine eC [dn p s sh (W.getD b [])] rfl lI ?_
    rw[List.append_assoc,<-hup2]
    conv=>whnf
    repeat' ((first|refine nI ?_|refine aI ?_|refine tI ?_|refine fI ?_|fail);conv=>whnf)
    exact⟨b+1,bE.by_ [(1000, .old 122)] _ 400 rfl (ai) (ai),by omega,by dsimp only;omega⟩
   ·obtain rfl:b=W.length:=by omega
    rw[List.take_length,<-hup]
    repeat' ((first|refine nI ?_|refine aI ?_|refine tI ?_|refine fI ?_|fail);conv=>whnf)
    exact⟨a+1,sI,by omega,by dsimp only;omega⟩
  ·obtain rfl:a=(b7 (2*m+1)).length:=by omega
   rw[List.take_length]
   exact⟨.inl he.symm,rfl⟩
 case neg=>
  have hF0:1<=1:=Nat.le_refl 1
  have hF1:1<=5:=by omega
  have hl1:[([]:List Int)].length=1:=rfl
  have hg0:∀a,a<1->([none]:List (Option (List Int))).getD a none=none:=fun a h=>by rw[show a=0 by omega];rfl
  refine c8 none jU [none] rfl ?_
  conv=>whnf
  repeat' ((first|refine nI ?_|refine aI ?_|refine tI ?_|refine fI ?_|fail);conv=>whnf)
  have hform:hW p s=[([]:List Int)]:=by unfold hW;rw[if_neg hT]
  have he:oj p q s=if mE 1 (cr p q s) n then nz (c0 p s [([]:List Int)] (ao (cr p q s) n)) 0 else nz [] 4:=by
   unfold oj;rw[hform,hn];rfl
  refine aR.loopF ab ac (fun k:Nat=>k<=n/\∀j,j<k->er 1 (cr p q s) (j+1)<=4000) (fun k=>[(79, .int .i64 (k:Int)),(13, .int .i64 (er 1 (cr p q s) k:Int))]) (fun k=>[(30,zx ((List.range n).map fun i=>some (cr p q s i))),(68,zx [none])]) (fun k=>n-k) 0 ⟨by omega,fun j hj=>by omega⟩ ?_;conv=>whnf
  refine⟨sI,?_⟩
  rintro k ⟨hk,ha⟩
  conv=>whnf
  refine ag ?_ ?_<;>(intro g1;conv=>whnf)
  ·have hck:=iu hp hq s k
   have htk:er 1 (cr p q s) k<=4000:=qd hF1 hk ha
   have hmul:=Nat.mul_le_mul htk hck
   have hup:er 1 (cr p q s) (k+1)=er 1 (cr p q s) k*(cr p q s k).length:=rfl
   refine dA (by first|omega|(simp only[List.length_map,List.length_range];omega)) ?_
   conv=>whnf
   rw[tN,Eo (by omega)]
   conv=>whnf
   rw[<-Int.natCast_mul,<-hup]
   refine aI ?_
   conv=>whnf
   refine ag ?_ ?_<;>(intro g2;conv=>whnf)
   ·rw[if_neg (fun hb=>by have:=hb k (by omega);omega)] at he
    exact⟨.inr ⟨4,rfl,he⟩,rfl⟩
   ·repeat' ((first|refine nI ?_|refine aI ?_|refine tI ?_|refine fI ?_|fail);conv=>whnf)
    refine⟨k+1,sI,⟨by omega,fun j hj=>?_⟩,by dsimp only;omega⟩
    by_cases e:j=k
    ·subst e;omega
    ·exact ha j (by omega)
  have hB:mE 1 (cr p q s) n:=fun j hj=>ha j (by omega)
  rw[if_pos hB] at he
  have hpl:=mF (F:=1) (ch:=cr p q s) hF0 (by omega) hB
  have hpw:=i6 (cr p q s)
  have hcl:((List.range n).map fun i=>some (cr p q s i)).length=n:=by simp
  have hP:=ve ((List.range n).map fun i=>some (cr p q s i)) (cr p q s) (fun k hk=>Eo (by omega)) (fun k hk=>(hpl k (by omega)).1) (fun k hk=>iu hp hq s k) (by omega) (fun k hk w hw=>by have:=hpw k w hw;omega)
  rw[hcl] at hP
  have hwl:=(hpl n (Nat.le_refl n)).2
  have hwn:=hpw n
  have hw4:=(hpl n (Nat.le_refl n)).1
  generalize ao (cr p q s) n=W at hP hwl hwn he hw4
  generalize hC:((List.range n).map fun i=>some (cr p q s i))=C at hP
  refine aR.loopF ab ac (fun a:Nat=>a<=[([]:List Int)].length) (fun a=>[(92, .int .i64 (a:Int)),(16, .row 1000 (c0 p s ([([]:List Int)].take a) W).length 6),(10, .sl none jU C),(30, .sl none jU C),(31, .sl none jU C),(77, .sl none jU C)]) (fun a=>[(1000,iI (c0 p s ([([]:List Int)].take a) W)),(68,zx [none])]) (fun a=>[([]:List Int)].length-a) 0 (Nat.zero_le _) ?_;conv=>whnf
  refine⟨bE.leak 30 rfl (bE.by_ [(1000, .nil 6),(68, .old 68)] _ 400 rfl (ai) (ai)),?_⟩
  rintro a ha
  conv=>whnf
  refine ag ?_ ?_<;>(intro g2;conv=>whnf)
  ·have hup:=k7 (p:=p) (s:=s) (W:=W) (show a<[([]:List Int)].length by omega)
   refine nI ?_
   have ha0:a=0:=by omega
   have hsh:([]:List Int).length<=8:=by simp
   rw[show[([]:List Int)].getD a []=[] by rw[ha0];rfl] at hup
   conv=>whnf
   rw[tN,hg0 a (by omega)]
   conv=>whnf
   have hz0:(List.map (dn p s ([]:List Int)) (List.take 0 W)).length=0:=by simp
   (refine oP (hP) ?_;conv=>whnf)
   refine aR.loopF ab ac (fun b:Nat=>b<=W.length) (fun b=>[(99, .int .i64 (b:Int)),(16, .row 1000 (c0 p s ([([]:List Int)].take a) W++(W.take b).map (dn p s ([]:List Int))).length 6),(18, .sl 0 aD ([]:List Int))]) (fun b=>[(1000,iI (c0 p s ([([]:List Int)].take a) W++(W.take b).map (dn p s ([]:List Int)))),(68,zx [none])]) (fun b=>W.length-b) 0 (Nat.zero_le _) ?_;conv=>whnf
   refine⟨bE.id_ 400 rfl ⟨by show bj.row _ _ _ _=bj.row _ _ _ _;simp,rfl,trivial⟩ (ai),?_⟩
   rintro b hb
   conv=>whnf
   refine ag ?_ ?_<;>(intro g3;conv=>whnf)
   ·have hlt:=mG (p:=p) (s:=s) (sh:=([]:List Int)) (show a<[([]:List Int)].length by omega) (show b<W.length by omega) hwl
    have hup2:=k8 (p:=p) (s:=s) (sh:=([]:List Int)) (show b<W.length by omega)
    have hz1:(List.map (dn p s ([]:List Int)) (List.take (b+1) W)).length=(List.map (dn p s ([]:List Int)) (List.take b W)).length+1:=by rw[hup2];simp
    refine nI ?_
    rw[tN]
    conv=>whnf
    refine dG (by decide+kernel) ?_
    conv=>whnf
    refine nI ?_
    conv=>whnf
    refine aI ?_
    conv=>whnf
    refine yv 0 aD 0 rfl (by dsimp only;omega) ?_
    conv=>whnf
    refine yv 0 aD 0 rfl (by dsimp only;omega) ?_
    rw[tN]
    conv=>whnf
    refine c8 aA aY [dn p s ([]:List Int) (W.getD b [])] rfl ?_
    conv=>whnf
    refine jN ?_
    conv=>whnf
    refine eC [dn p s ([]:List Int) (W.getD b [])] rfl lI ?_
    rw[List.append_assoc,<-hup2]
    conv=>whnf
    repeat' ((first|refine nI ?_|refine aI ?_|refine tI ?_|refine fI ?_|fail);conv=>whnf)
    exact⟨b+1,bE.by_ [(1000, .old 122),(68, .old 68)] _ 400 rfl (ai) (ai),by omega,by dsimp only;omega⟩
   ·obtain rfl:b=W.length:=by omega
    rw[List.take_length,<-hup]
    repeat' ((first|refine nI ?_|refine aI ?_|refine tI ?_|refine fI ?_|fail);conv=>whnf)
    exact⟨a+1,sI,by omega,by dsimp only;omega⟩
  ·obtain rfl:a=[([]:List Int)].length:=by omega
   rw[List.take_length]
   exact⟨.inl he.symm,rfl⟩
end Go.Proofs.YtblcpnmnibcbbaaGreatDoor
