import Derived.Test.YtokjgegkhlkopaaGreatDoorLbV
import Derived.Test.YtokjgegkhlkopaaGreatDoorLbZ
import Derived.Test.YtokjgegkhlkopaaGreatDoorMI
set_option linter.unusedVariables false
set_option linter.unusedSimpArgs false
namespace Go.Proofs.YtokjgegkhlkopaaGreatDoor
section
section
variable {p:ao} {q:bn} {s:az} {l:List ap} {ss:List (List aQ)} {tt:List (List Int)}
theorem lS.ttok (I:lS p q s l ss tt) (hl:ss.length=l.length) (hn:l.length<=4000) (hf:yq ss):z5 tt l.length:=by
 refine⟨by rw[I.tl,hl],hn,fun i hi=>?_⟩
 obtain⟨a,b⟩:=I.ed i (by omega)
 refine⟨by rw[a];exact hf _ (aG [] (by omega)),fun m hm=>?_⟩
 obtain⟨j,c1,c2,_⟩:=b m (by omega)
 exact⟨j,c1,c2⟩
theorem lS.gdok (S:fV p q s) (I:lS p q s l ss tt) (hl:ss.length=l.length) (hn:l.length<=4000) (hf:yq ss) {pl:List Int} (hp:pl.length=l.length):Lm p s l ss tt pl:=by
 refine⟨I.ttok hl hn hf,fun i hi=>?_,hl,fun i hi=>(I.ed i (by omega)).1,hp⟩
 obtain⟨n,hw⟩:=I.rp _ (aG aC hi)
 exact hw.rdy S
theorem mt {n a k:Nat} {pt:Nat->Option Nat} (h:a<n):(eW n pt).getD a 0=(k:Int)↔pt a=some k:=by
 rw[eW,gD,List.getElem?_map,List.getElem?_range h]
 show(match pt a with|some m=>(m:Int)|none=>-1)=(k:Int)↔_
 cases pt a with
 |none=>simp
 |some m=>
  show(m:Int)=(k:Int)↔some m=some k
  rw[Option.some.injEq]
  omega
theorem lS.fa (I:lS p q s l ss tt) (hl:ss.length=l.length) {od:List Nat} {n N k:Nat} {pt:Nat->Option Nat} (K:KP (fun i=>i∈od) (fun a b=>∃x,eK q l ss tt a x b) n pt) (hod:∀x∈od,x<l.length/\qm q l x=false)
  (hN:s.n-s.f<=N) (hcor:∀i,i<l.length->(l.getD i aC).correct=s.n-s.f):
  Db p s l ss tt (eW l.length pt) (k:Int) N↔∃i,i∈od/\pt i=some k/\∀r m:Nat,r<p.rules.length->(m:Int)<s.n-s.f->K3 p s (fun i=>i∈od) (fun i=>l.getD i aC) (eK q l ss tt) pt (some k) r m:=by
 have hms:∀a,a∈yw (eW l.length pt) (k:Int) l.length↔pt a=some k:=by
  intro a
  rw[Bx]
  constructor
  ·rintro⟨h1,h2⟩;exact(mt h1).1 h2
  ·intro h
   have ha:=(hod a (K.on a (by rw[h];simp))).1
   exact⟨ha,(mt ha).2 h⟩
 have hon:∀a,pt a=some k->a∈od:=fun a h=>K.on a (by rw[h];simp)
 constructor
 ·rintro⟨⟨a,ha,h1⟩,h2⟩
  have hpa:=(mt ha).1 h1
  refine⟨a,hon a hpa,hpa,fun r m hr hm=>?_⟩
  rcases h2 r m hr (by omega) with ⟨b,hb,hf⟩|⟨b,hb,m',hm',e1,e2,e3⟩
  ·have:=(hms b).1 hb
   exact .inl ⟨b,hon b this,this,hf⟩
  ·have hpb:=(hms b).1 hb
   have hbl:=(hod b (hon b hpb)).1
   obtain⟨j,c1,c2,_⟩:=(I.ed b (by omega)).2 m' hm'
   rw[c1,tN] at e3
   have hpj:=(mt c2).1 e3
   exact .inr ⟨b,_,j,hon b hpb,hpb,⟨m',hm',rfl,c1,(hod j (hon j hpj)).2⟩,hpj,e1,e2⟩
 ·rintro⟨i,hi,hpi,h⟩
  have hil:=(hod i hi).1
  refine⟨⟨i,hil,(mt hil).2 hpi⟩,fun r m hr hm=>?_⟩
  by_cases hmc:(m:Int)<s.n-s.f
  ·rcases h r m hr hmc with ⟨j,_,h1,h2⟩|⟨j,x,j',_,h1,⟨m',hm',e1,e2,_⟩,h3,h4,h5⟩
   ·exact .inl ⟨j,(hms j).2 h1,h2⟩
   ·refine .inr ⟨j,(hms j).2 h1,m',hm',by rw[e1];exact h4,by rw[e1];exact h5,?_⟩
    rw[e2,tN]
    have hj':=(hod j' (hon j' h3)).1
    exact(mt hj').2 h3
  ·refine .inl ⟨i,(hms i).2 hpi,fun hf=>?_⟩
   have h1:=hf.1
   rw[hcor i hil] at h1
   exact hmc h1
theorem lS.ans (S:fV p q s) (I:lS p q s l ss tt) (hl:ss.length=l.length) (hn:l.length<=4000) (hi:om p q s) {t:KS} {n N:Nat} {pt:Nat->Option Nat} (G:ym p q s (fun i=>i∈t.od) (fun i=>l.getD i aC) (eK q l ss tt)) (g:KG (jr tt) (qm q l) t)
  (K:KP (fun i=>i∈t.od) (fun a b=>∃x,eK q l ss tt a x b) n pt) (ha:∀x,x∈t.od->pt x≠none) (hno:n<=t.od.length) (hin:∀x∈t.od,x<l.length) (hN:s.n-s.f<=N) (hcor:∀i,i<l.length->(l.getD i aC).correct=s.n-s.f) {is:Bool}
  (h:is=true↔∃k:Nat,k<t.od.length/\Db p s l ss tt (eW l.length pt) (k:Int) N):LaQ p q s is 0:=by
 have hok:=I.okT S hl hn hi
 have hod:∀x∈t.od,x<l.length/\qm q l x=false:=fun x hx=>⟨hin x hx,(g.on x hx).2⟩
 refine⟨fun _=>⟨rfl,?_⟩,fun k=>absurd hok k⟩
 rw[h]
 unfold Nk
 rw[G.any K ha]
 constructor
 ·rintro⟨k,_,hk⟩
  obtain⟨i,h1,h2,h3⟩:=(I.fa hl K hod hN hcor).1 hk
  exact⟨i,h1,by rw[h2];exact h3⟩
 ·rintro⟨i,h1,h2⟩
  obtain⟨k,hk⟩:=Option.ne_none_iff_exists'.1 (ha i h1)
  rw[hk] at h2
  have:=K.lt i k hk
  exact⟨k,by omega,(I.fa hl K hod hN hcor).2 ⟨i,h1,hk,h2⟩⟩
end
end
section
set_option maxRecDepth 100000
set_option maxHeartbeats 16000000
def OZ (p:ao) (s:az) (l:List ap) (o:List Int) (ss:List (List aQ)) (tt:List (List Int)) (x y z:AV):aX:=.box 71 [.str p.name, .int .i64 p.topology, .sl t0 cR p.states, .sl t0 cR p.messages, .sl t0 cR p.values, .int .i64 p.fault, .sl i0 eE p.resilience, .sl 0 aD p.initial, .sl 0 aD p.leader, .sl au fD p.rules, .int .i64 s.n, .int .i64 s.t, .int .i64 s.f, .sl aC bg l, .sl 0 aD o, .sl [] uE ss, .sl [] cU tt,x,y,z]
noncomputable def Zqa (q:bn) (l:List ap) (i:Nat) (j:Nat):Bool:=if j<i then qm q l j else false
theorem Zqc {q:bn} {l:List ap} {i:Nat}:cQ (Zqa q l i) i (qm q l i)=Zqa q l (i+1):=by
 funext j
 unfold Zqa
 by_cases e:j=i
 ·subst e;rw[bJ,if_pos (by omega)]
 ·rw[bq _ _ e]
  by_cases h:j<i
  ·rw[if_pos h,if_pos (by omega)]
  ·rw[if_neg h,if_neg (by omega)]
theorem Zqb {q:bn} {l:List ap}:i8 l.length (Zqa q l l.length)=i8 l.length (qm q l):=by
 unfold i8
 refine List.map_congr_left fun j hj=>?_
 unfold Zqa
 rw[if_pos (List.mem_range.1 hj)]
def we (n i:Nat):List Int:=(List.range n).map fun j=>if j<i then -1 else 0
theorem Nc (n i:Nat):(we n i).length=n:=by simp[we]
theorem Ny (n i:Nat):(we n i).set i (-1)=we n (i+1):=by
 unfold we
 rw[v6]
 refine List.map_congr_left fun j _=>?_
 by_cases e:j=i
 ·subst e;rw[bJ,if_pos (by omega)]
 ·rw[bq _ _ e]
  by_cases h:j<i
  ·rw[if_pos h,if_pos (by omega)]
  ·rw[if_neg h,if_neg (by omega)]
theorem LH (n:Nat):we n 0=List.replicate n 0:=by
 unfold we
 refine List.ext_getElem (by simp) fun i h1 h2=>?_
 simp
theorem Nd (n:Nat):we n n=eW n fun _=>none:=by
 unfold we eW
 refine List.map_congr_left fun j hj=>?_
 rw[if_pos (List.mem_range.1 hj)]
theorem LI (q:bn) (l:List ap) (n:Nat):i8 n (Zqa q l 0)=List.replicate n false:=by
 unfold i8
 refine List.ext_getElem (by simp) fun i h1 h2=>?_
 simp[Zqa]
structure Ob (l frst:List ap) (ks:List Nat):Prop where
 le:ks.length<=frst.length
 lt:∀k∈ks,k<l.length
 at_:∀j,j<ks.length->l.getD (ks.getD j 0) aC=frst.getD j aC
theorem Ob.snoc {l frst:List ap} {ks:List Nat} {k:Nat} (h:Ob l frst ks) (hl:ks.length<frst.length) (hk:k<l.length) (e:l.getD k aC=frst.getD ks.length aC):Ob l frst (ks++[k]):=by
 refine⟨by rw[List.length_append];simp only[List.length_cons,List.length_nil];omega,fun x hx=>?_,fun j hj=>?_⟩
 ·rcases List.mem_append.1 hx with hx|hx
  ·exact h.lt x hx
  ·rw[List.mem_singleton.1 hx];exact hk
 ·rw[List.length_append] at hj
  simp only[List.length_cons,List.length_nil] at hj
  by_cases e2:j=ks.length
  ·subst e2
   rw[show(ks++[k]).getD ks.length 0=k by simp]
   exact e
  ·rw[gu (show j<ks.length by omega)]
   exact h.at_ j (by omega)
theorem LaQ.exA (p:ao) (q:bn) (s:az):∃is e,LaQ p q s is e:=by
 by_cases c:F7 p q s
 ·by_cases h:Nk p q s
  ·exact⟨true,0,fun _=>⟨rfl,⟨fun _=>h,fun _=>rfl⟩⟩,fun k=>absurd c k⟩
  ·exact⟨false,0,fun _=>⟨rfl,⟨fun k=>(by cases k),fun k=>absurd k h⟩⟩,fun k=>absurd c k⟩
 ·exact⟨false,4,fun k=>absurd k c,fun _=>⟨rfl,rfl⟩⟩
theorem Lr.exA (p:ao) (q:bn) (s:az):∃is e,Lr p q s is e:=by
 by_cases h0:dB p q s=0
 ·by_cases h1:q.kind=2
  ·obtain⟨is,e,h⟩:=LaQ.exA p q s
   exact⟨is,e,fun k=>absurd h0 k,fun _ k=>absurd h1 k,fun _ _=>h⟩
  ·exact⟨false,7,fun k=>absurd h0 k,fun _ _=>⟨rfl,rfl⟩,fun _ k=>absurd k h1⟩
 ·exact⟨false,dB p q s,fun _=>⟨rfl,rfl⟩,fun k=>absurd k h0,fun k=>absurd k h0⟩
theorem Lr.oneA {p:ao} {q:bn} {s:az} {is is':Bool} {e e':Int} (h:Lr p q s is e) (k:Lr p q s is' e'):is=is'/\e=e':=by
 by_cases h0:dB p q s=0
 ·by_cases h1:q.kind=2
  ·exact(h.ok h0 h1).one (k.ok h0 h1)
  ·obtain⟨a,b⟩:=h.kind h0 h1
   obtain⟨c,d⟩:=k.kind h0 h1
   exact⟨by rw[a,c],by rw[b,d]⟩
 ·obtain⟨a,b⟩:=h.bad h0
  obtain⟨c,d⟩:=k.bad h0
  exact⟨by rw[a,c],by rw[b,d]⟩
abbrev Ph:=List Nat×KS
theorem O9 (p:ao) (q:bn) (s:az) (hp:¬b9 p) (hq:¬eU q):ae Tryz.prog 8 [.agg (bf p), .agg (eh q), .agg (b7 s)] (fun u=>∃is e,u= .tup [.bool is, .int .i64 e]/\Lr p q s is e):=by
 refine ae.introW ab Tryz.func8 rfl (by decide) ?_
 dsimp only[mv,List.append,List.length,Nat.sub]
 refine aE.seqC ab ac ?_
 conv=>whnf
 refine am rfl ?_
 conv=>whnf
 refine am rfl ?_
 conv=>whnf
 refine am rfl ?_
 conv=>whnf
 refine aE.seqC ab ac ?_
 conv=>whnf
 (refine oP (rR p q s hp hq) ?_;conv=>whnf)
 refine ah ?_ ?_<;>(intro h1;conv=>whnf)
 ·exact⟨⟨false,_,rfl,fun _=>⟨rfl,rfl⟩,fun h=>absurd h h1,fun h=>absurd h h1⟩,rfl⟩
 have h0:dB p q s=0:=by omega
 refine aE.seqC ab ac ?_
 conv=>whnf
 refine ah ?_ ?_<;>(intro h2;conv=>whnf)
 ·exact⟨⟨false,7,rfl,fun h=>absurd h0 h,fun _ _=>⟨rfl,rfl⟩,fun _ h=>absurd h h2⟩,rfl⟩
 have h2':q.kind=2:=by omega
 have S:fV p q s:=⟨hp,hq,h0⟩
 have hI:=ME p q s hp hq S.siz.1 S.siz.2
 have fin:∀{is e},LaQ p q s is e->Lr p q s is e:=fun h=>⟨fun k=>absurd h0 k,fun _ k=>absurd h2' k,fun _ _=>h⟩
 have no:¬F7 p q s->Lr p q s false 4:=fun h=>fin ⟨fun k=>absurd k h,fun _=>⟨rfl,rfl⟩⟩
 by_cases hi:om p q s
 case neg=>
  rw[Ni hi] at hI
  refine aE.seqC ab ac ?_
  conv=>whnf
  refine an.of_pure (n:=5) hI rfl ?_
  rintro _ (rfl|⟨rfl,_⟩)
  all_goals
   conv=>whnf
   refine aE.seqC ab ac ?_
   conv=>whnf
   exact⟨⟨false,4,rfl,no fun h=>hi h.1⟩,rfl⟩
 rw[MQ hi] at hI
 have hX:=(Ih S hi).1
 have hX1:∀c∈lP p q s,lH p q s c:=fun c hc=>(lQ S).1 hc
 have hX2:∀c,lH p q s c->c∈lP p q s:=fun c hc=>(lQ S).2 hc
 refine aE.seqC ab ac ?_
 conv=>whnf
 refine an.of_pure (n:=5) hI rfl ?_
 rintro _ (rfl|⟨_,hh⟩)
 case inr=>
  have:=congrArg Prod.snd hh
  cases this
 generalize lP p q s=frst at hX hX1 hX2⊢
 conv=>whnf
 refine aE.seqC ab ac ?_
 conv=>whnf
 refine aE.seqC ab ac ?_
 conv=>whnf
 refine aE.seqC ab ac ?_
 conv=>whnf
 refine an.call [(7001, .old 11)] (OB p s) 400 rfl (aa) (aa) (N2 p q s S frst hX1 hX2 (by omega)) ?_
 rintro u M' ⟨l,o,ss,tt,I,hs,⟨hl,⟨hn,hf⟩,rfl⟩|⟨hno,rfl⟩,rfl⟩
 case inr=>
  refine⟨[(11, .old 7001),(7002, .old 7002),(7003, .old 7003),(7008, .old 7008),(7009, .old 7009)],[(11,Lj p s 7002 7003 l.length o.length ss.length),(7002,kS l),(7003,bG o),(7008,Gk ss),(7009,cJ tt)], .bool false,rfl,(aa),rfl,?_⟩
  conv=>whnf
  exact⟨⟨false,4,rfl,no hno⟩,rfl⟩
 refine⟨[(11, .old 7001),(7002, .old 7002),(7003, .old 7003),(7008, .old 7008),(7009, .old 7009)],[(11,Lj p s 7002 7003 l.length o.length ss.length),(7002,kS l),(7003,bG o),(7008,Gk ss),(7009,cJ tt)], .bool true,rfl,(aa),rfl,?_⟩
 conv=>whnf
 refine aE.lend [7002,7003,7008,7009] 5 ?_
 conv=>whnf
 refine aE.seqC ab ac ?_
 conv=>whnf
 refine aE.seqC ab ac ?_
 conv=>whnf
 refine ww false yr false rfl (by dsimp only;omega) ?_
 rw[tN]
 conv=>whnf
 refine aE.seqC ab ac ?_
 conv=>whnf
 refine ww 0 aD 0 rfl (by dsimp only;omega) ?_
 rw[tN]
 conv=>whnf
 have hz1:=LI q l l.length
 have hz2:=LH l.length
 have hw:∀d∈l,bc d=false:=fun d hd=>by
  obtain⟨m,hm⟩:=I.rp d hd
  exact(hm.rdy S).wide
 have hrd:∀i,i<l.length->c9 p s (l.getD i aC):=fun i hi=>by
  obtain⟨m,hm⟩:=I.rp _ (aG aC hi)
  exact hm.rdy S
 have ht:=I.ttok hl hn hf
 refine aE.seqC ab ac ?_
 conv=>whnf
 refine aE.loopF ab ac (fun i:Nat=>i<=l.length) (fun i=>[(13, .int .i64 (i:Int))]) (fun i=>[(11,OZ p s l o ss tt (.row 47 l.length 1) .nilsl (.row 50 l.length 1)),(47,yu (i8 l.length (Zqa q l i))),(50,bG (we l.length i))]) (fun i=>l.length-i) 0 (Nat.zero_le _) ?_;conv=>whnf
 refine⟨?_,?_⟩
 ·rw[hz1,hz2]
  exact aM.by_ [(11, .old 11),(47, .old 47),(50, .old 50)] _ 400 rfl (aa) (aa)
 rintro i hi2
 have hs1:=oz l.length (Zqa q l i)
 have hs2:=Nc l.length i
 conv=>whnf
 refine ah ?_ ?_<;>(intro g1;conv=>whnf)
 ·have hil:i<l.length:=by omega
  have hr:=hrd i hil
  have hup:(i8 l.length (Zqa q l i)).set i (qm q l i)=i8 l.length (Zqa q l (i+1)):=by rw[yv,Zqc]
  have hR:=xC q (l.getD i aC) hq hr.wide hr.plain.2
  rw[show decide (c8 q (l.getD i aC))=qm q l i from rfl] at hR
  refine dR ?_
  conv=>whnf
  refine nI ?_
  rw[tN]
  conv=>whnf
  (refine oC (hR) ?_;conv=>whnf)
  refine nI ?_
  rw[tN]
  conv=>whnf
  refine ak (qm q l i) rfl ?_
  rw[hup]
  conv=>whnf
  refine nI ?_
  rw[tN]
  conv=>whnf
  refine ak (-1) rfl ?_
  rw[Ny]
  conv=>whnf
  repeat' ((first|refine nI ?_|refine aI ?_|refine tI ?_|refine fI ?_|fail);conv=>whnf)
  exact⟨i+1,sI,by omega,by dsimp only;omega⟩
 obtain rfl:i=l.length:=by omega
 rw[Zqb,Nd]
 have hpl:=sy l.length (fun _=>none)
 have hu0:(wh l.length ⟨qm q l,[]⟩).length<=l.length:=by
  have:=List.length_filter_le (fun x=>!(qm q l x)) (List.range l.length)
  rw[List.length_range] at this
  exact this
 refine aE.seqC ab ac ?_
 conv=>whnf
 refine aE.loopF ab ac (fun z:Ph=>Ob l frst z.1/\Kv (jr tt) z.1 ⟨qm q l,[]⟩ z.2) (fun z=>[(14, .int .i64 (z.1.length:Int)),(15, .top),(47, .top),(50, .top)]) (fun z=>[(11,N3 p s l o ss tt 7003 l.length z.2.od.length (eW l.length fun _=>none).length),(7002,yu (i8 l.length z.2.se)),(7003,bG (bM z.2.od)),(7006,bG (eW l.length fun _=>none))]) (fun z=>frst.length-z.1.length) ([],⟨qm q l,[]⟩) ⟨⟨Nat.zero_le _,fun k hk=>absurd hk List.not_mem_nil,fun j hj=>absurd hj (Nat.not_lt_zero _)⟩, .nil⟩ ?_;conv=>whnf
 refine⟨?_,?_⟩
 ·dsimp only
  unfold N3
  rw[hpl]
  exact aM.by_ [(11, .old 11),(7002, .old 47),(7003, .nil 1),(7006, .old 50)] _ 400 rfl (aa) (aa)
 rintro⟨ks,t⟩ ⟨hk,hK⟩
 dsimp only at hk hK⊢
 have hkl:=hk.le
 have hsl:=oz l.length t.se
 have hnum:=hK.num (n:=l.length) ht.lt (fun y hy=>hk.lt y hy)
 have hod0:(⟨qm q l,[]⟩:KS).od.length=0:=rfl
 rw[hod0] at hnum
 conv=>whnf
 refine ah ?_ ?_<;>(intro g1;conv=>whnf)
 ·have hlt:ks.length<frst.length:=by omega
  have hmem:=I.ini _ (hX1 _ (aG aC hlt))
  have hsn:=fun(k:Nat) (h1:k<l.length) (e:l.getD k aC=frst.getD ks.length aC)=>hk.snoc hlt h1 e
  obtain⟨c,ec⟩:∃c,frst.getD ks.length aC=c:=⟨_,rfl⟩
  rw[ec] at hmem hsn
  refine nI ?_
  rw[tN,ec]
  conv=>whnf
  refine an.borD (R:=fun u=>(∃i:Nat,i<l.length/\l.getD i aC=c/\u= .int .i64 (i:Int))\/(c∉l/\u= .int .i64 (-1))) [11] 3 (MZ l o c (.sl [] uE ss) (.sl [] cU tt) .top .top .top hs (by omega) hw) (by rintro _ (⟨i,_,_,rfl⟩|⟨_,rfl⟩)<;>rfl) ?_
  rintro _ (⟨k,hkn,hg,rfl⟩|⟨hno,rfl⟩)
  case inr=>exact absurd hmem hno
  have hsn:=hsn k hkn hg
  conv=>whnf
  refine nI ?_
  rw[tN]
  conv=>whnf
  rw[wa hkn]
  have e1:(ks++[k]).length=ks.length+1:=by rw[List.length_append];rfl
  cases hb:t.se k with
  |true=>
   conv=>whnf
   repeat' ((first|refine nI ?_|refine aI ?_|refine tI ?_|refine fI ?_|fail);conv=>whnf)
   refine⟨(ks++[k],t),?_,⟨hsn,hK.joinT (.seen hb .nil)⟩,by dsimp only;omega⟩
   dsimp only
   rw[e1]
   exact aM.by_ [(11, .old 11),(7002, .old 7002),(7003, .old 7003),(7006, .old 7006)] _ 400 rfl (aa) (aa)
  |false=>
   conv=>whnf
   refine an.call [(7001, .old 11),(7002, .old 7002),(7003, .old 7003),(7006, .old 7006)] (N4 p s l o ss tt l.length (eW l.length fun _=>none) t) 400 rfl (aa) (aa) (Ll p s l o ss tt l.length (eW l.length fun _=>none) ht _ t k (Nat.le_refl _) hkn hb (by omega)) ?_
   rintro u M' ⟨t1,k1,rfl,rfl⟩
   refine⟨[(11, .old 7001),(7002, .old 7002),(7003, .old 7003),(7004, .old 7004),(7006, .old 7006)],[(11,N3 p s l o ss tt 7004 l.length (t1.od++[k]).length (eW l.length fun _=>none).length),(7002,yu (i8 l.length t1.se)),(7003, .dead),(7004,bG (bM (t1.od++[k]))),(7006,bG (eW l.length fun _=>none))], .tup [],rfl,(aa),trivial,?_⟩
   conv=>whnf
   repeat' ((first|refine nI ?_|refine aI ?_|refine tI ?_|refine fI ?_|fail);conv=>whnf)
   refine⟨(ks++[k],{t1 with od:=t1.od++[k]}),?_,⟨hsn,hK.joinT (.white hb k1 .nil)⟩,by dsimp only;omega⟩
   dsimp only
   rw[e1]
   exact aM.by_ [(11, .old 11),(7002, .old 7002),(7003, .old 7004),(7006, .old 7006)] _ 400 rfl (aa) (aa)
 have hkf:ks.length=frst.length:=by omega
 obtain⟨G,g,hin,hse⟩:=I.gph hl (ks:=ks) (fun c hc=>by
  obtain⟨j,hj,rfl⟩:=bp aC (hX2 c hc)
  exact⟨ks.getD j 0,dX (by omega),hk.at_ j (by omega)⟩) (fun k hkm=>by
  obtain⟨j,hj,rfl⟩:=j8 hkm
  exact⟨hk.lt _ hkm,by rw[hk.at_ j hj];exact hX1 _ (aG aC (by omega))⟩) hK
 have hol:t.od.length<=4000:=by omega
 have hol2:=eL t.od
 refine aE.lend [7002,7003] 5 ?_
 conv=>whnf
 refine aE.seqC ab ac ?_
 conv=>whnf
 refine an.call [(7001, .old 11),(7006, .old 7006)] (LF (Lv p s l o ss tt (i8 l.length t.se) (bM t.od) l.length) (eW l.length fun _=>none)) 400 rfl (aa) (aa) (Jx p s l o ss tt (i8 l.length t.se) t.od l.length ht hin hol) ?_
 rintro u M' ⟨rfl,n,pt,hC,rfl⟩
 obtain⟨K,ha,hno⟩:=I.parts hl g hin hse (bk:=Nv tt t.od l.length) (fun i j=>by
  unfold Nv
  rw[IA,Nt]
  unfold wi
  constructor
  ·rintro⟨⟨_,h2⟩,h3,h4⟩
   exact⟨of_decide_eq_true h3,of_decide_eq_true h4,h2⟩
  ·rintro⟨h1,h2,h3⟩
   exact⟨⟨hin i h1,h3⟩,decide_eq_true h1,decide_eq_true h2⟩) hC
 refine⟨[(11, .old 7001),(7006, .old 7006)],[(11,Lv p s l o ss tt (i8 l.length t.se) (bM t.od) l.length),(7006,bG (eW l.length pt))], .tup [],rfl,(aa),trivial,?_⟩
 conv=>whnf
 refine aE.lend [11,7006] 5 ?_
 conv=>whnf
 have hsz:(1<=s.n/\s.n<=8)/\(0<=s.f/\s.f<=s.n):=by
  have h2:=dM S.siz.2
  omega
 have hmod:s.n-s.f<=ee p s/\ee p s<=s.n:=by unfold ee;split<;>omega
 obtain⟨N,eN⟩:∃N:Nat,ee p s=N:=⟨(ee p s).toNat,by omega⟩
 have hN:∀i,i<l.length->(l.getD i aC).states.length=N:=fun i hi=>by
  have:=(hrd i hi).vc.len
  omega
 have hfair:=fun part=>OD p s l o ss tt (i8 l.length t.se) (bM t.od) (eW l.length pt) (I.gdok S hl hn hf (sy _ _)) N hN (by have:=aF hp;omega) (by omega) part
 have hans:=fun(is:Bool) h=>I.ans (is:=is) S hl hn hi G g K ha hno hin (N:=N) (by omega) (fun i hi=>(hrd i hi).vc.cor) h
 refine aE.seqC ab ac ?_
 conv=>whnf
 refine aE.loopF ab ac (fun k:Nat=>k<=t.od.length/\∀j:Nat,j<k->¬Db p s l ss tt (eW l.length pt) (j:Int) N) (fun k=>[(16, .int .i64 (k:Int))]) (fun _=>[]) (fun k=>t.od.length-k) 0 ⟨Nat.zero_le _,fun j hj=>absurd hj (Nat.not_lt_zero _)⟩ ?_;conv=>whnf
 refine⟨aM.by_ [] _ 400 rfl (aa) (aa),?_⟩
 rintro k ⟨hk2,hfn⟩
 conv=>whnf
 refine ah ?_ ?_<;>(intro g2;conv=>whnf)
 ·refine an.of_pure (n:=5) (hfair k) rfl ?_
  rintro _ (⟨hy,rfl⟩|⟨hnf,rfl⟩)
  ·conv=>whnf
   exact⟨⟨true,0,rfl,fin (hans true ⟨fun _=>⟨k,by omega,hy⟩,fun _=>rfl⟩)⟩,rfl⟩
  ·conv=>whnf
   repeat' ((first|refine nI ?_|refine aI ?_|refine tI ?_|refine fI ?_|fail);conv=>whnf)
   refine⟨k+1,aM.by_ [] _ 400 rfl (aa) (aa),⟨by omega,fun j hj=>?_⟩,by dsimp only;omega⟩
   by_cases e:j=k
   ·subst e;exact hnf
   ·exact hfn j (by omega)
 ·refine aZ ab ac _ _ _ _ ?_
  conv=>whnf
  refine⟨⟨false,0,rfl,fin (hans false ⟨fun h=>(by cases h),fun⟨j,hj,hy⟩=>absurd hy (hfn j (by omega))⟩)⟩,rfl⟩
theorem sP (p:ao) (q:bn) (s:az) (hp:¬b9 p) (hq:¬eU q):∃is e,Lr p q s is e/\ae Tryz.prog 8 [.agg (bf p), .agg (eh q), .agg (b7 s)] (fun u=>u= .tup [.bool is, .int .i64 e]):=by
 obtain⟨is,e,h⟩:=Lr.exA p q s
 refine⟨is,e,h,ae.mono (O9 p q s hp hq) ?_⟩
 rintro _ ⟨is',e',rfl,h'⟩
 obtain⟨rfl,rfl⟩:=h.oneA h'
 rfl
theorem tn (p:ao) (q:bn) (s:az):ae Tryz.prog 3 [.agg (AY p q s)] (fun u=>u= .bool true):=Gq p q s fun hp hq=>sP p q s hp hq
theorem pm (p:ao) (q:bn) (m:Int):ae Tryz.prog 4 [.agg (bf p), .agg (eh q), .int .i64 m] (fun u=>u= .bool true):=wb p q m fun hp hq z S hk=>by
 obtain⟨is,e,h,hP⟩:=sP p q z hp hq
 exact⟨is,e,h.ok S.hz hk,hP⟩
end
end Go.Proofs.YtokjgegkhlkopaaGreatDoor
