import Derived.Test.YtokjgegkhlkopaaGreatDoorM9
import Derived.Test.YtokjgegkhlkopaaGreatDoorMD
import Derived.Laws.BytesArg
set_option linter.unusedVariables false
set_option linter.unusedSimpArgs false
namespace Go.Proofs.YtokjgegkhlkopaaGreatDoor
section
set_option maxRecDepth 100000
set_option maxHeartbeats 16000000
theorem ul {p:ao} {s:az}:∀{a b:List aQ} {c:ap},fB p s c (a++b)↔fB p s c a/\fB p s ((trs p c a).getD a.length aC) b
 |[],b,c=>by simp[fB,trs,tr]
 |x::a,b,c=>by
  have ih:=ul (p:=p) (s:=s) (a:=a) (b:=b) (c:=cb c (aH p x) x)
  simp only[List.cons_append,fB,ih]
  constructor
  ·rintro⟨h1,h2,h3,h4⟩;exact⟨⟨h1,h2,h3⟩,h4⟩
  ·rintro⟨⟨h1,h2,h3⟩,h4⟩;exact⟨h1,h2,h3,h4⟩
theorem Ft {p:ao}:∀(a b:List aQ) (c:ap),tr p c (a++b)=tr p c a++tr p ((trs p c a).getD a.length aC) b
 |[],b,c=>rfl
 |x::a,b,c=>by
  have ih:=Ft (p:=p) a b (cb c (aH p x) x)
  simp only[List.cons_append,tr,ih]
  rfl
theorem HR {p:ao} (a b:List aQ) (c:ap):trs p c (a++b)=trs p c a++tr p ((trs p c a).getD a.length aC) b:=by
 unfold trs;rw[Ft];rfl
theorem HS {p:ao} (a b:List aQ) (c:ap):(trs p c (a++b)).getD (a++b).length aC=(trs p ((trs p c a).getD a.length aC) b).getD b.length aC:=by
 induction a generalizing c with
 |nil=>rfl
 |cons x a ih=>exact ih (cb c (aH p x) x)
structure um where
 start:ap
 pre:List aQ
 loop:List aQ
def A' (l:um):List AV:=bg l.start++[.sl aR cH l.pre, .sl aR cH l.loop]
def jY (p:ao) (l:um):ap:=(trs p l.start l.pre).getD l.pre.length aC
def r8 (p:ao) (s:az) (b:List ap) (loop:List aQ) (r i:Int):Prop:=(∃x∈loop,x.rule=r/\x.process=i)\/∃d∈b,¬xJ p s d r i
structure KE (p:ao) (q:bn) (s:az) (R:ap->Prop) (m:ap) (loop:List aQ):Prop where
 run:fB p s m loop
 back:(trs p m loop).getD loop.length aC=m
 not:∀d∈trs p m loop,¬R d
 free:∀r i:Nat,r<p.rules.length->(i:Int)<s.n-s.f->r8 p s (trs p m loop) loop r i
def te (p:ao) (q:bn) (s:az) (R:ap->Prop) (l:um):Prop:=dB p q s=0/\q.kind=2/\lH p q s l.start/\fB p s l.start l.pre/\(∀d∈trs p l.start l.pre,¬R d)/\KE p q s R (jY p l) l.loop
def yG (r k:Nat):List (Int×Int):=(List.range k).map fun i:Nat=>((r:Int),(i:Int))
def lL (m k:Nat):List (Int×Int):=(List.range k).flatMap fun r=>yG r m
theorem KF (r k:Nat):yG r (k+1)=yG r k++[((r:Int),(k:Int))]:=by simp[yG,List.range_succ]
theorem Fu (m k:Nat):lL m (k+1)=lL m k++yG k m:=by simp[lL,List.range_succ,List.flatMap_append]
theorem Ba (r k:Nat):(yG r k).length=k:=by simp[yG]
theorem qi (m:Nat):∀k,(lL m k).length=k*m
 |0=>by simp[lL]
 |k+1=>by rw[Fu,List.length_append,Ba,qi m k,Nat.add_mul,Nat.one_mul]
theorem Bb {m k:Nat} {a:Int×Int}:a∈lL m k↔∃r i:Nat,r<k/\i<m/\a=((r:Int),(i:Int)):=by
 simp only[lL,yG,List.mem_flatMap,List.mem_map,List.mem_range]
 constructor
 ·rintro⟨r,hr,i,hi,rfl⟩;exact⟨r,i,hr,hi,rfl⟩
 ·rintro⟨r,i,hr,hi,rfl⟩;exact⟨r,hr,i,hi,rfl⟩
def HT (k:Int×Int):List AV:=[.int .i64 k.1, .int .i64 k.2]
def MF (l:List (Int×Int)):aX:=.row 173 (0,0) HT l
theorem KH (p:ao) (s:az) (hp:¬b9 p) (hs:(1<=s.n/\s.n<=8)/\(0<=s.f/\s.f<=s.n)):ae Tryz.prog 89 [.agg (bf p), .agg (b7 s)] (fun u=>u= .sl (0,0) HT (lL (s.n-s.f).toNat p.rules.length)):=by
 have hle:=aF hp
 have hm:(s.n-s.f).toNat<=8:=by omega
 have hA:=qi (s.n-s.f).toNat
 refine ae.intro ab ac Tryz.func89 rfl (by decide) ?_;(conv=>whnf)
 refine am rfl ?_
 conv=>whnf
 refine am rfl ?_
 conv=>whnf
 refine aE.loopF ab ac (fun k1:Nat=>k1<=p.rules.length) (fun k1=>[(11, .int .i64 (k1:Int)),(5, .row 1000 (lL (s.n-s.f).toNat k1).length 2)]) (fun k1=>[(1000,MF (lL (s.n-s.f).toNat k1))]) (fun k1=>p.rules.length-k1) 0 (Nat.zero_le _) ?_;conv=>whnf
 refine⟨aM.by_ [(1000, .nil 2)] _ 400 rfl (aa) (aa),?_⟩
 rintro k1 hk1
 conv=>whnf
 refine ah ?_ ?_<;>(intro g1;conv=>whnf)
 ·refine aI ?_
  conv=>whnf
  have hk8:(lL (s.n-s.f).toNat k1).length<=8000:=by
   rw[hA]
   have:=Nat.mul_le_mul (show k1<=1000 by omega) hm
   omega
  have e0:lL (s.n-s.f).toNat k1++yG k1 0=lL (s.n-s.f).toNat k1:=by simp[yG]
  refine aE.loopF ab ac (fun k2:Nat=>k2<=(s.n-s.f).toNat) (fun k2=>[(19, .int .i64 (k2:Int)),(5, .row 1000 (lL (s.n-s.f).toNat k1++yG k1 k2).length 2)]) (fun k2=>[(1000,MF (lL (s.n-s.f).toNat k1++yG k1 k2))]) (fun k2=>(s.n-s.f).toNat-k2) 0 (Nat.zero_le _) ?_;conv=>whnf
  refine⟨by rw[e0];exact sI,?_⟩
  rintro k2 hk2
  conv=>whnf
  refine ah ?_ ?_<;>(intro g2;conv=>whnf)
  ·have hll:(lL (s.n-s.f).toNat k1++yG k1 k2).length<=1000000:=by rw[List.length_append,Ba];omega
   refine cA (0,0) HT [((k1:Int),(k2:Int))] rfl ?_
   conv=>whnf
   refine cB [((k1:Int),(k2:Int))] rfl lI ?_
   conv=>whnf
   repeat' ((first|refine nI ?_|refine aI ?_|refine tI ?_|refine fI ?_|fail);conv=>whnf)
   have e3:lL (s.n-s.f).toNat k1++yG k1 (k2+1)=lL (s.n-s.f).toNat k1++yG k1 k2++[((k1:Int),(k2:Int))]:=by rw[KF,<-List.append_assoc]
   refine⟨k2+1,?_,by omega,by dsimp only;omega⟩
   dsimp only
   rw[e3]
   exact aM.by_ [(1000, .old 27)] _ 400 rfl (aa) (aa)
  ·have ek:k2=(s.n-s.f).toNat:=by omega
   have e2:lL (s.n-s.f).toNat (k1+1)=lL (s.n-s.f).toNat k1++yG k1 k2:=by rw[ek,Fu]
   repeat' ((first|refine nI ?_|refine aI ?_|refine tI ?_|refine fI ?_|fail);conv=>whnf)
   refine⟨k1+1,?_,by omega,by dsimp only;omega⟩
   dsimp only
   rw[e2]
   exact sI
 ·obtain rfl:k1=p.rules.length:=by omega
  exact⟨rfl,rfl⟩
structure MG (l:List aQ) (f:Int×Int->Option Bool):Prop where
 yes:∀a b,f a=some b->b=true/\∃x∈l,(x.rule,x.process)=a
 no:∀a,f a=none->∀x∈l,(x.rule,x.process)≠a
theorem MG.nil:MG [] (fun _=>none):=⟨fun _ _ h=>(by cases h),fun _ _ x hx=>absurd hx List.not_mem_nil⟩
theorem MG.up {l:List aQ} {k:Nat} {f:Int×Int->Option Bool} (h:MG (l.take k) f) (hk:k<l.length):MG (l.take (k+1)) (fJ f ((l.getD k aR).rule,(l.getD k aR).process) true):=by
 have e:l.getD k aR=l[k]:=by rw[gD,gL hk];rfl
 rw[List.take_succ_eq_append_getElem hk,e]
 refine⟨fun a b hb=>?_,fun a ha x hx=>?_⟩
 ·by_cases c:a=(l[k].rule,l[k].process)
  ·subst c
   rw[ip] at hb
   cases hb
   exact⟨rfl,l[k],List.mem_append_right _ List.mem_cons_self,rfl⟩
  ·rw[ja _ _ c] at hb
   obtain⟨h1,x,hx,hh⟩:=h.yes a b hb
   exact⟨h1,x,List.mem_append_left _ hx,hh⟩
 ·have c:a≠(l[k].rule,l[k].process):=fun c=>by subst c;rw[ip] at ha;cases ha
  rw[ja _ _ c] at ha
  rcases List.mem_append.1 hx with hx|hx
  ·exact h.no a ha x hx
  ·rw[List.mem_singleton] at hx;subst hx;exact fun e=>c e.symm
def Jh (p:ao) (s:az) (b:List ap) (loop:List aQ):Prop:=∀r i:Nat,r<p.rules.length->(i:Int)<s.n-s.f->r8 p s b loop r i
noncomputable instance decFair (p:ao) (s:az) (b:List ap) (loop:List aQ):Decidable (Jh p s b loop):=Classical.propDecidable _
theorem aG {α:Type} (d:α) {l:List α} {k:Nat} (h:k<l.length):l.getD k d∈l:=by
 rw[gD,gL h];exact List.getElem_mem h
theorem bp {α:Type} (d:α) {l:List α} {a:α} (h:a∈l):∃k,k<l.length/\l.getD k d=a:=by
 obtain⟨k,hk,rfl⟩:=List.getElem_of_mem h
 exact⟨k,hk,by rw[gD,gL hk];rfl⟩
theorem mj {a b:ap} (h:fX a b=0):a=b:=by
 have hz:=cm h
 have e1:=ii (hz (bE a.shape b.shape) (by simp))
 have e2:=ii (hz (bE a.states b.states) (by simp))
 have e3:=ii (hz (bE a.sent b.sent) (by simp))
 have e4:=ii (hz (bE a.faulty b.faulty) (by simp))
 have e5:=hz (iZ a.correct b.correct) (by simp)
 have e6:=hz (iZ a.value b.value) (by simp)
 have e5':a.correct=b.correct:=by unfold iZ at e5;(repeat' split at e5)<;>omega
 have e6':a.value=b.value:=by unfold iZ at e6;(repeat' split at e6)<;>omega
 obtain⟨a1,a2,a3,a4,a5,a6⟩:=a
 obtain⟨b1,b2,b3,b4,b5,b6⟩:=b
 simp only at e1 e2 e3 e4 e5' e6'
 rw[e1,e2,e3,e4,e5',e6']
noncomputable instance decLas (p:ao) (q:bn) (s:az) (l:um):Decidable (te p q s (c8 q) l):=Classical.propDecidable _
theorem xX (p:ao) (q:bn) (s:az) (l:um) (hp:¬b9 p) (hq:¬eU q) (hw:bc l.start=false) (hl1:l.pre.length<=100000000) (hl2:l.loop.length<=100000000):ae Tryz.prog 10 [.agg (bf p), .agg (eh q), .agg (b7 s), .agg (A' l)] (fun u=>u= .bool (decide (te p q s (c8 q) l))):=by
 have hle:=aF hp
 have hws:=aL hw
 refine ae.intro ab ac Tryz.func10 rfl (by decide) ?_;(conv=>whnf)
 refine am rfl ?_
 conv=>whnf
 refine am rfl ?_
 conv=>whnf
 refine am rfl ?_
 conv=>whnf
 refine am rfl ?_
 conv=>whnf
 (refine oP (rR p q s hp hq) ?_;conv=>whnf)
 refine ah ?_ ?_<;>(intro h1;conv=>whnf)
 ·exact⟨aq (fun h=>h1 h.1),rfl⟩
 refine ah ?_ ?_<;>(intro h2;conv=>whnf)
 ·exact⟨aq (fun h=>h2 h.2.1),rfl⟩
 have h1':dB p q s=0:=by omega
 have h2':q.kind=2:=by omega
 have hz:=vK h1'
 refine dC (zL p q s l.start hp hq hw hz.2) (fun _=>?_) (fun _=>?_)<;>(conv=>whnf)
 case refine_2=>
  rename_i h3
  exact⟨aq (fun h=>h3 h.2.2.1),rfl⟩
 rename_i h3
 have hR:=Fh hp hw hz.2 h3.1
 have hA:=AX p s l.start l.pre hR (by omega)
 by_cases h4:fB p s l.start l.pre
 case neg=>
  obtain⟨e,he,hr⟩:=Fb (acc:=[l.start]) h4
  rw[hr] at hA
  (refine oP (hA) ?_;conv=>whnf)
  refine dH he ?_
  conv=>whnf
  exact⟨aq (fun h=>h4 h.2.2.2.1),rfl⟩
 rw[Fa h4] at hA
 have hA':ae Tryz.prog 30 [.agg (bf p), .agg (b7 s), .agg (bg l.start), .sl aR cH l.pre] (fun u=>u=pA (trs p l.start l.pre) 0):=hA
 have hlen:=vF p l.start l.pre
 have hrdy:=vG hR h4
 have hRm:c9 p s (jY p l):=hrdy l.pre.length (Nat.le_refl _)
 have hB:=AX p s (jY p l) l.loop hRm (by omega)
 have hmid:(trs p l.start l.pre).getD l.pre.length aC=jY p l:=rfl
 have hlas:∀B,B=trs p (jY p l) l.loop->(te p q s (c8 q) l↔(∀d∈trs p l.start l.pre,¬c8 q d)/\fB p s (jY p l) l.loop/\B.getD l.loop.length aC=jY p l/\(∀d∈B,¬c8 q d)/\Jh p s B l.loop):=by
  rintro B rfl
  exact⟨fun h=>⟨h.2.2.2.2.1,h.2.2.2.2.2.run,h.2.2.2.2.2.back,h.2.2.2.2.2.not,h.2.2.2.2.2.free⟩,fun h=>⟨h1',h2',h3,h4,h.1,⟨h.2.1,h.2.2.1,h.2.2.2.1,h.2.2.2.2⟩⟩⟩
 have hrdy':∀k,k<(trs p l.start l.pre).length->c9 p s ((trs p l.start l.pre).getD k aC):=fun k hk=>hrdy k (by omega)
 generalize trs p l.start l.pre=A at hA' hlen hrdy' hmid hlas
 clear hrdy hA
 (refine oP (hA') ?_;conv=>whnf)
 refine fI ?_
 conv=>whnf
 refine dI ?_
 conv=>whnf
 refine aI ?_
 conv=>whnf
 refine nI ?_
 rw[show((A.length:Int)-1).toNat=l.pre.length by omega,hmid]
 conv=>whnf
 by_cases h5:fB p s (jY p l) l.loop
 case neg=>
  obtain⟨e,he,hr⟩:=Fb (acc:=[jY p l]) h5
  rw[hr] at hB
  (refine oC (hB) ?_;conv=>whnf)
  refine dI ?_
  conv=>whnf
  refine dH he ?_
  conv=>whnf
  exact⟨aq (fun h=>h5 h.2.2.2.2.2.run),rfl⟩
 rw[Fa h5] at hB
 have hB':ae Tryz.prog 30 [.agg (bf p), .agg (b7 s), .agg (bg (jY p l)), .sl aR cH l.loop] (fun u=>u=pA (trs p (jY p l) l.loop) 0):=hB
 have hlen2:=vF p (jY p l) l.loop
 have hrdy2:∀k,k<(trs p (jY p l) l.loop).length->c9 p s ((trs p (jY p l) l.loop).getD k aC):=fun k hk=>vG hRm h5 k (by omega)
 have hmid2:(trs p (jY p l) l.loop).getD 0 aC=jY p l:=rfl
 have hI:=hlas _ rfl
 generalize trs p (jY p l) l.loop=B at hB' hlen2 hrdy2 hmid2 hI
 clear hB hlas
 (refine oC (hB') ?_;conv=>whnf)
 refine dI ?_
 conv=>whnf
 refine fI ?_
 conv=>whnf
 refine nI ?_
 conv=>whnf
 refine aI ?_
 conv=>whnf
 refine nI ?_
 conv=>whnf
 have hw0:=(hrdy2 0 (by omega)).wide
 rw[show((B.length:Int)-1).toNat=l.loop.length by omega]
 (refine oC (rl (B.getD 0 aC) (B.getD l.loop.length aC) hw0) ?_;conv=>whnf)
 refine ah ?_ ?_<;>(intro h6;conv=>whnf)
 ·exact⟨aq (fun h=>h6 (by rw[(hI.1 h).2.2.1,hmid2,l9])),rfl⟩
 have h6':B.getD l.loop.length aC=jY p l:=by rw[<-hmid2];exact(mj (by omega)).symm
 refine aE.loopF ab ac (fun k:Nat=>k<=A.length/\∀j,j<k->¬c8 q (A.getD j aC)) (fun k=>[(12, .int .i64 (k:Int))]) (fun _=>[]) (fun k=>A.length-k) 0 ⟨by omega,fun j hj=>by omega⟩ ?_;conv=>whnf
 refine⟨sI,?_⟩
 rintro k ⟨hk,ha⟩
 conv=>whnf
 refine ah ?_ ?_<;>(intro g1;conv=>whnf)
 ·have hRk:=hrdy' k (by omega)
  refine dI ?_
  conv=>whnf
  refine nI ?_
  conv=>whnf
  rw[tN]
  refine dD (xC q (A.getD k aC) hq hRk.wide hRk.plain.2) (fun _=>?_) (fun _=>?_)<;>(conv=>whnf)
  ·rename_i h7
   exact⟨aq (fun h=>(hI.1 h).1 _ (aG aC (show k<A.length by omega)) h7),rfl⟩
  ·rename_i h7
   repeat' ((first|refine nI ?_|refine aI ?_|refine tI ?_|refine fI ?_|fail);conv=>whnf)
   refine⟨k+1,sI,⟨by omega,fun j hj=>?_⟩,by dsimp only;omega⟩
   by_cases e:j=k
   ·subst e;exact h7
   ·exact ha j (by omega)
 have hnA:∀d∈A,¬c8 q d:=fun d hd=>by
  obtain⟨j,hj,rfl⟩:=bp aC hd
  exact ha j (by omega)
 clear ha hk g1
 refine aE.loopF ab ac (fun k:Nat=>k<=B.length/\∀j,j<k->¬c8 q (B.getD j aC)) (fun k=>[(13, .int .i64 (k:Int))]) (fun _=>[]) (fun k=>B.length-k) 0 ⟨by omega,fun j hj=>by omega⟩ ?_;conv=>whnf
 refine⟨sI,?_⟩
 rintro k ⟨hk,ha⟩
 conv=>whnf
 refine ah ?_ ?_<;>(intro g1;conv=>whnf)
 ·have hRk:=hrdy2 k (by omega)
  refine dI ?_
  conv=>whnf
  refine nI ?_
  conv=>whnf
  rw[tN]
  refine dD (xC q (B.getD k aC) hq hRk.wide hRk.plain.2) (fun _=>?_) (fun _=>?_)<;>(conv=>whnf)
  ·rename_i h7
   exact⟨aq (fun h=>(hI.1 h).2.2.2.1 _ (aG aC (show k<B.length by omega)) h7),rfl⟩
  ·rename_i h7
   repeat' ((first|refine nI ?_|refine aI ?_|refine tI ?_|refine fI ?_|fail);conv=>whnf)
   refine⟨k+1,sI,⟨by omega,fun j hj=>?_⟩,by dsimp only;omega⟩
   by_cases e:j=k
   ·subst e;exact h7
   ·exact ha j (by omega)
 have hnB:∀d∈B,¬c8 q d:=fun d hd=>by
  obtain⟨j,hj,rfl⟩:=bp aC hd
  exact ha j (by omega)
 clear ha hk g1
 have hlow:∀r i:Int,s.n-s.f<=i->r8 p s B l.loop r i:=fun r i hi=>.inr ⟨_,aG aC (show 0<B.length by omega),fun h=>by
  have:=h.1
  rw[(hrdy2 0 (by omega)).vc.cor] at this
  omega⟩
 have hsl:s.n-s.f<=l.start.states.length:=by
  have h8:=hR.plain.2.2
  rw[h3.1.cor] at h8
  exact h8
 refine aE.loopF ab ac (fun r:Nat=>r<=p.rules.length/\∀r':Nat,r'<r->∀i:Nat,i<l.start.states.length->r8 p s B l.loop r' i) (fun r=>[(14, .int .i64 (r:Int))]) (fun _=>[]) (fun r=>p.rules.length-r) 0 ⟨by omega,fun j hj=>by omega⟩ ?_;conv=>whnf
 refine⟨sI,?_⟩
 rintro r ⟨hr,hfr⟩
 conv=>whnf
 refine ah ?_ ?_<;>(intro g1;conv=>whnf)
 case refine_2=>
  exact⟨aN (hI.2 ⟨hnA,h5,h6',hnB,fun r' i hr' hi=>hfr r' (by omega) i (by omega)⟩),rfl⟩
 refine aE.loopF ab ac (fun i:Nat=>i<=l.start.states.length/\∀i':Nat,i'<i->r8 p s B l.loop r i') (fun i=>[(15, .int .i64 (i:Int))]) (fun _=>[]) (fun i=>l.start.states.length-i) 0 ⟨by omega,fun j hj=>by omega⟩ ?_;conv=>whnf
 refine⟨sI,?_⟩
 rintro i ⟨hi,hfi⟩
 conv=>whnf
 refine ah ?_ ?_<;>(intro g2;conv=>whnf)
 case refine_2=>
  repeat' ((first|refine nI ?_|refine aI ?_|refine tI ?_|refine fI ?_|fail);conv=>whnf)
  refine⟨r+1,sI,⟨by omega,fun r' hr' i' hi'=>?_⟩,by dsimp only;omega⟩
  by_cases e:r'=r
  ·subst e;exact hfi i' (by omega)
  ·exact hfr r' (by omega) i' hi'
 refine aE.loopF ab ac (fun y:Nat×Bool=>y.1<=B.length/\(y.2=true↔∃j,j<y.1/\¬xJ p s (B.getD j aC) r i)) (fun y=>[(17, .int .i64 (y.1:Int)),(16, .bool y.2)]) (fun _=>[]) (fun y=>B.length-y.1) (0,false) ⟨Nat.zero_le _,by simp⟩ ?_;conv=>whnf
 refine⟨sI,?_⟩
 rintro⟨k,t⟩ ⟨hk,hy⟩
 dsimp only at hk hy⊢
 conv=>whnf
 refine ah ?_ ?_<;>(intro g3;conv=>whnf)
 ·cases t with
  |true=>
   obtain⟨j,hj,hnf⟩:=hy.1 rfl
   refine dI ?_
   conv=>whnf
   repeat' ((first|refine nI ?_|refine aI ?_|refine tI ?_|refine fI ?_|fail);conv=>whnf)
   exact⟨(k+1,true),sI,⟨by dsimp only;omega,⟨fun _=>⟨j,Nat.lt_succ_of_lt hj,hnf⟩,fun _=>rfl⟩⟩,by dsimp only;omega⟩
  |false=>
   have hRk:=hrdy2 k (by omega)
   have hno:∀j,j<k->xJ p s (B.getD j aC) r i:=fun j hj=>Classical.byContradiction fun hnf=>by
    have:=hy.2 ⟨j,hj,hnf⟩
    cases this
   refine dI ?_
   conv=>whnf
   refine nI ?_
   conv=>whnf
   rw[tN]
   refine dD (uc p s (B.getD k aC) r i hRk) (fun _=>?_) (fun _=>?_)<;>(conv=>whnf)
   ·rename_i h8
    repeat' ((first|refine nI ?_|refine aI ?_|refine tI ?_|refine fI ?_|fail);conv=>whnf)
    refine⟨(k+1,false),sI,⟨by dsimp only;omega,⟨fun h=>(by cases h),fun⟨j,hj,hnf⟩=>absurd ?_ hnf⟩⟩,by dsimp only;omega⟩
    by_cases e:j=k
    ·subst e;exact h8
    ·exact hno j (by dsimp only at hj;omega)
   ·rename_i h8
    repeat' ((first|refine nI ?_|refine aI ?_|refine tI ?_|refine fI ?_|fail);conv=>whnf)
    exact⟨(k+1,true),sI,⟨by dsimp only;omega,⟨fun _=>⟨k,Nat.lt_succ_self k,h8⟩,fun _=>rfl⟩⟩,by dsimp only;omega⟩
 have hkB:k=B.length:=by omega
 subst hkB
 refine aE.loopF ab ac (fun z:Nat×Bool=>z.1<=l.loop.length/\(z.2=true↔(t=true\/∃j,j<z.1/\(l.loop.getD j aR).rule=r/\(l.loop.getD j aR).process=i))) (fun z=>[(18, .int .i64 (z.1:Int)),(16, .bool z.2)]) (fun _=>[]) (fun z=>l.loop.length-z.1) (0,t) ⟨Nat.zero_le _,by simp⟩ ?_;conv=>whnf
 refine⟨sI,?_⟩
 rintro⟨k,u⟩ ⟨hk,hz⟩
 dsimp only at hk hz⊢
 conv=>whnf
 refine ah ?_ ?_<;>(intro g4;conv=>whnf)
 ·cases u with
  |true=>
   have hzt:=hz.1 rfl
   repeat' ((first|refine nI ?_|refine aI ?_|refine tI ?_|refine fI ?_|fail);conv=>whnf)
   refine⟨(k+1,true),sI,⟨by dsimp only;omega,⟨fun _=>hzt.imp id fun⟨j,hj,hh⟩=>⟨j,Nat.lt_succ_of_lt hj,hh⟩,fun _=>rfl⟩⟩,by dsimp only;omega⟩
  |false=>
   have hzf:¬(t=true\/∃j,j<k/\(l.loop.getD j aR).rule=r/\(l.loop.getD j aR).process=i):=fun h=>by
    have:=hz.2 h
    cases this
   have hup:((l.loop.getD k aR).rule=r/\(l.loop.getD k aR).process=i)->(t=true\/∃j,j<k+1/\(l.loop.getD j aR).rule=r/\(l.loop.getD j aR).process=i):=fun h=>.inr ⟨k,Nat.lt_succ_self k,h⟩
   have hdn:¬((l.loop.getD k aR).rule=r/\(l.loop.getD k aR).process=i)->¬(t=true\/∃j,j<k+1/\(l.loop.getD j aR).rule=r/\(l.loop.getD j aR).process=i):=by
    rintro h (h'|⟨j,hj,hh⟩)
    ·exact hzf (.inl h')
    ·by_cases e:j=k
     ·subst e;exact h hh
     ·exact hzf (.inr ⟨j,by omega,hh⟩)
   refine nI ?_
   conv=>whnf
   rw[tN]
   refine ah ?_ ?_<;>(intro g5;conv=>whnf)
   ·refine nI ?_
    conv=>whnf
    rw[tN]
    refine ah ?_ ?_<;>(intro g6;conv=>whnf)
    ·repeat' ((first|refine nI ?_|refine aI ?_|refine tI ?_|refine fI ?_|fail);conv=>whnf)
     exact⟨(k+1,true),sI,⟨by dsimp only;omega,⟨fun _=>hup ⟨g5,g6⟩,fun _=>rfl⟩⟩,by dsimp only;omega⟩
    ·repeat' ((first|refine nI ?_|refine aI ?_|refine tI ?_|refine fI ?_|fail);conv=>whnf)
     exact⟨(k+1,false),sI,⟨by dsimp only;omega,⟨fun h=>(by cases h),fun h=>absurd h (hdn fun hh=>g6 hh.2)⟩⟩,by dsimp only;omega⟩
   ·repeat' ((first|refine nI ?_|refine aI ?_|refine tI ?_|refine fI ?_|fail);conv=>whnf)
    exact⟨(k+1,false),sI,⟨by dsimp only;omega,⟨fun h=>(by cases h),fun h=>absurd h (hdn fun hh=>g5 hh.1)⟩⟩,by dsimp only;omega⟩
 have hkl:k=l.loop.length:=by omega
 subst hkl
 have hfree:u=true↔r8 p s B l.loop r i:=by
  rw[hz,hy]
  constructor
  ·rintro(⟨j,hj,hnf⟩|⟨j,hj,hh⟩)
   ·exact .inr ⟨_,aG aC hj,hnf⟩
   ·exact .inl ⟨_,aG aR hj,hh⟩
  ·rintro(⟨x,hx,hh⟩|⟨d,hd,hnf⟩)
   ·obtain⟨j,hj,rfl⟩:=bp aR hx
    exact .inr ⟨j,hj,hh⟩
   ·obtain⟨j,hj,rfl⟩:=bp aC hd
    exact .inl ⟨j,hj,hnf⟩
 cases u with
 |true=>
  conv=>whnf
  repeat' ((first|refine nI ?_|refine aI ?_|refine tI ?_|refine fI ?_|fail);conv=>whnf)
  refine⟨i+1,sI,⟨by omega,fun i' hi'=>?_⟩,by dsimp only;omega⟩
  by_cases e:i'=i
  ·subst e;exact hfree.1 rfl
  ·exact hfi i' (by omega)
 |false=>
  conv=>whnf
  refine⟨aq fun h=>?_,rfl⟩
  have hnf:¬r8 p s B l.loop r i:=fun hf=>by
   have:=hfree.2 hf
   cases this
  by_cases hlo:(i:Int)<s.n-s.f
  ·exact hnf ((hI.1 h).2.2.2.2 r i (by omega) hlo)
  ·exact hnf (hlow r i (by omega))
def tf (c:ap) (a b:Nat):Prop:=(a<c.states.length/\b<c.states.length)/\((a:Int)<c.correct↔(b:Int)<c.correct)
theorem Bc {c:ap} {a b:Nat} (h:tf c a b) (i:Int):m9 a b i<c.correct↔i<c.correct:=by
 have h2:=h.2
 unfold m9
 (repeat' split)<;>omega
theorem KI {c:ap} {r:dh} {x:aQ} {a b:Nat} (h:tf c a b):bo (kY c a b) r (vJ x a b)↔bo c r x:=by
 have l1:=Bc h x.process
 unfold bo
 rw[show(vJ x a b).process=m9 a b x.process from rfl,show(kY c a b).correct=c.correct from rfl,show(kY c a b).sent=c.sent from rfl,show(kY c a b).faulty=c.faulty from rfl]
 by_cases h:x.process<c.correct
 ·rw[if_pos h,if_pos (l1.2 h)]
 ·rw[if_neg h,if_neg (fun g=>h (l1.1 g))]
theorem HU {c:ap} {r:dh} {x:aQ} {a b:Nat} (h:tf c a b):cb (kY c a b) r (vJ x a b)=kY (cb c r x) a b:=by
 have ha':=h.1.1
 have hb':=h.1.2
 have l1:=Bc h x.process
 have e0:(kY c a b).states.length=c.states.length:=fk _ _ _
 have e1:f8 (kY c a b) r (vJ x a b)=mg (f8 c r x) a b:=by
  symm
  refine dN (by rw[fk,cd,e0]) fun j hj=>?_
  rw[e0] at hj
  rw[gC (by rw[cd];exact ha') (by rw[cd];exact hb'),MA ha' hb']
  exact bi _ _ _ (o7 ha' hb' hj)
 unfold cb
 rw[e1]
 unfold kY
 dsimp only
 congr 1
 ·by_cases h:x.process<c.correct
  ·rw[if_pos h,if_pos (show(vJ x a b).process<c.correct from l1.2 h)]
  ·rw[if_neg h,if_neg (show¬(vJ x a b).process<c.correct from fun g=>h (l1.1 g))]
 ·by_cases h:x.process<c.correct
  ·rw[if_pos h,if_pos (show(vJ x a b).process<c.correct from l1.2 h)]
  ·rw[if_neg h,if_neg (show¬(vJ x a b).process<c.correct from fun g=>h (l1.1 g))]
theorem HV {l:List Int} {a b:Nat} (ha:a<l.length) (hb:b<l.length):mg (mg l a b) a b=l:=by
 have hl:(mg (mg l a b) a b).length=l.length:=by rw[fk,fk]
 apply List.ext_getElem?
 intro j
 by_cases hj:j<l.length
 ·have e:(mg (mg l a b) a b).getD j 0=l.getD j 0:=by
   rw[gC (by rw[fk];exact ha) (by rw[fk];exact hb),gC ha hb,n8]
  rw[gD,gD,gL (by omega),gL hj] at e
  rw[gL (by omega),gL hj]
  exact congrArg some e
 ·rw[List.getElem?_eq_none (by omega),List.getElem?_eq_none (by omega)]
theorem HW {c:ap} {a b:Nat} (h:tf c a b):kY (kY c a b) a b=c:=by
 unfold kY
 dsimp only
 rw[HV h.1.1 h.1.2]
theorem HX {c:ap} {a b:Nat} (h:tf c a b):tf (kY c a b) a b:=by
 unfold tf kY
 dsimp only
 rw[fk]
 exact h
inductive vR:ap->ap->Prop
 |refl (c:ap):vR c c
 |step {c d:ap} (a b:Nat) (h:tf c a b) (k:vR (kY c a b) d):vR c d
theorem vR.trans {c d e:ap} (h:vR c d) (k:vR d e):vR c e:=by
 induction h with
 |refl=>exact k
 |step a b h _ ih=>exact .step a b h (ih k)
theorem vR.symm {c d:ap} (h:vR c d):vR d c:=by
 induction h with
 |refl=>exact .refl _
 |@step c d a b h _ ih=>exact ih.trans (.step a b (HX h) (by rw[HW h];exact .refl _))
theorem vR.sim {p:ao} {s:az} {c d:ap} (h:vR c d) (ht:p.topology=1):∀{x:aQ},c9 p s c->cz p s c x false->c9 p s d/\∃y,cz p s d y false/\aH p y=aH p x/\(bo d (aH p x) y↔bo c (aH p x) x)/\vR (cb c (aH p x) x) (cb d (aH p x) y):=by
 induction h with
 |refl c=>exact fun hr he=>⟨hr,_,he,rfl,Iff.rfl, .refl _⟩
 |@step c d a b h _ ih=>
  intro x hr he
  have hr':=Ff hr h.1.1 h.1.2
  have he':=(Mz hr ht h.1.1 h.1.2).2 he
  obtain⟨h1,y,h2,h3,h4,h5⟩:=ih hr' he'
  have e:aH p (vJ x a b)=aH p x:=rfl
  rw[e] at h3 h4 h5
  refine⟨h1,y,h2,h3,h4.trans (KI h),?_⟩
  rw[HU h] at h5
  refine .step a b ?_ h5
  unfold tf cb
  dsimp only
  rw[cd]
  exact h
inductive yH (lo hi:Nat):List Int->List Int->Prop
 |refl (l:List Int):yH lo hi l l
 |step {l m:List Int} (a b:Nat) (ha:lo<=a/\a<hi) (hb:lo<=b/\b<hi) (hl:hi<=l.length) (k:yH lo hi (mg l a b) m):yH lo hi l m
theorem yH.trans {lo hi:Nat} {l m n:List Int} (h:yH lo hi l m) (k:yH lo hi m n):yH lo hi l n:=by
 induction h with
 |refl=>exact k
 |step a b ha hb hl _ ih=>exact .step a b ha hb hl (ih k)
theorem yH.mono {lo hi lo' hi':Nat} {l m:List Int} (h:yH lo hi l m) (h1:lo'<=lo) (h2:hi<=hi') (h3:hi'<=l.length):yH lo' hi' l m:=by
 induction h with
 |refl=>exact .refl _
 |step a b ha hb hl _ ih=>exact .step a b ⟨by omega,by omega⟩ ⟨by omega,by omega⟩ h3 (ih (by rw[fk];exact h3))
theorem HY (pre l:List Int) (x y:Int):mg (pre++(y::x::l)) pre.length (pre.length+1)=pre++(x::y::l):=by
 have e1:(pre++(y::x::l)).getD (pre.length+1) 0=x:=by simp
 have e2:(pre++(y::x::l)).getD pre.length 0=y:=by simp
 unfold mg
 rw[e1,e2,List.set_append_right _ _ (Nat.le_refl _),List.set_append_right _ _ (by omega)]
 simp
theorem yH.perm {l m:List Int} (h:l.Perm m):∀pre post:List Int,yH pre.length (pre.length+l.length) (pre++(l++post)) (pre++(m++post)):=by
 induction h with
 |nil=>exact fun _ _=>.refl _
 |cons x _ ih=>
  intro pre post
  have:=ih (pre++[x]) post
  simp only[List.append_assoc,List.singleton_append,List.length_append,List.length_cons,List.length_nil] at this
  simp only[List.cons_append,List.length_cons]
  exact this.mono (by omega) (by omega) (by simp)
 |swap x y l=>
  intro pre post
  refine .step pre.length (pre.length+1) ⟨by omega,by simp⟩ ⟨by omega,by simp⟩ (by simp) ?_
  rw[List.cons_append,List.cons_append,HY]
  exact .refl _
 |trans h1 _ ih1 ih2=>
  intro pre post
  have:=ih2 pre post
  rw[<-h1.length_eq] at this
  exact(ih1 pre post).trans this
def mY (c:ap) (l:List Int):ap:=⟨c.shape,l,c.correct,c.sent,c.faulty,c.value⟩
theorem yH.eqv {lo hi:Nat} {l m:List Int} (h:yH lo hi l m):∀c:ap,c.states=l->(∀a b:Nat,lo<=a/\a<hi->lo<=b/\b<hi->((a:Int)<c.correct↔(b:Int)<c.correct))->vR c (mY c m):=by
 induction h with
 |refl l=>rintro c rfl _;exact .refl _
 |@step l m a b ha hb hl _ ih=>
  rintro c rfl hc
  exact .step a b ⟨⟨by omega,by omega⟩,hc a b ha hb⟩ (ih (kY c a b) rfl hc)
theorem vS {p:ao} {c:ap} (ht:p.topology=1) (h0:0<=c.correct) (h1:c.correct<=c.states.length):vR c (cx p c):=by
 have hlt:(c.states.take c.correct.toNat).length=c.correct.toNat:=by rw[List.length_take];omega
 have hld:(c.states.drop c.correct.toNat).length=c.states.length-c.correct.toNat:=List.length_drop
 have p1:=(yH.perm (fC (c.states.take c.correct.toNat)).symm [] (c.states.drop c.correct.toNat)).eqv c (by simp) (fun a b ha hb=>by
  simp only[List.length_nil,Nat.zero_add,hlt] at ha hb
  omega)
 have p2:=(yH.perm (fC (c.states.drop c.correct.toNat)).symm (df (c.states.take c.correct.toNat)) []).eqv (mY c (df (c.states.take c.correct.toNat)++c.states.drop c.correct.toNat)) (by simp[mY]) (fun a b ha hb=>by
  rw[fU,hlt,hld] at ha hb
  show((a:Int)<c.correct↔(b:Int)<c.correct)
  omega)
 rw[gO c ht]
 have e1:mY c ([]++(df (c.states.take c.correct.toNat)++c.states.drop c.correct.toNat))=mY c (df (c.states.take c.correct.toNat)++c.states.drop c.correct.toNat):=rfl
 rw[e1] at p1
 have e2:mY (mY c (df (c.states.take c.correct.toNat)++c.states.drop c.correct.toNat)) (df (c.states.take c.correct.toNat)++(df (c.states.drop c.correct.toNat)++[]))=⟨c.shape,df (c.states.take c.correct.toNat)++df (c.states.drop c.correct.toNat),c.correct,c.sent,c.faulty,c.value⟩:=by
  rw[List.append_nil];rfl
 rw[e2] at p2
 exact p1.trans p2
theorem xY {l:List Int} {a b:Nat} (ha:a<l.length) (hb:b<l.length):(mg l a b).Perm l:=by
 have e1:l.getD a 0=l[a]:=by rw[gD,gL ha];rfl
 have e2:l.getD b 0=l[b]:=by rw[gD,gL hb];rfl
 unfold mg
 rw[e1,e2]
 exact List.set_set_perm ha hb
theorem Bd {l m:List Int} (h:l.Perm m):df l=df m:=A9 ((fC l).trans h) (vQ l)
theorem xZ {l:List Int} {a b k:Nat} (ha:a<l.length) (hb:b<l.length) (h:a<k↔b<k):((mg l a b).take k).Perm (l.take k):=by
 by_cases h1:a<k
 ·have h2:=h.1 h1
  have e:(mg l a b).take k=mg (l.take k) a b:=by
   unfold mg
   rw[List.take_set,List.take_set,mb h1,mb h2]
  rw[e]
  exact xY (by rw[List.length_take];omega) (by rw[List.length_take];omega)
 ·have e:(mg l a b).take k=l.take k:=by
   unfold mg
   rw[List.take_set,List.take_set,List.set_eq_of_length_le (by rw[List.length_set,List.length_take];omega),List.set_eq_of_length_le (by rw[List.length_take];omega)]
  rw[e]
theorem Fv {l:List Int} {a b k:Nat} (ha:a<l.length) (hb:b<l.length) (h:a<k↔b<k):((mg l a b).drop k).Perm (l.drop k):=by
 have h1:=xZ ha hb h
 have h2:=xY ha hb
 have h3:((mg l a b).take k++(mg l a b).drop k).Perm ((mg l a b).take k++l.drop k):=by
  rw[List.take_append_drop]
  refine h2.trans ?_
  have:=h1.symm.append_right (l.drop k)
  rwa [List.take_append_drop] at this
 exact(List.perm_append_left_iff _).1 h3
theorem KJ {p:ao} {c:ap} {a b:Nat} (h:tf c a b) (h0:0<=c.correct):cx p (kY c a b)=cx p c\/p.topology≠1:=by
 by_cases ht:p.topology=1
 ·left
  have hk:a<c.correct.toNat↔b<c.correct.toNat:=by have:=h.2;omega
  rw[gO _ ht,gO _ ht]
  have e1:df ((kY c a b).states.take (kY c a b).correct.toNat)=df (c.states.take c.correct.toNat):=Bd (xZ h.1.1 h.1.2 hk)
  have e2:df ((kY c a b).states.drop (kY c a b).correct.toNat)=df (c.states.drop c.correct.toNat):=Bd (Fv h.1.1 h.1.2 hk)
  rw[e1,e2]
  rfl
 ·exact .inr ht
theorem vR.can {p:ao} {c d:ap} (h:vR c d) (ht:p.topology=1):0<=c.correct->cx p c=cx p d:=by
 induction h with
 |refl=>exact fun _=>rfl
 |@step c d a b h _ ih=>
  intro h0
  rcases KJ (p:=p) h h0 with e|e
  ·exact e.symm.trans (ih h0)
  ·exact absurd ht e
theorem oh {p:ao} {s:az} {c d:ap} {x:aQ} (hc:c9 p s c) (hd:c9 p s d) (hcd:cx p c=cx p d) (he:cz p s c x false):
  ∃y,cz p s d y false/\aH p y=aH p x/\(bo d (aH p x) y↔bo c (aH p x) x)/\cx p (cb c (aH p x) x)=cx p (cb d (aH p x) y):=by
 by_cases ht:p.topology=1
 ·have h1:=hc.plain
  have h2:=hd.plain
  have he1:=vS ht h1.2.1 h1.2.2
  have he2:=vS ht h2.2.1 h2.2.2
  rw[hcd] at he1
  obtain⟨_,y,k1,k2,k3,k4⟩:=(he1.trans he2.symm).sim ht hc he
  exact⟨y,k1,k2,k3,k4.can ht h1.2.1⟩
 ·rw[kJ c ht,kJ d ht] at hcd
  subst hcd
  exact⟨x,he,rfl,Iff.rfl,rfl⟩
def Di (n:Int):Int:=n % 256
def Dj (n:Int):Int:=n / 256 % 256
def Dl (n:Int):Int:=n / 65536 % 256
def bB (l:List Int):List Int:=(l.length:Int) % 256::l.flatMap fun n=>[Di n,Dj n,Dl n]
theorem KK (l:List Int):∀x∈bB l,0<=x/\x<256:=by
 intro x hx
 unfold bB at hx
 rcases List.mem_cons.1 hx with rfl|hx
 ·omega
 ·obtain⟨n,_,hn⟩:=List.mem_flatMap.1 hx
  simp only[List.mem_cons,List.not_mem_nil,or_false] at hn
  unfold Di Dj Dl at hn
  omega
def x6 (c:ap):List Int:=bB c.shape++(bB c.states++(bB c.sent++(bB c.faulty++bB [c.correct,c.value])))
abbrev HZ (l:List Int):ByteArray:=strOfNums l
def ij (c:ap):ByteArray:=HZ (x6 c)
def r9 (l:List Int) (k:Nat):List Int:=(l.length:Int) % 256::(l.take k).flatMap fun n=>[Di n,Dj n,Dl n]
theorem x7 (l:List Int):r9 l l.length=bB l:=by unfold r9 bB;rw[List.take_length]
theorem CV (l:List Int):r9 l 0=[(l.length:Int) % 256]:=by simp[r9]
theorem H0 {l:List Int} {k:Nat} (h:k<l.length):r9 l (k+1)=r9 l k++[Di (l.getD k 0),Dj (l.getD k 0),Dl (l.getD k 0)]:=by
 have e:l.getD k 0=l[k]:=by rw[gD,gL h];rfl
 unfold r9
 rw[List.take_succ_eq_append_getElem h,List.flatMap_append,e]
 simp
theorem x8 (l:List Int) (k:Nat):(r9 l k).length<=1+3*k:=by
 have h:∀m:List Int,(m.flatMap fun n=>[Di n,Dj n,Dl n]).length=3*m.length:=by
  intro m
  induction m with
  |nil=>rfl
  |cons a m ih=>rw[List.flatMap_cons,List.length_append,ih,List.length_cons];simp;omega
 unfold r9
 rw[List.length_cons,h,List.length_take]
 omega
theorem oi (l:List Int):(bB l).length<=1+3*l.length:=by rw[<-x7];exact x8 l _
structure cS where
 c:ap
 src:Int
 st:aQ
def d6:cS:=⟨aC,0,aR⟩
def pG (o:cS):List AV:=[.sl 0 aD o.c.shape, .sl 0 aD o.c.states, .int .i64 o.c.correct, .sl 0 aD o.c.sent, .sl 0 aD o.c.faulty, .int .i64 o.c.value, .int .i64 o.src, .int .i64 o.st.rule, .int .i64 o.st.process, .int .i64 o.st.partner]
def eV (p:ao) (ex:Bool) (c:ap):ap:=match ex with
 |true=>c
 |false=>cx p c
structure fV (p:ao) (q:bn) (s:az):Prop where
 hp:¬b9 p
 hq:¬eU q
 hz:dB p q s=0
theorem fV.siz {p:ao} {q:bn} {s:az} (S:fV p q s):cq p q=0/\cT p s=0:=vK S.hz
theorem H5 {p:ao} {s:az} {c:ap} (hp:¬b9 p) (hz:cT p s=0) (h:VC p s c):bc c=false:=by
 have hle:=aF hp
 have h2:=dM hz
 have hl:=h.len
 have e1:c.states.length<=100:=by
  unfold ee at hl
  split at hl<;>omega
 have e2:c.shape.length<=100:=by
  by_cases ht:p.topology=4
  ·have:=(h.tre ht).1;omega
  ·have:=h.non ht;omega
 have e3:=h.snl
 have e4:=h.fal
 unfold bc
 simp only[Bool.or_eq_false_iff,decide_eq_false_iff_not]
 refine⟨⟨⟨?_,?_⟩,?_⟩,?_⟩<;>omega
theorem fV.rdy {p:ao} {q:bn} {s:az} (S:fV p q s) {c:ap} (h:lH p q s c):c9 p s c:=
 Fh S.hp (H5 S.hp S.siz.2 h.1) S.siz.2 h.1
theorem Fw {p:ao} {s:az} {ex:Bool} {c d:ap} {x:aQ} (hc:c9 p s c) (hd:c9 p s d) (hcd:eV p ex c=eV p ex d) (he:cz p s c x false):
  ∃y,cz p s d y false/\aH p y=aH p x/\(bo d (aH p x) y↔bo c (aH p x) x)/\eV p ex (cb c (aH p x) x)=eV p ex (cb d (aH p x) y):=by
 cases ex with
 |false=>exact oh hc hd hcd he
 |true=>
  have e:c=d:=hcd
  subst e
  exact⟨x,he,rfl,Iff.rfl,rfl⟩
inductive Wn (p:ao) (q:bn) (s:az):Nat->ap->Prop
 |ini {c:ap} (h:lH p q s c):Wn p q s 0 c
 |stp {n:Nat} {c:ap} (x:aQ) (h:Wn p q s n c) (he:cz p s c x false) (ha:bo c (aH p x) x):Wn p q s (n+1) (cb c (aH p x) x)
section
variable {p:ao} {q:bn} {s:az}
theorem Wn.rdy (S:fV p q s) {n:Nat} {c:ap} (h:Wn p q s n c):c9 p s c:=by
 induction h with
 |ini h=>exact S.rdy h
 |stp x _ he ha ih=>exact ih.next he ha
theorem Wn.of_run {c:ap} {l:List aQ}:∀{n:Nat},Wn p q s n c->fB p s c l->Wn p q s (n+l.length) ((trs p c l).getD l.length aC):=by
 induction l generalizing c with
 |nil=>exact fun h _=>h
 |cons x l ih=>
  intro n h hr
  have:=ih (Wn.stp x h hr.1 hr.2.1) hr.2.2
  have e:n+1+l.length=n+(x::l).length:=by simp;omega
  rw[e] at this
  exact this
variable {ex:Bool}
def Rp (p:ao) (q:bn) (s:az) (ex:Bool) (c:ap):Prop:=c9 p s c/\∃n d,Wn p q s n d/\eV p ex d=eV p ex c
theorem Wn.rp (S:fV p q s) {n:Nat} {c:ap} (h:Wn p q s n c):Rp p q s ex c:=⟨h.rdy S,n,c,h,rfl⟩
theorem Rp.next (S:fV p q s) {c:ap} {x:aQ} (h:Rp p q s ex c) (he:cz p s c x false) (ha:bo c (aH p x) x):Rp p q s ex (cb c (aH p x) x):=by
 obtain⟨hr,n,d,hd,hdc⟩:=h
 obtain⟨y,k1,k2,k3,k4⟩:=Fw hr (hd.rdy S) hdc.symm he
 refine⟨hr.next he ha,n+1,cb d (aH p y) y,hd.stp y k1 ?_,?_⟩
 ·rw[k2];exact k3.2 ha
 ·rw[k2];exact k4.symm
structure un (p:ao) (q:bn) (s:az) (ex:Bool) (L:List ap):Prop where
 rep:∀c∈L,Rp p q s ex c
 dis:(L.map (eV p ex)).Nodup
 ini:∀c,lH p q s c->eV p ex c∈L.map (eV p ex)
 stp:∀c∈L,∀x,cz p s c x false->bo c (aH p x) x/\eV p ex (cb c (aH p x) x)∈L.map (eV p ex)
theorem un.at (S:fV p q s) {L:List ap} (h:un p q s ex L) {c:ap} (hc:c9 p s c) (hk:eV p ex c∈L.map (eV p ex)) {x:aQ} (he:cz p s c x false):bo c (aH p x) x/\eV p ex (cb c (aH p x) x)∈L.map (eV p ex):=by
 obtain⟨d,hd,hdc⟩:=List.mem_map.1 hk
 obtain⟨y,k1,k2,k3,k4⟩:=Fw hc (h.rep d hd).1 hdc.symm he
 have:=h.stp d hd y k1
 rw[k2] at this
 exact⟨k3.1 this.1,by rw[k4];exact this.2⟩
theorem un.all (S:fV p q s) {L:List ap} (h:un p q s ex L) {n:Nat} {c:ap} (hc:Wn p q s n c):eV p ex c∈L.map (eV p ex):=by
 induction hc with
 |ini hi=>exact h.ini _ hi
 |stp x hw he _ ih=>exact(h.at S (hw.rdy S) ih he).2
theorem un.ok (S:fV p q s) {L:List ap} (h:un p q s ex L) {c:ap} (hc:Rp p q s ex c) {x:aQ} (he:cz p s c x false):bo c (aH p x) x:=by
 obtain⟨hr,n,d,hd,hdc⟩:=hc
 refine(h.at S hr ?_ he).1
 rw[<-hdc]
 exact h.all S hd
theorem un.mem (S:fV p q s) {L:List ap} (h:un p q s ex L) (k:ap):k∈L.map (eV p ex)↔∃n c,Wn p q s n c/\eV p ex c=k:=by
 constructor
 ·intro hk
  obtain⟨c,hc,rfl⟩:=List.mem_map.1 hk
  obtain⟨_,n,d,h1,h2⟩:=h.rep c hc
  exact⟨n,d,h1,h2⟩
 ·rintro⟨n,c,h1,rfl⟩
  exact h.all S h1
theorem oj {l:List ap}:∀{m:List ap},l.Nodup->(∀a∈l,a∈m)->l.length<=m.length:=by
 classical
 induction l with
 |nil=>intro m _ _;exact Nat.zero_le _
 |cons a l ih=>
  intro m hl h
  rw[List.nodup_cons] at hl
  have hm:=h a List.mem_cons_self
  have:=ih (m:=m.erase a) hl.2 fun b hb=>(List.mem_erase_of_ne (show b≠a from fun e=>by subst e;exact hl.1 hb)).2 (h b (List.mem_cons_of_mem _ hb))
  rw[List.length_erase_of_mem hm] at this
  have:=List.length_pos_of_mem hm
  rw[List.length_cons]
  omega
theorem un.perm (S:fV p q s) {L M:List ap} (h:un p q s ex L) (k:un p q s ex M):(L.map (eV p ex)).Perm (M.map (eV p ex)):=
 (List.perm_ext_iff_of_nodup h.dis k.dis).2 fun a=>(h.mem S a).trans (k.mem S a).symm
theorem Fx (S:fV p q s) {c:ap} {x:aQ} (hc:Rp p q s ex c) (he:cz p s c x false) (ha:¬bo c (aH p x) x):¬∃L,un p q s ex L:=fun⟨_,h⟩=>ha (h.ok S hc he)
theorem Fy (S:fV p q s) {L:List ap} {n:Nat} (hr:∀c∈L,Rp p q s ex c) (hd:(L.map (eV p ex)).Nodup) (hn:n<L.length):¬∃M,un p q s ex M/\M.length<=n:=by
 rintro⟨M,h,hM⟩
 have:=oj hd (m:=M.map (eV p ex)) fun k hk=>by
  obtain⟨c,hc,rfl⟩:=List.mem_map.1 hk
  obtain⟨_,m,d,h1,h2⟩:=hr c hc
  rw[<-h2]
  exact h.all S h1
 simp only[List.length_map] at this
 omega
def KL (l:List ap):Prop:=l.Pairwise fun a b=>fX a b<0
def KD (p:ao) (q:bn) (s:az) (n:Nat) (k:ap):Prop:=∃m c,m<=n/\Wn p q s m c/\cx p c=k
def uo (p:ao) (q:bn) (s:az) (n:Nat):Prop:=∃c,Wn p q s n c/\s9 p q c
def zR (p:ao) (q:bn) (s:az) (n:Nat):Prop:=∃c x,Wn p q s n c/\cz p s c x false/\¬bo c (aH p x) x
def Fz (p:ao) (q:bn) (s:az) (n:Nat):Prop:=∃L:List ap,L.length<=4000/\∀k,KD p q s n k->k∈L
def sa (p:ao) (q:bn) (s:az) (n:Nat):Prop:=∀k,KD p q s n k->∃m,m<n/\KD p q s m k
def KM (p:ao) (q:bn) (s:az) (n:Nat):Prop:=¬sa p q s n/\¬uo p q s n/\Fz p q s n/\¬zR p q s n
structure Ji (p:ao) (q:bn) (s:az) (n:Nat) (is:Bool) (e:Int):Prop where
 on:∀m,m<n->KM p q s m
 out:(sa p q s n/\is=false/\e=0)\/(¬sa p q s n/\uo p q s n/\is=true/\e=0)\/(¬sa p q s n/\¬uo p q s n/\(¬Fz p q s n\/zR p q s n)/\is=false/\e=4)
theorem Ji.not_on {n:Nat} {is:Bool} {e:Int} (h:Ji p q s n is e):¬KM p q s n:=by
 rintro⟨h1,h2,h3,h4⟩
 rcases h.out with ⟨a,_⟩|⟨_,a,_⟩|⟨_,_,a|a,_⟩
 ·exact h1 a
 ·exact h2 a
 ·exact a h3
 ·exact h4 a
theorem Ji.one {n n':Nat} {is is':Bool} {e e':Int} (h:Ji p q s n is e) (k:Ji p q s n' is' e'):n=n'/\is=is'/\e=e':=by
 have hn:n=n':=by
  rcases Nat.lt_trichotomy n n' with g|g|g
  ·exact absurd (k.on n g) h.not_on
  ·exact g
  ·exact absurd (h.on n' g) k.not_on
 subst hn
 refine⟨rfl,?_⟩
 rcases h.out with ⟨a1,a2,a3⟩|⟨a1,a2,a3,a4⟩|⟨a1,a2,_,a3,a4⟩<;>rcases k.out with ⟨b1,b2,b3⟩|⟨b1,b2,b3,b4⟩|⟨b1,b2,_,b3,b4⟩<;>first
  |exact absurd a1 b1
  |exact absurd b1 a1
  |exact absurd a2 b2
  |exact absurd b2 a2
  |(subst_vars;exact⟨rfl,rfl⟩)
theorem KD.mono {n m:Nat} (h:n<=m) {k:ap} (hk:KD p q s n k):KD p q s m k:=by
 obtain⟨a,c,h1,h2,h3⟩:=hk
 exact⟨a,c,by omega,h2,h3⟩
theorem KD.step (S:fV p q s) {n:Nat} {c:ap} {x:aQ} (hc:c9 p s c) (hk:KD p q s n (cx p c)) (he:cz p s c x false) (ha:bo c (aH p x) x):KD p q s (n+1) (cx p (cb c (aH p x) x)):=by
 obtain⟨m,d,h1,h2,h3⟩:=hk
 obtain⟨y,k1,k2,k3,k4⟩:=oh hc (h2.rdy S) h3.symm he
 refine⟨m+1,cb d (aH p y) y,by omega,h2.stp y k1 (by rw[k2];exact k3.2 ha),?_⟩
 rw[k2];exact k4.symm
theorem vT {c d:ap} (hc:c9 p s c) (hd:c9 p s d) (h:cx p c=cx p d):s9 p q c↔s9 p q d:=by
 rw[<-xW p q hc.plain.2.2,<-xW p q hd.plain.2.2,h]
theorem sa.all (S:fV p q s) {n:Nat} (h:sa p q s n) {m:Nat} {c:ap} (hw:Wn p q s m c):∃k,k<n/\KD p q s k (cx p c):=by
 induction hw with
 |ini hi=>exact h _ ⟨0,_,Nat.zero_le _, .ini hi,rfl⟩
 |@stp m c x hw he ha ih=>
  obtain⟨k,hk,hd⟩:=ih
  exact h _ ((hd.step S (hw.rdy S) he ha).mono (by omega))
theorem Ji.least (S:fV p q s) {n:Nat} {is:Bool} {e:Int} (h:Ji p q s n is e) (he:e=0) {m:Nat} (hb:uo p q s m):is=true/\n<=m:=by
 have low:¬m<n:=fun hm=>(h.on m hm).2.1 hb
 rcases h.out with ⟨a1,_,_⟩|⟨_,_,a3,_⟩|⟨_,_,_,_,a4⟩
 ·exfalso
  obtain⟨c,hw,hbad⟩:=hb
  obtain⟨k,hk,j,d,hj,hwd,hcd⟩:=a1.all S hw
  exact(h.on j (by omega)).2.1 ⟨d,hwd,(vT (hwd.rdy S) (hw.rdy S) hcd).2 hbad⟩
 ·exact⟨a3,by omega⟩
 ·omega
end
end
section
set_option maxRecDepth 100000
def KN (n:Int):List AV:=[.int .u8 n]
def zS (l:List Int):aX:=.row 5 0 KN l
def zT (m:List Int):List (Nat×aX):=[(7000, .box 245 [.row 7001 m.length 1]),(7001,zS m)]
def MH (m:List Int):List (Nat×aX):=[(7000, .box 245 [.row 7002 m.length 1]),(7001, .dead),(7002,zS m)]
theorem Be (n:Int):IntKind.u8.wrap n=n % 256:=by
 simp[IntKind.wrap,IntKind.signed,IntKind.bits]
theorem NL (n:Int):n.fdiv 256=n / 256:=Int.fdiv_eq_ediv_of_nonneg n (by omega)
theorem MJ (n:Int):n.fdiv 65536=n / 65536:=Int.fdiv_eq_ediv_of_nonneg n (by omega)
theorem FA (m l:List Int) (hm:m.length<=1000000) (hl:l.length<=1000000):
  an Tryz.prog 179 [.sl 0 aD l, .ptr 7000 0] (ai.ofL (zT m)) (fun u M=>u= .tup []/\M=ai.ofL (MH (m++bB l))):=by
 refine an.intro ab ac (zT m) Tryz.func179 rfl (by decide) ?_
 conv=>whnf
 refine Ly trivial ?_
 conv=>whnf
 refine cA 0 KN [(l.length:Int) % 256] (by rw[Be];rfl) ?_
 conv=>whnf
 refine cB [(l.length:Int) % 256] rfl lI ?_
 conv=>whnf
 refine aE.loopF ab ac (fun k:Nat=>k<=l.length) (fun k=>[(9, .top),(10, .top),(13, .int .i64 (k:Int))]) (fun k=>MH (m++r9 l k)) (fun k=>l.length-k) 0 (Nat.zero_le _) ?_;conv=>whnf
 refine⟨by rw[CV];exact aM.by_ [(7000, .old 7000),(7001, .old 7001),(7002, .old 10)] _ 400 rfl (aa) (aa),?_⟩
 rintro k hk
 have hkl:(m++r9 l k).length<=4000001:=by
  have:=x8 l k
  rw[List.length_append]
  omega
 conv=>whnf
 refine ah ?_ ?_<;>(intro g1;conv=>whnf)
 ·have hlt:k<l.length:=by omega
  repeat' ((first|refine nI ?_|refine aI ?_|refine tI ?_|refine fI ?_|fail);conv=>whnf)
  refine Ly trivial ?_
  conv=>whnf
  refine nI ?_
  conv=>whnf
  refine Ly trivial ?_
  conv=>whnf
  refine nI ?_
  conv=>whnf
  refine Ly trivial ?_
  conv=>whnf
  refine cA 0 KN [Di (l.getD k 0),Dj (l.getD k 0),Dl (l.getD k 0)] ?_ ?_
  ·rw[Be,Be,Be,tN]
   show _=[[AV.int .u8 (l.getD k 0 % 256)],[AV.int .u8 ((l.getD k 0).fdiv 256 % 256)],[AV.int .u8 ((l.getD k 0).fdiv 65536 % 256)]]
   rw[NL,MJ]
   rfl
  conv=>whnf
  refine cB [Di (l.getD k 0),Dj (l.getD k 0),Dl (l.getD k 0)] rfl lI ?_
  conv=>whnf
  repeat' ((first|refine nI ?_|refine aI ?_|refine tI ?_|refine fI ?_|fail);conv=>whnf)
  refine⟨k+1,?_,by omega,by dsimp only;omega⟩
  dsimp only
  rw[H0 hlt,<-List.append_assoc]
  exact aM.by_ [(7000, .old 7000),(7001, .old 7001),(7002, .old 27)] _ 400 rfl (aa) (aa)
 ·obtain rfl:k=l.length:=by omega
  rw[x7]
  exact⟨rfl,rfl⟩
theorem MK (c:ap) (h1:c.shape.length<=1000) (h2:c.states.length<=1000) (h3:c.sent.length<=1000) (h4:c.faulty.length<=1000):
  ae Tryz.prog 153 [.agg (bg c)] (fun u=>u= .str (ij c)):=by
 have b1:=oi c.shape
 have b2:=oi c.states
 have b3:=oi c.sent
 have b4:=oi c.faulty
 refine ae.intro ab ac Tryz.func153 rfl (by decide) ?_;(conv=>whnf)
 refine am rfl ?_
 rw[bN]
 dsimp only[cC,List.set]
 simp only[fW]
 rw[bQ]
 simp only[gv,bh,List.map_cons,List.map_nil,bz,kg,cC]
 dsimp only[dA,pR,po,fZ,List.set]
 rw[aP]
 dsimp only[List.getD,List.set,fx,fW]
 rw[bQ]
 simp only[gv,bh,List.map_cons,List.map_nil,bz,kg,cC]
 conv=>whnf
 refine an.call [(7000, .old 3),(7001, .nil 1)] (zT []) 400 rfl (aa) (aa) (FA [] c.shape (by simp) (by omega)) ?_
 rintro u M' ⟨rfl,rfl⟩
 refine⟨[(3, .old 7000),(1003, .old 7002)],[(3, .box 245 [.row 1003 (bB c.shape).length 1]),(1003,zS (bB c.shape))], .tup [],rfl,(aa),trivial,?_⟩
 conv=>whnf
 refine an.call [(7000, .old 3),(7001, .old 1003)] (zT (bB c.shape)) 400 rfl (aa) (aa) (FA (bB c.shape) c.states (by(try simp only[List.length_append]);omega) (by omega)) ?_
 rintro u M' ⟨rfl,rfl⟩
 refine⟨[(3, .old 7000),(1003, .old 7001),(1004, .old 7002)],[(3, .box 245 [.row 1004 (bB c.shape++bB c.states).length 1]),(1003, .dead),(1004,zS (bB c.shape++bB c.states))], .tup [],rfl,(aa),trivial,?_⟩
 conv=>whnf
 refine an.call [(7000, .old 3),(7001, .old 1004)] (zT ((bB c.shape++bB c.states))) 400 rfl (aa) (aa) (FA ((bB c.shape++bB c.states)) c.sent (by(try simp only[List.length_append]);omega) (by omega)) ?_
 rintro u M' ⟨rfl,rfl⟩
 refine⟨[(3, .old 7000),(1004, .old 7001),(1005, .old 7002)],[(3, .box 245 [.row 1005 ((bB c.shape++bB c.states)++bB c.sent).length 1]),(1004, .dead),(1005,zS ((bB c.shape++bB c.states)++bB c.sent))], .tup [],rfl,(aa),trivial,?_⟩
 conv=>whnf
 refine an.call [(7000, .old 3),(7001, .old 1005)] (zT (((bB c.shape++bB c.states)++bB c.sent))) 400 rfl (aa) (aa) (FA (((bB c.shape++bB c.states)++bB c.sent)) c.faulty (by(try simp only[List.length_append]);omega) (by omega)) ?_
 rintro u M' ⟨rfl,rfl⟩
 refine⟨[(3, .old 7000),(1005, .old 7001),(1006, .old 7002)],[(3, .box 245 [.row 1006 (((bB c.shape++bB c.states)++bB c.sent)++bB c.faulty).length 1]),(1005, .dead),(1006,zS (((bB c.shape++bB c.states)++bB c.sent)++bB c.faulty))], .tup [],rfl,(aa),trivial,?_⟩
 conv=>whnf
 refine an.hand 27 rfl ?_
 refine an.call [(7000, .old 3),(7001, .old 1006)] (zT (bB c.shape++bB c.states++bB c.sent++bB c.faulty)) 400 rfl (aa) (aa) (FA (bB c.shape++bB c.states++bB c.sent++bB c.faulty) [c.correct,c.value] (by(try simp only[List.length_append]);omega) (by simp)) ?_
 rintro u M' ⟨rfl,rfl⟩
 refine⟨[(3, .old 7000),(1006, .old 7001),(1007, .old 7002)],[(3, .box 245 [.row 1007 (bB c.shape++bB c.states++bB c.sent++bB c.faulty++bB [c.correct,c.value]).length 1]),(1006, .dead),(1007,zS (bB c.shape++bB c.states++bB c.sent++bB c.faulty++bB [c.correct,c.value]))], .tup [],rfl,(aa),trivial,?_⟩
 conv=>whnf
 have e:bB c.shape++bB c.states++bB c.sent++bB c.faulty++bB [c.correct,c.value]=x6 c:=by
  unfold x6
  simp only[List.append_assoc]
 refine ND (bB c.shape++bB c.states++bB c.sent++bB c.faulty++bB [c.correct,c.value]) ?_ ?_
 ·rfl
 conv=>whnf
 rw[e]
 exact⟨rfl,rfl⟩
def x9 (l:List Int):Prop:=l.length<256/\∀x∈l,0<=x/\x<16777216
structure mZ (c:ap):Prop where
 shape:x9 c.shape
 states:x9 c.states
 sent:x9 c.sent
 faulty:x9 c.faulty
 nums:x9 [c.correct,c.value]
theorem KO {n m:Int} (hn:0<=n/\n<16777216) (hm:0<=m/\m<16777216) (h1:Di n=Di m) (h2:Dj n=Dj m) (h3:Dl n=Dl m):n=m:=by
 unfold Di at h1
 unfold Dj at h2
 unfold Dl at h3
 omega
theorem ya:∀{l m:List Int} {x y:List Int},l.length=m.length->(∀a∈l,0<=a/\a<16777216)->(∀a∈m,0<=a/\a<16777216)->
  (l.flatMap fun n=>[Di n,Dj n,Dl n])++x=(m.flatMap fun n=>[Di n,Dj n,Dl n])++y->l=m/\x=y
 |[],[],x,y,_,_,_,h=>⟨rfl,h⟩
 |a::l,b::m,x,y,hl,ha,hb,h=>by
  simp only[List.flatMap_cons,List.cons_append,List.nil_append,List.append_assoc,List.cons.injEq] at h
  obtain⟨h1,h2,h3,h⟩:=h
  have e:=KO (ha a List.mem_cons_self) (hb b List.mem_cons_self) h1 h2 h3
  obtain⟨e1,e2⟩:=ya (by simpa using hl) (fun c hc=>ha c (List.mem_cons_of_mem _ hc)) (fun c hc=>hb c (List.mem_cons_of_mem _ hc)) h
  exact⟨by rw[e,e1],e2⟩
theorem lM {l m x y:List Int} (hl:x9 l) (hm:x9 m) (h:bB l++x=bB m++y):l=m/\x=y:=by
 unfold bB at h
 simp only[List.cons_append,List.cons.injEq] at h
 obtain⟨h1,h⟩:=h
 have e:l.length=m.length:=by
  have:=hl.1
  have:=hm.1
  omega
 exact ya e hl.2 hm.2 h
theorem FB {a b:ap} (ha:mZ a) (hb:mZ b) (h:x6 a=x6 b):a=b:=by
 unfold x6 at h
 obtain⟨e1,h⟩:=lM ha.shape hb.shape h
 obtain⟨e2,h⟩:=lM ha.states hb.states h
 obtain⟨e3,h⟩:=lM ha.sent hb.sent h
 obtain⟨e4,h⟩:=lM ha.faulty hb.faulty h
 have h':bB [a.correct,a.value]++[]=bB [b.correct,b.value]++[]:=by rw[List.append_nil,List.append_nil];exact h
 obtain⟨e5,_⟩:=lM ha.nums hb.nums h'
 obtain⟨a1,a2,a3,a4,a5,a6⟩:=a
 obtain⟨b1,b2,b3,b4,b5,b6⟩:=b
 simp only[List.cons.injEq] at e1 e2 e3 e4 e5
 obtain⟨e5,e6,_⟩:=e5
 subst e1 e2 e3 e4 e5 e6
 rfl
theorem FC (c:ap):∀x∈x6 c,0<=x/\x<256:=by
 intro x hx
 unfold x6 at hx
 simp only[List.mem_append] at hx
 rcases hx with h|h|h|h|h<;>exact KK _ x h
theorem FD {l m:List Int} (hl:∀x∈l,0<=x/\x<256) (hm:∀x∈m,0<=x/\x<256) (h:HZ l=HZ m):l=m:=by
 unfold HZ strOfNums at h
 simp only[ByteArray.mk.injEq] at h
 have h2:(l.map fun n=>UInt8.ofNat n.toNat)=m.map fun n=>UInt8.ofNat n.toNat:=by
  have:=congrArg Array.toList h
  simpa using this
 clear h
 induction l generalizing m with
 |nil=>cases m with
  |nil=>rfl
  |cons b m=>simp at h2
 |cons a l ih=>cases m with
  |nil=>simp at h2
  |cons b m=>
   simp only[List.map_cons,List.cons.injEq] at h2
   have ha:=hl a List.mem_cons_self
   have hb:=hm b List.mem_cons_self
   have e:a.toNat=b.toNat:=by
    have h3:=congrArg UInt8.toNat h2.1
    rw[UInt8.toNat_ofNat',UInt8.toNat_ofNat'] at h3
    omega
   rw[ih (fun x hx=>hl x (List.mem_cons_of_mem _ hx)) (fun x hx=>hm x (List.mem_cons_of_mem _ hx)) h2.2,show a=b by omega]
theorem yb {a b:ap} (ha:mZ a) (hb:mZ b) (h:ij a=ij b):a=b:=FB ha hb (FD (FC a) (FC b) h)
theorem zU {l:List Int} {n:Int} (hl:l.length<256) (h:kX l n) (hn:n<=16777216):x9 l:=by
 rw[HQ] at h
 exact⟨hl,fun x hx=>by have:=h x hx;omega⟩
theorem o9:∀(l:List Int) (n:Nat),bV n l=some []->∀x∈l,x=0\/x=2
 |[],_,_,x,hx=>by cases hx
 |y::ys,0,h,x,hx=>by rw[eD] at h;cases h
 |y::ys,n+1,h,x,hx=>by
  rw[cw] at h
  by_cases h0:y=0
  ·rw[if_pos h0] at h
   rcases List.mem_cons.1 hx with rfl|hx
   ·exact .inl h0
   ·exact o9 ys n h x hx
  ·rw[if_neg h0] at h
   by_cases h2:y=2
   ·rw[if_pos h2] at h
    rcases List.mem_cons.1 hx with rfl|hx
    ·exact .inr h2
    ·exact o9 ys (n+2) h x hx
   ·rw[if_neg h2] at h;cases h
theorem c9.sml {p:ao} {s:az} {c:ap} (h:c9 p s c):mZ c:=by
 have hle:=aF h.big
 have hw:=aL h.wide
 have hv:=h.vc
 have hs:=h.sz
 refine⟨?_,zU (by omega) hv.sta (by omega),zU (by omega) hv.sen (by omega),zU (by omega) hv.fau ?_,⟨by simp,fun x hx=>?_⟩⟩
 ·by_cases ht:p.topology=4
  ·have h1:=o9 _ _ (hv.tre ht).2
   exact⟨by omega,fun x hx=>by have:=h1 x hx;omega⟩
  ·have:c.shape=[]:=List.length_eq_zero_iff.1 (hv.non ht)
   rw[this]
   exact⟨by simp,fun x hx=>by cases hx⟩
 ·unfold Dh
  split<;>omega
 ·have h1:=hv.cor
  have h2:=hv.va0
  have h3:=hv.va1
  simp only[List.mem_cons,List.not_mem_nil,or_false] at hx
  omega
theorem mZ.can {p:ao} {c:ap} (h:mZ c):mZ (cx p c):=by
 refine⟨by rw[mX];exact h.shape,⟨by rw[xV];exact h.states.1,fun x hx=>h.states.2 x ((uj p c).mem_iff.1 hx)⟩,by rw[o8];exact h.sent,by rw[lK];exact h.faulty,?_⟩
 rw[kK,r7];exact h.nums
structure FE (p:ao) (ex:Bool) (l:List cS) (f:ByteArray->Option Int):Prop where
 at_:∀i,i<l.length->f (ij (eV p ex (l.getD i d6).c))=some (i:Int)
 of_:∀k v,f k=some v->∃i,i<l.length/\v=(i:Int)/\ij (eV p ex (l.getD i d6).c)=k
theorem FE.nil (p:ao) (ex:Bool):FE p ex [] (fun _=>none):=⟨fun i hi=>by simp at hi,fun k v h=>by cases h⟩
theorem cY {α:Type} {l:List α} {a d:α} {i:Nat}:(l++[a]).getD i d=if i<l.length then l.getD i d else if i=l.length then a else d:=by
 rw[gD,gD]
 by_cases h:i<l.length
 ·rw[if_pos h,List.getElem?_append_left h]
 ·rw[if_neg h,List.getElem?_append_right (by omega)]
  by_cases h2:i=l.length
  ·rw[if_pos h2,h2,Nat.sub_self];rfl
  ·rw[if_neg h2,List.getElem?_eq_none (by simp;omega)];rfl
theorem FE.add {p:ao} {ex:Bool} {l:List cS} {f:ByteArray->Option Int} (h:FE p ex l f) {o:cS} (hn:f (ij (eV p ex o.c))=none):FE p ex (l++[o]) (fJ f (ij (eV p ex o.c)) (l.length:Int)):=by
 refine⟨fun i hi=>?_,fun k v hv=>?_⟩
 ·rw[List.length_append,List.length_singleton] at hi
  rw[cY]
  by_cases h1:i<l.length
  ·rw[if_pos h1]
   have:=h.at_ i h1
   rw[ja,this]
   intro e
   rw[e,hn] at this
   cases this
  ·rw[if_neg h1,if_pos (by omega),ip,show i=l.length by omega]
 ·by_cases e:k=ij (eV p ex o.c)
  ·subst e
   rw[ip] at hv
   cases hv
   exact⟨l.length,by simp,rfl,by rw[cY,if_neg (by omega),if_pos rfl]⟩
  ·rw[ja _ _ e] at hv
   obtain⟨i,hi,h1,h2⟩:=h.of_ k v hv
   exact⟨i,by simp;omega,h1,by rw[cY,if_pos hi];exact h2⟩
theorem FE.nodup {p:ao} {ex:Bool} {l:List cS} {f:ByteArray->Option Int} (h:FE p ex l f):(l.map fun o=>eV p ex o.c).Nodup:=by
 refine List.pairwise_iff_getElem.2 fun i j hi hj hij e=>?_
 rw[List.length_map] at hi hj
 rw[List.getElem_map,List.getElem_map] at e
 have h1:=h.at_ i hi
 have h2:=h.at_ j hj
 rw[gD,gL hi,Option.getD_some,e] at h1
 rw[gD,gL hj,Option.getD_some,h1] at h2
 simp only[Option.some.injEq] at h2
 omega
theorem FE.has {p:ao} {ex:Bool} {l:List cS} {f:ByteArray->Option Int} (h:FE p ex l f) (hs:∀o∈l,mZ (eV p ex o.c)) {c:ap} (hc:mZ (eV p ex c)):(f (ij (eV p ex c))).isSome=true↔eV p ex c∈l.map fun o=>eV p ex o.c:=by
 constructor
 ·intro hk
  obtain⟨v,hv⟩:=Option.isSome_iff_exists.1 hk
  obtain⟨i,hi,_,h2⟩:=h.of_ _ _ hv
  have hm:=aG d6 hi
  exact List.mem_map.2 ⟨_,hm,yb (hs _ hm) hc h2⟩
 ·intro hk
  obtain⟨o,ho,e⟩:=List.mem_map.1 hk
  obtain⟨i,hi,rfl⟩:=bp d6 ho
  have h1:f (ij (eV p ex (l.getD i d6).c))=some (i:Int):=h.at_ i hi
  rw[e] at h1
  rw[h1];rfl
def tg (l:List ap) (o:List Int):List ap:=o.map fun i=>l.getD i.toNat aC
structure vU (l:List ap) (o:List Int):Prop where
 len:o.length=l.length
 rng:∀i∈o,0<=i/\i<l.length
 all:∀i:Nat,i<l.length->(i:Int)∈o
 asc:KL (tg l o)
theorem vU.nil:vU [] []:=⟨rfl,fun i hi=>absurd hi List.not_mem_nil,fun i hi=>absurd hi (Nat.not_lt_zero _),List.Pairwise.nil⟩
theorem qj (l:List ap) (o:List Int):(tg l o).length=o.length:=by simp[tg]
theorem Bf (l:List ap) {o:List Int} {j:Nat} (h:j<o.length):(tg l o).getD j aC=l.getD (o.getD j 0).toNat aC:=by
 unfold tg
 rw[gD,List.getElem?_map,gL h]
 have e:o.getD j 0=o[j]:=by rw[gD,gL h];rfl
 rw[e];rfl
theorem Bg {l:List ap} {o:List Int} (h:vU l o) (c:ap):c∈tg l o↔c∈l:=by
 unfold tg
 constructor
 ·intro hc
  obtain⟨i,hi,rfl⟩:=List.mem_map.1 hc
  have:=h.rng i hi
  have hlt:i.toNat<l.length:=by omega
  rw[gD,gL hlt]
  exact List.getElem_mem hlt
 ·intro hc
  obtain⟨i,hi,rfl⟩:=List.getElem_of_mem hc
  refine List.mem_map.2 ⟨(i:Int),h.all i hi,?_⟩
  rw[tN,gD,gL hi]
  rfl
theorem vV {l:List ap} (h:KL l) {i j:Nat} (hij:i<j) (hj:j<l.length):fX (l.getD i aC) (l.getD j aC)<0:=by
 have:=List.pairwise_iff_getElem.1 h i j (by omega) hj hij
 rw[gD,gD,gL (by omega),gL hj]
 exact this
theorem m3 {a b c:ap} (h1:fX a b<0) (h2:fX b c<0):fX a c<0:=by
 have:=Ev a b c
 unfold Eu at this
 omega
structure KQ (l:List ap) (o:List Int) (c:ap) (a:Nat) (is:Bool):Prop where
 le:a<=o.length
 low:∀j,j<a->fX ((tg l o).getD j aC) c<0
 yes:is=true->a<o.length/\fX ((tg l o).getD a aC) c=0
 no:is=false->∀j,a<=j->j<o.length->0<fX ((tg l o).getD j aC) c
theorem KQ.mem {l:List ap} {o:List Int} {c:ap} {a:Nat} {is:Bool} (h:KQ l o c a is) (hs:vU l o):is=true↔c∈l:=by
 constructor
 ·intro hi
  obtain⟨h1,h2⟩:=h.yes hi
  have e:=mj h2
  rw[<-Bg hs,<-e]
  exact aG aC (by rw[qj];exact h1)
 ·intro hc
  rw[<-Bg hs] at hc
  obtain⟨j,hj,rfl⟩:=bp aC hc
  rw[qj] at hj
  cases is with
  |true=>rfl
  |false=>
   exfalso
   by_cases hja:j<a
   ·have:=h.low j hja
    rw[l9] at this;omega
   ·have:=h.no rfl j (by omega) hj
    rw[l9] at this;omega
theorem KQ.at_ {l:List ap} {o:List Int} {c:ap} {a:Nat} (h:KQ l o c a true):l.getD (o.getD a 0).toNat aC=c:=by
 obtain⟨h1,h2⟩:=h.yes rfl
 rw[<-Bf l h1]
 exact mj h2
def sc (o:List Int) (a:Nat) (x:Int):List Int:=o.take a++(x::o.drop a)
theorem yc {o:List Int} {a:Nat} (x:Int) (h:a<=o.length):(sc o a x).length=o.length+1:=by
 unfold sc
 rw[List.length_append,List.length_cons,List.length_take,List.length_drop]
 omega
theorem FF {o:List Int} {a:Nat} (x:Int) (h:a<=o.length) (j:Nat):(sc o a x).getD j 0=if j<a then o.getD j 0 else if j=a then x else o.getD (j-1) 0:=by
 have ht:(o.take a).length=a:=by rw[List.length_take];omega
 unfold sc
 rw[gD]
 by_cases h1:j<a
 ·rw[if_pos h1,List.getElem?_append_left (by omega),List.getElem?_take,if_pos h1,gD]
 ·rw[if_neg h1,List.getElem?_append_right (by omega),ht]
  by_cases h2:j=a
  ·rw[if_pos h2,h2,Nat.sub_self];rfl
  ·rw[if_neg h2,show j-a=(j-a-1)+1 by omega,List.getElem?_cons_succ,List.getElem?_drop,gD,show a+(j-a-1)=j-1 by omega]
theorem vU.ins {l:List ap} {o:List Int} {c:ap} {a:Nat} (hs:vU l o) (h:KQ l o c a false):vU (l++[c]) (sc o a l.length):=by
 have hle:=h.le
 have ht:(o.take a).length=a:=by rw[List.length_take];omega
 have hmap:∀p:List Int,(∀i∈p,i∈o)->p.map (fun i=>(l++[c]).getD i.toNat aC)=p.map fun i=>l.getD i.toNat aC:=fun p hp=>List.map_congr_left fun i hi=>by
  have:=hs.rng i (hp i hi)
  rw[gD,List.getElem?_append_left (by omega),gD]
 have hsv:tg (l++[c]) (sc o a l.length)=(tg l o).take a++(c::(tg l o).drop a):=by
  unfold tg sc
  rw[List.map_append,List.map_cons,hmap _ fun i hi=>List.mem_of_mem_take hi,hmap _ fun i hi=>List.mem_of_mem_drop hi,List.map_take,List.map_drop]
  congr 2
  simp
 refine⟨by rw[yc _ hle,hs.len];simp,fun i hi=>?_,fun i hi=>?_,?_⟩
 ·unfold sc at hi
  rw[List.mem_append,List.mem_cons] at hi
  rw[List.length_append,List.length_singleton]
  rcases hi with hi|rfl|hi
  ·have:=hs.rng i (List.mem_of_mem_take hi);omega
  ·omega
  ·have:=hs.rng i (List.mem_of_mem_drop hi);omega
 ·rw[List.length_append,List.length_singleton] at hi
  unfold sc
  rw[List.mem_append,List.mem_cons]
  by_cases e:i=l.length
  ·exact .inr (.inl (by rw[e]))
  ·have:=hs.all i (by omega)
   rw[<-List.take_append_drop a o,List.mem_append] at this
   rcases this with h1|h1
   ·exact .inl h1
   ·exact .inr (.inr h1)
 ·rw[hsv]
  have hlen:=qj l o
  unfold KL
  rw[List.pairwise_append,List.pairwise_cons]
  have hlow:∀x∈(tg l o).take a,fX x c<0:=fun x hx=>by
   obtain⟨j,hj,rfl⟩:=List.getElem_of_mem hx
   rw[List.length_take] at hj
   have:=h.low j (by omega)
   rw[gD,gL (by omega)] at this
   rw[List.getElem_take];exact this
  have hhigh:∀x∈(tg l o).drop a,fX c x<0:=fun x hx=>by
   obtain⟨j,hj,rfl⟩:=List.getElem_of_mem hx
   rw[List.length_drop] at hj
   have:=h.no rfl (a+j) (by omega) (by omega)
   rw[gD,gL (by omega)] at this
   rw[List.getElem_drop,rm]
   have h2:0<fX (tg l o)[a+j] c:=this
   omega
  refine⟨List.Pairwise.sublist (List.take_sublist _ _) hs.asc,⟨hhigh,List.Pairwise.sublist (List.drop_sublist _ _) hs.asc⟩,fun x hx y hy=>?_⟩
  rcases List.mem_cons.1 hy with rfl|hy
  ·exact hlow x hx
  ·exact m3 (hlow x hx) (hhigh y hy)
section
variable {p:ao} {q:bn} {s:az}
abbrev bu (l:List cS) (i:Nat):cS:=l.getD i d6
def sd (p:ao) (q:bn) (s:az) (l:List cS) (i:Nat):Prop:=
 ((bu l i).src=-1/\lH p q s (bu l i).c)\/∃j:Nat,j<i/\(bu l i).src=(j:Int)/\cz p s (bu l j).c (bu l i).st false/\bo (bu l j).c (aH p (bu l i).st) (bu l i).st/\(bu l i).c=cb (bu l j).c (aH p (bu l i).st) (bu l i).st
def eH (p:ao) (q:bn) (s:az) (l:List cS):Prop:=∀i,i<l.length->sd p q s l i
theorem dl {l m:List cS} {i:Nat} (h:i<l.length):bu (l++m) i=bu l i:=by
 unfold bu
 rw[gD,gD,List.getElem?_append_left h]
theorem iT (l:List cS) (o:cS):bu (l++[o]) l.length=o:=by
 unfold bu
 rw[cY,if_neg (by omega),if_pos rfl]
theorem sd.app {l m:List cS} {i:Nat} (h:sd p q s l i) (hi:i<l.length):sd p q s (l++m) i:=by
 unfold sd at*
 rw[dl hi]
 rcases h with h|⟨j,hj,h⟩
 ·exact .inl h
 ·refine .inr ⟨j,hj,?_⟩
  rw[dl (by omega)]
  exact h
theorem eH.nil:eH p q s []:=fun i hi=>by simp at hi
theorem eH.ini {l:List cS} (h:eH p q s l) {c:ap} (hc:lH p q s c) (st:aQ):eH p q s (l++[⟨c,-1,st⟩]):=by
 intro i hi
 rw[List.length_append,List.length_singleton] at hi
 by_cases e:i<l.length
 ·exact(h i e).app e
 ·have:i=l.length:=by omega
  subst this
  unfold sd
  rw[iT]
  exact .inl ⟨rfl,hc⟩
theorem eH.stp {l:List cS} (h:eH p q s l) {j:Nat} (hj:j<l.length) {x:aQ} (he:cz p s (bu l j).c x false) (ha:bo (bu l j).c (aH p x) x):eH p q s (l++[⟨cb (bu l j).c (aH p x) x,(j:Int),x⟩]):=by
 intro i hi
 rw[List.length_append,List.length_singleton] at hi
 by_cases e:i<l.length
 ·exact(h i e).app e
 ·have:i=l.length:=by omega
  subst this
  unfold sd
  rw[iT]
  refine .inr ⟨j,hj,rfl,?_⟩
  rw[dl hj]
  exact⟨he,ha,rfl⟩
inductive cP (l:List cS):Nat->Nat->List aQ->Prop
 |root {i:Nat} (h:(bu l i).src=-1):cP l i i []
 |step {i j r:Nat} {xs:List aQ} (hj:j<i) (h:(bu l i).src=(j:Int)) (k:cP l j r xs):cP l i r (xs++[(bu l i).st])
theorem cP.ex {l:List cS} (h:eH p q s l):∀i,i<l.length->∃r xs,cP l i r xs:=by
 intro i
 induction i using Nat.strongRecOn with
 |_ i ih=>
  intro hi
  rcases h i hi with h1|⟨j,hj,h1,_⟩
  ·exact⟨i,[], .root h1.1⟩
  ·obtain⟨r,xs,hc⟩:=ih j hj (by omega)
   exact⟨r,_, .step hj h1 hc⟩
theorem cP.run {l:List cS} (h:eH p q s l) {i r:Nat} {xs:List aQ} (hc:cP l i r xs):i<l.length->lH p q s (bu l r).c/\fB p s (bu l r).c xs/\(trs p (bu l r).c xs).getD xs.length aC=(bu l i).c:=by
 induction hc with
 |@root i hs=>
  intro hi
  rcases h i hi with h1|⟨j,_,h1,_⟩
  ·exact⟨h1.2,trivial,rfl⟩
  ·omega
 |@step i j r xs hj hs _ ih=>
  intro hi
  obtain⟨k1,k2,k3⟩:=ih (by omega)
  rcases h i hi with h1|⟨j',_,h1,h2,h3,h4⟩
  ·omega
  ·have:j'=j:=by omega
   subst this
   refine⟨k1,ul.2 ⟨k2,?_⟩,?_⟩
   ·rw[k3];exact⟨h2,h3,trivial⟩
   ·rw[HS,k3,h4];rfl
theorem cP.wn {l:List cS} (h:eH p q s l) {i r:Nat} {xs:List aQ} (hc:cP l i r xs) (hi:i<l.length):Wn p q s xs.length (bu l i).c:=by
 obtain⟨k1,k2,k3⟩:=hc.run h hi
 have:=(Wn.ini k1).of_run k2
 rw[k3,Nat.zero_add] at this
 exact this
theorem cP.app {l m:List cS} {i r:Nat} {xs:List aQ} (hc:cP l i r xs):i<l.length->cP (l++m) i r xs:=by
 induction hc with
 |@root i hs=>exact fun hi=>.root (by rw[dl hi];exact hs)
 |@step i j r xs hj hs _ ih=>
  intro hi
  have:=cP.step (l:=l++m) hj (by rw[dl hi];exact hs) (ih (by omega))
  rw[dl hi] at this
  exact this
theorem cP.one {l:List cS} {i r r':Nat} {xs xs':List aQ} (h:cP l i r xs) (k:cP l i r' xs'):r=r'/\xs=xs':=by
 induction h generalizing r' xs' with
 |@root i hs=>
  cases k with
  |root _=>exact⟨rfl,rfl⟩
  |step _ h1 _=>omega
 |@step i j r xs hj hs _ ih=>
  cases k with
  |root h1=>omega
  |@step _ j' _ xs2 _ h1 h2=>
   have:j'=j:=by omega
   subst this
   obtain⟨e1,e2⟩:=ih h2
   exact⟨e1,by rw[e2]⟩
end
end
end Go.Proofs.YtokjgegkhlkopaaGreatDoor
