import Derived.Test.YtblcpnmnibcbbaaGreatDoorM9
import Derived.Test.YtblcpnmnibcbbaaGreatDoorMD
import Derived.Laws.BytesArg
set_option linter.unusedVariables false
set_option linter.unusedSimpArgs false
namespace Go.Proofs.YtblcpnmnibcbbaaGreatDoor
section
set_option maxRecDepth 100000
set_option maxHeartbeats 16000000
theorem lc {p:aq} {s:aB}:∀{a b:List be} {c:ap},ee p s c (a++b)↔ee p s c a/\ee p s ((trs p c a).getD a.length aA) b
 |[],b,c=>by simp[ee,trs,tr]
 |x::a,b,c=>by
  have ih:=lc (p:=p) (s:=s) (a:=a) (b:=b) (c:=cp c (aO p x) x)
  simp only[List.cons_append,ee,ih]
  constructor
  ·rintro⟨h1,h2,h3,h4⟩;exact⟨⟨h1,h2,h3⟩,h4⟩
  ·rintro⟨⟨h1,h2,h3⟩,h4⟩;exact⟨h1,h2,h3,h4⟩
theorem Cn {p:aq}:∀(a b:List be) (c:ap),tr p c (a++b)=tr p c a++tr p ((trs p c a).getD a.length aA) b
 |[],b,c=>rfl
 |x::a,b,c=>by
  have ih:=Cn (p:=p) a b (cp c (aO p x) x)
  simp only[List.cons_append,tr,ih]
  rfl
theorem mN {p:aq} (a b:List be) (c:ap):trs p c (a++b)=trs p c a++tr p ((trs p c a).getD a.length aA) b:=by
 unfold trs;rw[Cn];rfl
theorem Ew {p:aq} (a b:List be) (c:ap):(trs p c (a++b)).getD (a++b).length aA=(trs p ((trs p c a).getD a.length aA) b).getD b.length aA:=by
 induction a generalizing c with
 |nil=>rfl
 |cons x a ih=>exact ih (cp c (aO p x) x)
theorem Co {p:aq} (a b:List be) (c:ap):(trs p c (a++b)).drop a.length=trs p ((trs p c a).getD a.length aA) b:=by
 induction a generalizing c with
 |nil=>rfl
 |cons x a ih=>exact ih (cp c (aO p x) x)
structure zM where
 start:ap
 pre:List be
 loop:List be
def Cp (l:zM):List AV:=aY l.start++[.sl bm cF l.pre, .sl bm cF l.loop]
def eX (p:aq) (l:zM):ap:=(trs p l.start l.pre).getD l.pre.length aA
def iw (p:aq) (s:aB) (b:List ap) (loop:List be) (r i:Int):Prop:=(∃x∈loop,x.rule=r/\x.process=i)\/∃d∈b,¬za p s d r i
structure Gj (p:aq) (q:bO) (s:aB) (R:ap->Prop) (m:ap) (loop:List be):Prop where
 run:ee p s m loop
 back:(trs p m loop).getD loop.length aA=m
 not:∀d∈trs p m loop,¬R d
 free:∀r i:Nat,r<p.rules.length->(i:Int)<s.n-s.f->iw p s (trs p m loop) loop r i
def qV (p:aq) (q:bO) (s:aB) (R:ap->Prop) (l:zM):Prop:=fO p q s=0/\q.kind=2/\lf p q s l.start/\ee p s l.start l.pre/\(∀d∈trs p l.start l.pre,¬R d)/\Gj p q s R (eX p l) l.loop
def vY (r k:Nat):List (Int×Int):=(List.range k).map fun i:Nat=>((r:Int),(i:Int))
def lR (m k:Nat):List (Int×Int):=(List.range k).flatMap fun r=>vY r m
theorem Gk (r k:Nat):vY r (k+1)=vY r k++[((r:Int),(k:Int))]:=by simp[vY,List.range_succ]
theorem Cq (m k:Nat):lR m (k+1)=lR m k++vY k m:=by simp[lR,List.range_succ,List.flatMap_append]
theorem xZ (r k:Nat):(vY r k).length=k:=by simp[vY]
theorem tk (m:Nat):∀k,(lR m k).length=k*m
 |0=>by simp[lR]
 |k+1=>by rw[Cq,List.length_append,xZ,tk m k,Nat.add_mul,Nat.one_mul]
theorem x4 {m k:Nat} {a:Int×Int}:a∈lR m k↔∃r i:Nat,r<k/\i<m/\a=((r:Int),(i:Int)):=by
 simp only[lR,vY,List.mem_flatMap,List.mem_map,List.mem_range]
 constructor
 ·rintro⟨r,hr,i,hi,rfl⟩;exact⟨r,i,hr,hi,rfl⟩
 ·rintro⟨r,i,hr,hi,rfl⟩;exact⟨r,hr,i,hi,rfl⟩
def Ex (k:Int×Int):List AV:=[.int .i64 k.1, .int .i64 k.2]
def HW (l:List (Int×Int)):bj:=.row 159 (0,0) Ex l
theorem Gm (p:aq) (s:aB) (hp:¬bV p) (hs:(1<=s.n/\s.n<=8)/\(0<=s.f/\s.f<=s.n)):aa Tryz.prog 87 [.agg (bc p), .agg (bW s)] (fun u=>u= .sl (0,0) Ex (lR (s.n-s.f).toNat p.rules.length)):=by
 have hle:=aC hp
 have hm:(s.n-s.f).toNat<=8:=by omega
 have hA:=tk (s.n-s.f).toNat
 refine aa.intro ab ac Tryz.func87 rfl (by decide) ?_;(conv=>whnf)
 refine am rfl ?_
 conv=>whnf
 refine am rfl ?_
 conv=>whnf
 refine aR.loopF ab ac (fun k1:Nat=>k1<=p.rules.length) (fun k1=>[(11, .int .i64 (k1:Int)),(5, .row 1000 (lR (s.n-s.f).toNat k1).length 2)]) (fun k1=>[(1000,HW (lR (s.n-s.f).toNat k1))]) (fun k1=>p.rules.length-k1) 0 (Nat.zero_le _) ?_;conv=>whnf
 refine⟨bE.by_ [(1000, .nil 2)] _ 400 rfl (ai) (ai),?_⟩
 rintro k1 hk1
 conv=>whnf
 refine ag ?_ ?_<;>(intro g1;conv=>whnf)
 ·refine aI ?_
  conv=>whnf
  have hk8:(lR (s.n-s.f).toNat k1).length<=8000:=by
   rw[hA]
   have:=Nat.mul_le_mul (show k1<=1000 by omega) hm
   omega
  have e0:lR (s.n-s.f).toNat k1++vY k1 0=lR (s.n-s.f).toNat k1:=by simp[vY]
  refine aR.loopF ab ac (fun k2:Nat=>k2<=(s.n-s.f).toNat) (fun k2=>[(19, .int .i64 (k2:Int)),(5, .row 1000 (lR (s.n-s.f).toNat k1++vY k1 k2).length 2)]) (fun k2=>[(1000,HW (lR (s.n-s.f).toNat k1++vY k1 k2))]) (fun k2=>(s.n-s.f).toNat-k2) 0 (Nat.zero_le _) ?_;conv=>whnf
  refine⟨by rw[e0];exact sI,?_⟩
  rintro k2 hk2
  conv=>whnf
  refine ag ?_ ?_<;>(intro g2;conv=>whnf)
  ·have hll:(lR (s.n-s.f).toNat k1++vY k1 k2).length<=1000000:=by rw[List.length_append,xZ];omega
   refine c8 (0,0) Ex [((k1:Int),(k2:Int))] rfl ?_
   conv=>whnf
   refine eC [((k1:Int),(k2:Int))] rfl lI ?_
   conv=>whnf
   repeat' ((first|refine nI ?_|refine aI ?_|refine tI ?_|refine fI ?_|fail);conv=>whnf)
   have e3:lR (s.n-s.f).toNat k1++vY k1 (k2+1)=lR (s.n-s.f).toNat k1++vY k1 k2++[((k1:Int),(k2:Int))]:=by rw[Gk,<-List.append_assoc]
   refine⟨k2+1,?_,by omega,by dsimp only;omega⟩
   dsimp only
   rw[e3]
   exact bE.by_ [(1000, .old 27)] _ 400 rfl (ai) (ai)
  ·have ek:k2=(s.n-s.f).toNat:=by omega
   have e2:lR (s.n-s.f).toNat (k1+1)=lR (s.n-s.f).toNat k1++vY k1 k2:=by rw[ek,Cq]
   repeat' ((first|refine nI ?_|refine aI ?_|refine tI ?_|refine fI ?_|fail);conv=>whnf)
   refine⟨k1+1,?_,by omega,by dsimp only;omega⟩
   dsimp only
   rw[e2]
   exact sI
 ·obtain rfl:k1=p.rules.length:=by omega
  exact⟨rfl,rfl⟩
def z4 (k:Int×Int):Value:=.agg #[.int .i64 k.1, .int .i64 k.2]
theorem x5:jL Tryz.prog 159 z4:=by
 have ht:Tryz.prog.underlying 3=some (.int .i64):=Tryz.underlying3
 have hag:∀w,(isAgg 3).run Tryz.prog w= .ok false w:=fun w=>by simp[isAgg,run_underlying ht]
 have hag2:∀w,(isAgg 159).run Tryz.prog w= .ok true w:=fun w=>by simp[isAgg,run_underlying Tryz.underlying159]
 refine jL.ask Tryz.underlying159 ?_ ?_ ?_ ?_ ?_
 ·rintro⟨a,b⟩ ⟨c,d⟩ h
  simpa[z4] using h
 ·rintro e ⟨a,b⟩ w
  have h4:∀n w,(Instr.checkKey e (n+2) 159 (z4 (a,b))).run Tryz.prog w= .ok () w:=fun n w=>by
   simp[Instr.checkKey,run_underlying Tryz.underlying159,run_underlying ht,z4,part,hag]
  exact h4 9998 w
 ·intro a b;rfl
 ·rintro⟨a,b⟩ ⟨c,d⟩ w
  obtain⟨p,q,e1,e2,e3⟩:=xa (P:=Tryz.prog) w 9 159 2 (by decide+kernel) 9991 #[.int .i64 a, .int .i64 b] #[.int .i64 c, .int .i64 d] 0 [a,b] [c,d] rfl rfl
   (fun j x hj=>by rw[Nat.zero_add];match j,hj with|0,hj=>cases hj;rfl|1,hj=>cases hj;rfl) (fun j x hj=>by rw[Nat.zero_add];match j,hj with|0,hj=>cases hj;rfl|1,hj=>cases hj;rfl)
  have hsz:(Go.sizeOf 159).run Tryz.prog w= .ok 2 w:=by
   obtain⟨i,hi⟩:∃i,tt.find 159=some i:=⟨_,rfl⟩
   have:=TOk.size ab hi w
   cases hi
   exact this
  simp[part,hag2,hsz] at e1 e2
  subst e1;subst e2
  refine⟨_,e3,?_⟩
  simp[z4]
 ·rintro⟨a,b⟩
  have h4:∀n,Instr.sameBits (n+1) (z4 (a,b)) (z4 (a,b))=true:=fun n=>by simp[z4,Instr.sameBits]
  exact h4 9999
structure Gn (l:List be) (f:Int×Int->Option Bool):Prop where
 yes:∀a b,f a=some b->b=true/\∃x∈l,(x.rule,x.process)=a
 no:∀a,f a=none->∀x∈l,(x.rule,x.process)≠a
theorem Gn.nil:Gn [] (fun _=>none):=⟨fun _ _ h=>(by cases h),fun _ _ x hx=>absurd hx List.not_mem_nil⟩
theorem Gn.up {l:List be} {k:Nat} {f:Int×Int->Option Bool} (h:Gn (l.take k) f) (hk:k<l.length):Gn (l.take (k+1)) (gO f ((l.getD k bm).rule,(l.getD k bm).process) true):=by
 have e:l.getD k bm=l[k]:=by rw[gD,gL hk];rfl
 rw[List.take_succ_eq_append_getElem hk,e]
 refine⟨fun a b hb=>?_,fun a ha x hx=>?_⟩
 ·by_cases c:a=(l[k].rule,l[k].process)
  ·subst c
   rw[gA] at hb
   cases hb
   exact⟨rfl,l[k],List.mem_append_right _ List.mem_cons_self,rfl⟩
  ·rw[ic _ _ c] at hb
   obtain⟨h1,x,hx,hh⟩:=h.yes a b hb
   exact⟨h1,x,List.mem_append_left _ hx,hh⟩
 ·have c:a≠(l[k].rule,l[k].process):=fun c=>by subst c;rw[gA] at ha;cases ha
  rw[ic _ _ c] at ha
  rcases List.mem_append.1 hx with hx|hx
  ·exact h.no a ha x hx
  ·rw[List.mem_singleton] at hx;subst hx;exact fun e=>c e.symm
def n8 (p:aq) (s:aB) (b:List ap) (loop:List be):Prop:=∀r i:Nat,r<p.rules.length->(i:Int)<s.n-s.f->iw p s b loop r i
noncomputable instance decFair (p:aq) (s:aB) (b:List ap) (loop:List be):Decidable (n8 p s b loop):=Classical.propDecidable _
theorem zN {p:aq} {s:aB} {b:List ap} {loop:List be} (h:∀a∈lR (s.n-s.f).toNat p.rules.length,iw p s b loop a.1 a.2):n8 p s b loop:=
 fun r i hr hi=>h ((r:Int),(i:Int)) (x4.2 ⟨r,i,hr,by omega,rfl⟩)
theorem Cr {p:aq} {s:aB} {b:List ap} {loop:List be} (h:n8 p s b loop) {a:Int×Int} (ha:a∈lR (s.n-s.f).toNat p.rules.length):iw p s b loop a.1 a.2:=by
 obtain⟨r,i,hr,hi,rfl⟩:=x4.1 ha
 exact h r i hr (by omega)
theorem bi {α:Type} (d:α) {l:List α} {k:Nat} (h:k<l.length):l.getD k d∈l:=by
 rw[gD,gL h];exact List.getElem_mem h
theorem bL {α:Type} (d:α) {l:List α} {a:α} (h:a∈l):∃k,k<l.length/\l.getD k d=a:=by
 obtain⟨k,hk,rfl⟩:=List.getElem_of_mem h
 exact⟨k,hk,by rw[gD,gL hk];rfl⟩
theorem zO (p:aq) (s:aB) (b:List ap) (loop:List be) (hp:¬bV p) (hs:(1<=s.n/\s.n<=8)/\(0<=s.f/\s.f<=s.n)) (hb:∀k,k<b.length->cK p s (b.getD k aA)) (hbl:b.length<=100000) (hll:loop.length<=100000):
  aa Tryz.prog 45 [.agg (bc p), .agg (bW s), .sl aA aY b, .sl bm cF loop] (fun u=>u= .bool (decide (n8 p s b loop))):=by
 have hle:=aC hp
 have hal:(lR (s.n-s.f).toNat p.rules.length).length<=8000:=by
  rw[tk]
  have:=Nat.mul_le_mul (show p.rules.length<=1000 by omega) (show(s.n-s.f).toNat<=8 by omega)
  omega
 refine aa.intro ab ac Tryz.func45 rfl (by decide) ?_;(conv=>whnf)
 refine am rfl ?_
 conv=>whnf
 refine am rfl ?_
 conv=>whnf
 refine Hb z4 Value.bool ?_
 conv=>whnf
 refine aR.loopF ab ac (fun x:Nat×(Int×Int->Option Bool)=>x.1<=loop.length/\Gn (loop.take x.1) x.2) (fun x=>[(20, .int .i64 (x.1:Int))]) (fun x=>[(17, .map z4 Value.bool x.2)]) (fun x=>loop.length-x.1) (0,fun _=>none) ⟨Nat.zero_le _,Gn.nil⟩ ?_;conv=>whnf
 refine⟨sI,?_⟩
 rintro⟨k,f⟩ ⟨hk,hf⟩
 dsimp only at hk hf
 conv=>whnf
 refine ag ?_ ?_<;>(intro g1;conv=>whnf)
 ·refine nI ?_
  conv=>whnf
  rw[tN]
  refine Hd x5 ((loop.getD k bm).rule,(loop.getD k bm).process) true rfl rfl ?_
  conv=>whnf
  repeat' ((first|refine nI ?_|refine aI ?_|refine tI ?_|refine fI ?_|fail);conv=>whnf)
  exact⟨(k+1,gO f ((loop.getD k bm).rule,(loop.getD k bm).process) true),sI,⟨by dsimp only;omega,hf.up (by omega)⟩,by dsimp only;omega⟩
 have hk':k=loop.length:=by omega
 rw[hk',List.take_length] at hf
 clear hk hk' g1
 (refine oP (Gm p s hp hs) ?_;conv=>whnf)
 have hmem:∀j,j<(lR (s.n-s.f).toNat p.rules.length).length->(n8 p s b loop->iw p s b loop ((lR (s.n-s.f).toNat p.rules.length).getD j (0,0)).1 ((lR (s.n-s.f).toNat p.rules.length).getD j (0,0)).2):=fun j hj h=>Cr h (bi (0,0) hj)
 have hall:(∀j,j<(lR (s.n-s.f).toNat p.rules.length).length->iw p s b loop ((lR (s.n-s.f).toNat p.rules.length).getD j (0,0)).1 ((lR (s.n-s.f).toNat p.rules.length).getD j (0,0)).2)->n8 p s b loop:=fun h=>zN fun a ha=>by
  obtain⟨j,hj,rfl⟩:=bL (0,0) ha
  exact h j hj
 generalize lR (s.n-s.f).toNat p.rules.length=A at hal hmem hall
 refine aR.loopF ab ac (fun j:Nat=>j<=A.length/\∀i,i<j->iw p s b loop (A.getD i (0,0)).1 (A.getD i (0,0)).2) (fun j=>[(35, .int .i64 (j:Int))]) (fun _=>[(17, .map z4 Value.bool f)]) (fun j=>A.length-j) 0 ⟨Nat.zero_le _,fun i hi=>by omega⟩ ?_;conv=>whnf
 refine⟨sI,?_⟩
 rintro j ⟨hj,ha⟩
 conv=>whnf
 refine ag ?_ ?_<;>(intro g2;conv=>whnf)
 case refine_2=>exact⟨aH (hall fun i hi=>ha i (by omega)),rfl⟩
 have hmj:=hmem j (by omega)
 refine nI ?_
 conv=>whnf
 rw[tN]
 have hnx:iw p s b loop (A.getD j (0,0)).1 (A.getD j (0,0)).2->∀i,i<j+1->iw p s b loop (A.getD i (0,0)).1 (A.getD i (0,0)).2:=fun h i hi=>by
  by_cases e:i=j
  ·subst e;exact h
  ·exact ha i (by omega)
 generalize A.getD j (0,0)=a at hmj hnx
 refine E6 x5 a rfl (fun t ht=>?_) (fun hn=>?_)
 ·obtain⟨rfl,x,hx,hxa⟩:=hf.yes a t ht
  subst hxa
  conv=>whnf
  repeat' ((first|refine nI ?_|refine aI ?_|refine tI ?_|refine fI ?_|fail);conv=>whnf)
  exact⟨j+1,sI,⟨by omega,hnx (.inl ⟨x,hx,rfl,rfl⟩)⟩,by dsimp only;omega⟩
 have hnt:¬∃x∈loop,x.rule=a.1/\x.process=a.2:=by
  rintro⟨x,hx,h1,h2⟩
  exact hf.no a hn x hx (Prod.ext h1 h2)
 conv=>whnf
 refine aR.loopF ab ac (fun y:Nat×Bool=>y.1<=b.length/\(y.2=true↔∀i,i<y.1->za p s (b.getD i aA) a.1 a.2)) (fun y=>[(44, .int .i64 (y.1:Int)),(14, .bool y.2)]) (fun _=>[(13, .box 159 (Ex a)),(17, .map z4 Value.bool f)]) (fun y=>b.length-y.1) (0,true) ⟨Nat.zero_le _,by simp⟩ ?_;conv=>whnf
 refine⟨sI,?_⟩
 rintro⟨k,t⟩ ⟨hk,hy⟩
 dsimp only at hk hy
 conv=>whnf
 refine ag ?_ ?_<;>(intro g3;conv=>whnf)
 ·refine nI ?_
  conv=>whnf
  rw[tN]
  have hR:=hb k (by omega)
  generalize hd:b.getD k aA=d at hR⊢
  cases t with
  |false=>
   refine dI ?_
   conv=>whnf
   repeat' ((first|refine nI ?_|refine aI ?_|refine tI ?_|refine fI ?_|fail);conv=>whnf)
   exact⟨(k+1,false),sI,⟨by dsimp only;omega,⟨fun h=>(by cases h),fun h=>hy.2 fun i hi=>h i (Nat.lt_succ_of_lt hi)⟩⟩,by dsimp only;omega⟩
  |true=>
   refine dI ?_
   conv=>whnf
   (refine oC (F6 p s d hR.wide) ?_;conv=>whnf)
   refine dD (Ej p s d a.1 a.2 hR) (fun _=>?_) (fun _=>?_)<;>(conv=>whnf)
   ·rename_i h4
    repeat' ((first|refine nI ?_|refine aI ?_|refine tI ?_|refine fI ?_|fail);conv=>whnf)
    exact⟨(k+1,true),sI,⟨by dsimp only;omega,⟨fun _ i hi=>by
     by_cases e:i=k
     ·subst e;rw[hd];exact h4
     ·exact hy.1 rfl i (by omega),fun _=>rfl⟩⟩,by dsimp only;omega⟩
   ·rename_i h4
    repeat' ((first|refine nI ?_|refine aI ?_|refine tI ?_|refine fI ?_|fail);conv=>whnf)
    exact⟨(k+1,false),sI,⟨by dsimp only;omega,⟨fun h=>(by cases h),fun h=>absurd (by have:=h k (Nat.lt_succ_self k);rwa [hd] at this) h4⟩⟩,by dsimp only;omega⟩
 ·have hkb:k=b.length:=by omega
  subst hkb
  cases t with
  |true=>
   conv=>whnf
   refine⟨an fun h=>?_,rfl⟩
   rcases hmj h with hx|⟨d,hdb,hnf⟩
   ·exact hnt hx
   ·obtain⟨i,hi,rfl⟩:=bL aA hdb
    exact hnf (hy.1 rfl i hi)
  |false=>
   conv=>whnf
   repeat' ((first|refine nI ?_|refine aI ?_|refine tI ?_|refine fI ?_|fail);conv=>whnf)
   have hfree:∃d∈b,¬za p s d a.1 a.2:=Classical.byContradiction fun hno=>by
    have:=hy.2 fun i hi=>Classical.byContradiction fun hnf=>hno ⟨_,bi aA hi,hnf⟩
    cases this
   exact⟨j+1,sI,⟨by omega,hnx (.inr hfree)⟩,by dsimp only;omega⟩
theorem i9 {a b:ap} (h:fx a b=0):a=b:=by
 have hz:=cd h
 have e1:=gu (hz (bz a.shape b.shape) (by simp))
 have e2:=gu (hz (bz a.states b.states) (by simp))
 have e3:=gu (hz (bz a.sent b.sent) (by simp))
 have e4:=gu (hz (bz a.faulty b.faulty) (by simp))
 have e5:=hz (hJ a.correct b.correct) (by simp)
 have e6:=hz (hJ a.value b.value) (by simp)
 have e5':a.correct=b.correct:=by unfold hJ at e5;(repeat' split at e5)<;>omega
 have e6':a.value=b.value:=by unfold hJ at e6;(repeat' split at e6)<;>omega
 obtain⟨a1,a2,a3,a4,a5,a6⟩:=a
 obtain⟨b1,b2,b3,b4,b5,b6⟩:=b
 simp only at e1 e2 e3 e4 e5' e6'
 rw[e1,e2,e3,e4,e5',e6']
noncomputable instance decLas (p:aq) (q:bO) (s:aB) (l:zM):Decidable (qV p q s (cS q) l):=Classical.propDecidable _
theorem Cs {p:aq} {q:bO} {s:aB} {R:ap->Prop} {l:zM} (h1:fO p q s=0) (h2:q.kind=2) (h3:lf p q s l.start) (h4:ee p s l.start (l.pre++l.loop)):
  qV p q s R l↔((trs p (eX p l) l.loop).getD l.loop.length aA=eX p l/\(∀d∈trs p l.start (l.pre++l.loop),¬R d)/\n8 p s (trs p (eX p l) l.loop) l.loop):=by
 have h5:=lc.1 h4
 constructor
 ·rintro⟨_,_,_,_,a,b⟩
  refine⟨b.back,fun d hd=>?_,b.free⟩
  rw[mN,List.mem_append] at hd
  rcases hd with hd|hd
  ·exact a d hd
  ·exact b.not d (List.mem_cons_of_mem _ hd)
 ·rintro⟨a,b,c⟩
  refine⟨h1,h2,h3,h5.1,fun d hd=>b d (by rw[mN];exact List.mem_append_left _ hd),⟨h5.2,a,fun d hd=>?_,c⟩⟩
  rcases List.mem_cons.1 hd with rfl|hd
  ·refine b _ ?_
   rw[mN]
   refine List.mem_append_left _ (bi aA ?_)
   rw[k0];omega
  ·exact b d (by rw[mN];exact List.mem_append_right _ hd)
theorem HX (p:aq) (q:bO) (s:aB) (l:zM) (hp:¬bV p) (hq:¬fC q) (hw:aX l.start=false) (hl1:l.pre.length<=400) (hl2:l.loop.length<=400):aa Tryz.prog 17 [.agg (bc p), .agg (gb q), .agg (bW s), .agg (Cp l)] (fun u=>u= .bool (decide (qV p q s (cS q) l))):=by
 refine aa.intro ab ac Tryz.func17 rfl (by decide) ?_;(conv=>whnf)
 refine am rfl ?_
 conv=>whnf
 refine am rfl ?_
 conv=>whnf
 refine am rfl ?_
 conv=>whnf
 refine am rfl ?_
 conv=>whnf
 (refine oP (zw p q s hp hq) ?_;conv=>whnf)
 refine ag ?_ ?_<;>(intro h1;conv=>whnf)
 ·exact⟨an (fun h=>h1 h.1),rfl⟩
 refine ag ?_ ?_<;>(intro h2;conv=>whnf)
 ·exact⟨an (fun h=>h2 h.2.1),rfl⟩
 have h1':fO p q s=0:=by omega
 have h2':q.kind=2:=by omega
 have hz:=oI h1'
 refine dC (wR p q s l.start hp hq hw hz.1 hz.2) (fun _=>?_) (fun _=>?_)<;>(conv=>whnf)
 case refine_2=>
  rename_i h3
  exact⟨an (fun h=>h3 h.2.2.1),rfl⟩
 rename_i h3
 have hR:=wT hp hw hz.2 h3.1
 have hA:=Em p s l.start (l.pre++l.loop) hR (by rw[List.length_append];omega)
 refine dG (by decide+kernel) ?_
 conv=>whnf
 refine nI ?_
 conv=>whnf
 refine eC _ rfl (by dsimp only;omega) ?_
 conv=>whnf
 refine ar.hand 39 rfl ?_
 by_cases h4:ee p s l.start (l.pre++l.loop)
 case neg=>
  obtain⟨e,he,hr⟩:=xR (acc:=[l.start]) h4
  rw[hr] at hA
  (refine oP (hA) ?_;conv=>whnf)
  refine fc he ?_
  conv=>whnf
  exact⟨an (fun h=>h4 (lc.2 ⟨h.2.2.2.1,h.2.2.2.2.2.run⟩)),rfl⟩
 have hI:=Cs (R:=cS q) h1' h2' h3 h4
 rw[xQ h4] at hA
 have hA':aa Tryz.prog 42 [.agg (bc p), .agg (bW s), .agg (aY l.start), .sl bm cF (l.pre++l.loop)] (fun u=>u=nz (trs p l.start (l.pre++l.loop)) 0):=hA
 have hlen:=k0 p l.start (l.pre++l.loop)
 have hrdy:=oH hR h4
 have hdrop:(trs p l.start (l.pre++l.loop)).drop l.pre.length=trs p (eX p l) l.loop:=Co l.pre l.loop l.start
 have hlen2:=k0 p (eX p l) l.loop
 have hall:(∀d∈trs p l.start (l.pre++l.loop),¬cS q d)↔∀k,k<(trs p l.start (l.pre++l.loop)).length->¬cS q ((trs p l.start (l.pre++l.loop)).getD k aA):=by
  constructor
  ·exact fun h k hk=>h _ (bi aA hk)
  ·intro h d hd
   obtain⟨k,hk,rfl⟩:=bL aA hd
   exact h k hk
 have hrdy2:∀k,k<(trs p (eX p l) l.loop).length->cK p s ((trs p (eX p l) l.loop).getD k aA):=by
  intro k hk
  rw[<-hdrop,gD,List.getElem?_drop,<-gD]
  refine hrdy (l.pre.length+k) ?_
  rw[List.length_append];omega
 have hmid:(trs p (eX p l) l.loop).getD 0 aA=eX p l:=rfl
 rw[List.length_append] at hlen
 rw[List.length_append] at hrdy
 generalize trs p l.start (l.pre++l.loop)=A at hA' hlen hrdy hdrop hall hI
 generalize trs p (eX p l) l.loop=B at hdrop hlen2 hrdy2 hmid hI
 (refine oP (hA') ?_;conv=>whnf)
 refine fI ?_
 conv=>whnf
 refine nI ?_
 rw[tN,hdrop]
 conv=>whnf
 refine dI ?_
 conv=>whnf
 refine nI ?_
 conv=>whnf
 refine aI ?_
 conv=>whnf
 refine nI ?_
 conv=>whnf
 have hw0:=(hrdy2 0 (by omega)).wide
 rw[show((B.length:Int)-1).toNat=l.loop.length by omega]
 (refine oC (Bh (B.getD 0 aA) (B.getD l.loop.length aA) hw0) ?_;conv=>whnf)
 refine ag ?_ ?_<;>(intro h5;conv=>whnf)
 ·exact⟨an (fun h=>h5 (by rw[(hI.1 h).1,hmid,kW])),rfl⟩
 have h5':B.getD l.loop.length aA=eX p l:=by rw[<-hmid];exact(i9 (by omega)).symm
 refine aR.loopF ab ac (fun k:Nat=>k<=A.length/\∀j,j<k->¬cS q (A.getD j aA)) (fun k=>[(69, .int .i64 (k:Int)),(9, .top),(36, .top),(39, .top),(45, .top)]) (fun _=>[]) (fun k=>A.length-k) 0 ⟨by omega,fun j hj=>by omega⟩ ?_;conv=>whnf
 refine⟨sI,?_⟩
 rintro k ⟨hk,ha⟩
 conv=>whnf
 refine ag ?_ ?_<;>(intro g1;conv=>whnf)
 ·have hRk:=hrdy k (by omega)
  refine nI ?_
  conv=>whnf
  rw[tN]
  refine dC (BL q (A.getD k aA) hq hRk.wide hRk.plain.2) (fun _=>?_) (fun _=>?_)<;>(conv=>whnf)
  ·rename_i h6
   exact⟨an (fun h=>hall.1 (hI.1 h).2.1 k (by omega) h6),rfl⟩
  ·rename_i h6
   repeat' ((first|refine nI ?_|refine aI ?_|refine tI ?_|refine fI ?_|fail);conv=>whnf)
   refine⟨k+1,sI,⟨by omega,fun j hj=>?_⟩,by dsimp only;omega⟩
   by_cases e:j=k
   ·subst e;exact h6
   ·exact ha j (by omega)
 have hnr:=hall.2 fun j hj=>ha j (by omega)
 refine dC (zO p s B l.loop hp hR.sz hrdy2 (by omega) (by omega)) (fun _=>?_) (fun _=>?_)<;>(conv=>whnf)
 ·rename_i h7;exact⟨aH (hI.2 ⟨h5',hnr,h7⟩),rfl⟩
 ·rename_i h7;exact⟨an (fun h=>h7 (hI.1 h).2.2),rfl⟩
theorem HY (p:aq) (q:bO) (s:aB) (l:zM) (hp:¬bV p) (hq:¬fC q) (hw:aX l.start=false) (hl1:l.pre.length<=400) (hl2:l.loop.length<=400):aa Tryz.prog 11 [.agg (bc p), .agg (gb q), .agg (bW s), .agg (Cp l)] (fun u=>u= .bool (decide (qV p q s (cS q) l))):=by
 have hle:=aC hp
 have hws:=aG hw
 refine aa.intro ab ac Tryz.func11 rfl (by decide) ?_;(conv=>whnf)
 refine am rfl ?_
 conv=>whnf
 refine am rfl ?_
 conv=>whnf
 refine am rfl ?_
 conv=>whnf
 refine am rfl ?_
 conv=>whnf
 (refine oP (qb p q s hp hq) ?_;conv=>whnf)
 refine ag ?_ ?_<;>(intro h1;conv=>whnf)
 ·exact⟨an (fun h=>h1 h.1),rfl⟩
 refine ag ?_ ?_<;>(intro h2;conv=>whnf)
 ·exact⟨an (fun h=>h2 h.2.1),rfl⟩
 have h1':fO p q s=0:=by omega
 have h2':q.kind=2:=by omega
 have hz:=oI h1'
 refine dC (wS p q s l.start hp hq hw hz.2) (fun _=>?_) (fun _=>?_)<;>(conv=>whnf)
 case refine_2=>
  rename_i h3
  exact⟨an (fun h=>h3 h.2.2.1),rfl⟩
 rename_i h3
 have hR:=wT hp hw hz.2 h3.1
 have hA:=xP p s l.start l.pre hR (by omega)
 by_cases h4:ee p s l.start l.pre
 case neg=>
  obtain⟨e,he,hr⟩:=xR (acc:=[l.start]) h4
  rw[hr] at hA
  (refine oP (hA) ?_;conv=>whnf)
  refine fc he ?_
  conv=>whnf
  exact⟨an (fun h=>h4 h.2.2.2.1),rfl⟩
 rw[xQ h4] at hA
 have hA':aa Tryz.prog 33 [.agg (bc p), .agg (bW s), .agg (aY l.start), .sl bm cF l.pre] (fun u=>u=nz (trs p l.start l.pre) 0):=hA
 have hlen:=k0 p l.start l.pre
 have hrdy:=oH hR h4
 have hRm:cK p s (eX p l):=hrdy l.pre.length (Nat.le_refl _)
 have hB:=xP p s (eX p l) l.loop hRm (by omega)
 have hmid:(trs p l.start l.pre).getD l.pre.length aA=eX p l:=rfl
 have hlas:∀B,B=trs p (eX p l) l.loop->(qV p q s (cS q) l↔(∀d∈trs p l.start l.pre,¬cS q d)/\ee p s (eX p l) l.loop/\B.getD l.loop.length aA=eX p l/\(∀d∈B,¬cS q d)/\n8 p s B l.loop):=by
  rintro B rfl
  exact⟨fun h=>⟨h.2.2.2.2.1,h.2.2.2.2.2.run,h.2.2.2.2.2.back,h.2.2.2.2.2.not,h.2.2.2.2.2.free⟩,fun h=>⟨h1',h2',h3,h4,h.1,⟨h.2.1,h.2.2.1,h.2.2.2.1,h.2.2.2.2⟩⟩⟩
 have hrdy':∀k,k<(trs p l.start l.pre).length->cK p s ((trs p l.start l.pre).getD k aA):=fun k hk=>hrdy k (by omega)
 generalize trs p l.start l.pre=A at hA' hlen hrdy' hmid hlas
 clear hrdy hA
 (refine oP (hA') ?_;conv=>whnf)
 refine fI ?_
 conv=>whnf
 refine dI ?_
 conv=>whnf
 refine aI ?_
 conv=>whnf
 refine nI ?_
 rw[show((A.length:Int)-1).toNat=l.pre.length by omega,hmid]
 conv=>whnf
 by_cases h5:ee p s (eX p l) l.loop
 case neg=>
  obtain⟨e,he,hr⟩:=xR (acc:=[eX p l]) h5
  rw[hr] at hB
  (refine oC (hB) ?_;conv=>whnf)
  refine dI ?_
  conv=>whnf
  refine fc he ?_
  conv=>whnf
  exact⟨an (fun h=>h5 h.2.2.2.2.2.run),rfl⟩
 rw[xQ h5] at hB
 have hB':aa Tryz.prog 33 [.agg (bc p), .agg (bW s), .agg (aY (eX p l)), .sl bm cF l.loop] (fun u=>u=nz (trs p (eX p l) l.loop) 0):=hB
 have hlen2:=k0 p (eX p l) l.loop
 have hrdy2:∀k,k<(trs p (eX p l) l.loop).length->cK p s ((trs p (eX p l) l.loop).getD k aA):=fun k hk=>oH hRm h5 k (by omega)
 have hmid2:(trs p (eX p l) l.loop).getD 0 aA=eX p l:=rfl
 have hI:=hlas _ rfl
 generalize trs p (eX p l) l.loop=B at hB' hlen2 hrdy2 hmid2 hI
 clear hB hlas
 (refine oC (hB') ?_;conv=>whnf)
 refine dI ?_
 conv=>whnf
 refine fI ?_
 conv=>whnf
 refine nI ?_
 conv=>whnf
 refine aI ?_
 conv=>whnf
 refine nI ?_
 conv=>whnf
 have hw0:=(hrdy2 0 (by omega)).wide
 rw[show((B.length:Int)-1).toNat=l.loop.length by omega]
 (refine oC (uB (B.getD 0 aA) (B.getD l.loop.length aA) hw0) ?_;conv=>whnf)
 refine ag ?_ ?_<;>(intro h6;conv=>whnf)
 ·exact⟨an (fun h=>h6 (by rw[(hI.1 h).2.2.1,hmid2,kW])),rfl⟩
 have h6':B.getD l.loop.length aA=eX p l:=by rw[<-hmid2];exact(i9 (by omega)).symm
 refine aR.loopF ab ac (fun k:Nat=>k<=A.length/\∀j,j<k->¬cS q (A.getD j aA)) (fun k=>[(12, .int .i64 (k:Int))]) (fun _=>[]) (fun k=>A.length-k) 0 ⟨by omega,fun j hj=>by omega⟩ ?_;conv=>whnf
 refine⟨sI,?_⟩
 rintro k ⟨hk,ha⟩
 conv=>whnf
 refine ag ?_ ?_<;>(intro g1;conv=>whnf)
 ·have hRk:=hrdy' k (by omega)
  refine dI ?_
  conv=>whnf
  refine nI ?_
  conv=>whnf
  rw[tN]
  refine dD (uY q (A.getD k aA) hq hRk.wide hRk.plain.2) (fun _=>?_) (fun _=>?_)<;>(conv=>whnf)
  ·rename_i h7
   exact⟨an (fun h=>(hI.1 h).1 _ (bi aA (show k<A.length by omega)) h7),rfl⟩
  ·rename_i h7
   repeat' ((first|refine nI ?_|refine aI ?_|refine tI ?_|refine fI ?_|fail);conv=>whnf)
   refine⟨k+1,sI,⟨by omega,fun j hj=>?_⟩,by dsimp only;omega⟩
   by_cases e:j=k
   ·subst e;exact h7
   ·exact ha j (by omega)
 have hnA:∀d∈A,¬cS q d:=fun d hd=>by
  obtain⟨j,hj,rfl⟩:=bL aA hd
  exact ha j (by omega)
 clear ha hk g1
 refine aR.loopF ab ac (fun k:Nat=>k<=B.length/\∀j,j<k->¬cS q (B.getD j aA)) (fun k=>[(13, .int .i64 (k:Int))]) (fun _=>[]) (fun k=>B.length-k) 0 ⟨by omega,fun j hj=>by omega⟩ ?_;conv=>whnf
 refine⟨sI,?_⟩
 rintro k ⟨hk,ha⟩
 conv=>whnf
 refine ag ?_ ?_<;>(intro g1;conv=>whnf)
 ·have hRk:=hrdy2 k (by omega)
  refine dI ?_
  conv=>whnf
  refine nI ?_
  conv=>whnf
  rw[tN]
  refine dD (uY q (B.getD k aA) hq hRk.wide hRk.plain.2) (fun _=>?_) (fun _=>?_)<;>(conv=>whnf)
  ·rename_i h7
   exact⟨an (fun h=>(hI.1 h).2.2.2.1 _ (bi aA (show k<B.length by omega)) h7),rfl⟩
  ·rename_i h7
   repeat' ((first|refine nI ?_|refine aI ?_|refine tI ?_|refine fI ?_|fail);conv=>whnf)
   refine⟨k+1,sI,⟨by omega,fun j hj=>?_⟩,by dsimp only;omega⟩
   by_cases e:j=k
   ·subst e;exact h7
   ·exact ha j (by omega)
 have hnB:∀d∈B,¬cS q d:=fun d hd=>by
  obtain⟨j,hj,rfl⟩:=bL aA hd
  exact ha j (by omega)
 clear ha hk g1
 have hlow:∀r i:Int,s.n-s.f<=i->iw p s B l.loop r i:=fun r i hi=>.inr ⟨_,bi aA (show 0<B.length by omega),fun h=>by
  have:=h.1
  rw[(hrdy2 0 (by omega)).vc.cor] at this
  omega⟩
 have hsl:s.n-s.f<=l.start.states.length:=by
  have h8:=hR.plain.2.2
  rw[h3.1.cor] at h8
  exact h8
 refine aR.loopF ab ac (fun r:Nat=>r<=p.rules.length/\∀r':Nat,r'<r->∀i:Nat,i<l.start.states.length->iw p s B l.loop r' i) (fun r=>[(14, .int .i64 (r:Int))]) (fun _=>[]) (fun r=>p.rules.length-r) 0 ⟨by omega,fun j hj=>by omega⟩ ?_;conv=>whnf
 refine⟨sI,?_⟩
 rintro r ⟨hr,hfr⟩
 conv=>whnf
 refine ag ?_ ?_<;>(intro g1;conv=>whnf)
 case refine_2=>
  exact⟨aH (hI.2 ⟨hnA,h5,h6',hnB,fun r' i hr' hi=>hfr r' (by omega) i (by omega)⟩),rfl⟩
 refine aR.loopF ab ac (fun i:Nat=>i<=l.start.states.length/\∀i':Nat,i'<i->iw p s B l.loop r i') (fun i=>[(15, .int .i64 (i:Int))]) (fun _=>[]) (fun i=>l.start.states.length-i) 0 ⟨by omega,fun j hj=>by omega⟩ ?_;conv=>whnf
 refine⟨sI,?_⟩
 rintro i ⟨hi,hfi⟩
 conv=>whnf
 refine ag ?_ ?_<;>(intro g2;conv=>whnf)
 case refine_2=>
  repeat' ((first|refine nI ?_|refine aI ?_|refine tI ?_|refine fI ?_|fail);conv=>whnf)
  refine⟨r+1,sI,⟨by omega,fun r' hr' i' hi'=>?_⟩,by dsimp only;omega⟩
  by_cases e:r'=r
  ·subst e;exact hfi i' (by omega)
  ·exact hfr r' (by omega) i' hi'
 refine aR.loopF ab ac (fun y:Nat×Bool=>y.1<=B.length/\(y.2=true↔∃j,j<y.1/\¬za p s (B.getD j aA) r i)) (fun y=>[(17, .int .i64 (y.1:Int)),(16, .bool y.2)]) (fun _=>[]) (fun y=>B.length-y.1) (0,false) ⟨Nat.zero_le _,by simp⟩ ?_;conv=>whnf
 refine⟨sI,?_⟩
 rintro⟨k,t⟩ ⟨hk,hy⟩
 dsimp only at hk hy⊢
 conv=>whnf
 refine ag ?_ ?_<;>(intro g3;conv=>whnf)
 ·cases t with
  |true=>
   obtain⟨j,hj,hnf⟩:=hy.1 rfl
   refine dI ?_
   conv=>whnf
   repeat' ((first|refine nI ?_|refine aI ?_|refine tI ?_|refine fI ?_|fail);conv=>whnf)
   exact⟨(k+1,true),sI,⟨by dsimp only;omega,⟨fun _=>⟨j,Nat.lt_succ_of_lt hj,hnf⟩,fun _=>rfl⟩⟩,by dsimp only;omega⟩
  |false=>
   have hRk:=hrdy2 k (by omega)
   have hno:∀j,j<k->za p s (B.getD j aA) r i:=fun j hj=>Classical.byContradiction fun hnf=>by
    have:=hy.2 ⟨j,hj,hnf⟩
    cases this
   refine dI ?_
   conv=>whnf
   refine nI ?_
   conv=>whnf
   rw[tN]
   refine dD (zb p s (B.getD k aA) r i hRk) (fun _=>?_) (fun _=>?_)<;>(conv=>whnf)
   ·rename_i h8
    repeat' ((first|refine nI ?_|refine aI ?_|refine tI ?_|refine fI ?_|fail);conv=>whnf)
    refine⟨(k+1,false),sI,⟨by dsimp only;omega,⟨fun h=>(by cases h),fun⟨j,hj,hnf⟩=>absurd ?_ hnf⟩⟩,by dsimp only;omega⟩
    by_cases e:j=k
    ·subst e;exact h8
    ·exact hno j (by dsimp only at hj;omega)
   ·rename_i h8
    repeat' ((first|refine nI ?_|refine aI ?_|refine tI ?_|refine fI ?_|fail);conv=>whnf)
    exact⟨(k+1,true),sI,⟨by dsimp only;omega,⟨fun _=>⟨k,Nat.lt_succ_self k,h8⟩,fun _=>rfl⟩⟩,by dsimp only;omega⟩
 have hkB:k=B.length:=by omega
 subst hkB
 refine aR.loopF ab ac (fun z:Nat×Bool=>z.1<=l.loop.length/\(z.2=true↔(t=true\/∃j,j<z.1/\(l.loop.getD j bm).rule=r/\(l.loop.getD j bm).process=i))) (fun z=>[(18, .int .i64 (z.1:Int)),(16, .bool z.2)]) (fun _=>[]) (fun z=>l.loop.length-z.1) (0,t) ⟨Nat.zero_le _,by simp⟩ ?_;conv=>whnf
 refine⟨sI,?_⟩
 rintro⟨k,u⟩ ⟨hk,hz⟩
 dsimp only at hk hz⊢
 conv=>whnf
 refine ag ?_ ?_<;>(intro g4;conv=>whnf)
 ·cases u with
  |true=>
   have hzt:=hz.1 rfl
   repeat' ((first|refine nI ?_|refine aI ?_|refine tI ?_|refine fI ?_|fail);conv=>whnf)
   refine⟨(k+1,true),sI,⟨by dsimp only;omega,⟨fun _=>hzt.imp id fun⟨j,hj,hh⟩=>⟨j,Nat.lt_succ_of_lt hj,hh⟩,fun _=>rfl⟩⟩,by dsimp only;omega⟩
  |false=>
   have hzf:¬(t=true\/∃j,j<k/\(l.loop.getD j bm).rule=r/\(l.loop.getD j bm).process=i):=fun h=>by
    have:=hz.2 h
    cases this
   have hup:((l.loop.getD k bm).rule=r/\(l.loop.getD k bm).process=i)->(t=true\/∃j,j<k+1/\(l.loop.getD j bm).rule=r/\(l.loop.getD j bm).process=i):=fun h=>.inr ⟨k,Nat.lt_succ_self k,h⟩
   have hdn:¬((l.loop.getD k bm).rule=r/\(l.loop.getD k bm).process=i)->¬(t=true\/∃j,j<k+1/\(l.loop.getD j bm).rule=r/\(l.loop.getD j bm).process=i):=by
    rintro h (h'|⟨j,hj,hh⟩)
    ·exact hzf (.inl h')
    ·by_cases e:j=k
     ·subst e;exact h hh
     ·exact hzf (.inr ⟨j,by omega,hh⟩)
   refine nI ?_
   conv=>whnf
   rw[tN]
   refine ag ?_ ?_<;>(intro g5;conv=>whnf)
   ·refine nI ?_
    conv=>whnf
    rw[tN]
    refine ag ?_ ?_<;>(intro g6;conv=>whnf)
    ·repeat' ((first|refine nI ?_|refine aI ?_|refine tI ?_|refine fI ?_|fail);conv=>whnf)
     exact⟨(k+1,true),sI,⟨by dsimp only;omega,⟨fun _=>hup ⟨g5,g6⟩,fun _=>rfl⟩⟩,by dsimp only;omega⟩
    ·repeat' ((first|refine nI ?_|refine aI ?_|refine tI ?_|refine fI ?_|fail);conv=>whnf)
     exact⟨(k+1,false),sI,⟨by dsimp only;omega,⟨fun h=>(by cases h),fun h=>absurd h (hdn fun hh=>g6 hh.2)⟩⟩,by dsimp only;omega⟩
   ·repeat' ((first|refine nI ?_|refine aI ?_|refine tI ?_|refine fI ?_|fail);conv=>whnf)
    exact⟨(k+1,false),sI,⟨by dsimp only;omega,⟨fun h=>(by cases h),fun h=>absurd h (hdn fun hh=>g5 hh.1)⟩⟩,by dsimp only;omega⟩
 have hkl:k=l.loop.length:=by omega
 subst hkl
 have hfree:u=true↔iw p s B l.loop r i:=by
  rw[hz,hy]
  constructor
  ·rintro(⟨j,hj,hnf⟩|⟨j,hj,hh⟩)
   ·exact .inr ⟨_,bi aA hj,hnf⟩
   ·exact .inl ⟨_,bi bm hj,hh⟩
  ·rintro(⟨x,hx,hh⟩|⟨d,hd,hnf⟩)
   ·obtain⟨j,hj,rfl⟩:=bL bm hx
    exact .inr ⟨j,hj,hh⟩
   ·obtain⟨j,hj,rfl⟩:=bL aA hd
    exact .inl ⟨j,hj,hnf⟩
 cases u with
 |true=>
  conv=>whnf
  repeat' ((first|refine nI ?_|refine aI ?_|refine tI ?_|refine fI ?_|fail);conv=>whnf)
  refine⟨i+1,sI,⟨by omega,fun i' hi'=>?_⟩,by dsimp only;omega⟩
  by_cases e:i'=i
  ·subst e;exact hfree.1 rfl
  ·exact hfi i' (by omega)
 |false=>
  conv=>whnf
  refine⟨an fun h=>?_,rfl⟩
  have hnf:¬iw p s B l.loop r i:=fun hf=>by
   have:=hfree.2 hf
   cases this
  by_cases hlo:(i:Int)<s.n-s.f
  ·exact hnf ((hI.1 h).2.2.2.2 r i (by omega) hlo)
  ·exact hnf (hlow r i (by omega))
def qW (c:ap) (a b:Nat):Prop:=(a<c.states.length/\b<c.states.length)/\((a:Int)<c.correct↔(b:Int)<c.correct)
theorem x6 {c:ap} {a b:Nat} (h:qW c a b) (i:Int):lQ a b i<c.correct↔i<c.correct:=by
 have h2:=h.2
 unfold lQ
 (repeat' split)<;>omega
theorem Gp {c:ap} {r:cY} {x:be} {a b:Nat} (h:qW c a b):bh (jY c a b) r (tc x a b)↔bh c r x:=by
 have l1:=x6 h x.process
 unfold bh
 rw[show(tc x a b).process=lQ a b x.process from rfl,show(jY c a b).correct=c.correct from rfl,show(jY c a b).sent=c.sent from rfl,show(jY c a b).faulty=c.faulty from rfl]
 by_cases h:x.process<c.correct
 ·rw[if_pos h,if_pos (l1.2 h)]
 ·rw[if_neg h,if_neg (fun g=>h (l1.1 g))]
theorem Ey {c:ap} {r:cY} {x:be} {a b:Nat} (h:qW c a b):cp (jY c a b) r (tc x a b)=jY (cp c r x) a b:=by
 have ha':=h.1.1
 have hb':=h.1.2
 have l1:=x6 h x.process
 have e0:(jY c a b).states.length=c.states.length:=eL _ _ _
 have e1:fD (jY c a b) r (tc x a b)=k9 (fD c r x) a b:=by
  symm
  refine dv (by rw[eL,bT,e0]) fun j hj=>?_
  rw[e0] at hj
  rw[fT (by rw[bT];exact ha') (by rw[bT];exact hb'),HR ha' hb']
  exact aZ _ _ _ (nD ha' hb' hj)
 unfold cp
 rw[e1]
 unfold jY
 dsimp only
 congr 1
 ·by_cases h:x.process<c.correct
  ·rw[if_pos h,if_pos (show(tc x a b).process<c.correct from l1.2 h)]
  ·rw[if_neg h,if_neg (show¬(tc x a b).process<c.correct from fun g=>h (l1.1 g))]
 ·by_cases h:x.process<c.correct
  ·rw[if_pos h,if_pos (show(tc x a b).process<c.correct from l1.2 h)]
  ·rw[if_neg h,if_neg (show¬(tc x a b).process<c.correct from fun g=>h (l1.1 g))]
theorem Ez {l:List Int} {a b:Nat} (ha:a<l.length) (hb:b<l.length):k9 (k9 l a b) a b=l:=by
 have hl:(k9 (k9 l a b) a b).length=l.length:=by rw[eL,eL]
 apply List.ext_getElem?
 intro j
 by_cases hj:j<l.length
 ·have e:(k9 (k9 l a b) a b).getD j 0=l.getD j 0:=by
   rw[fT (by rw[eL];exact ha) (by rw[eL];exact hb),fT ha hb,mH]
  rw[gD,gD,gL (by omega),gL hj] at e
  rw[gL (by omega),gL hj]
  exact congrArg some e
 ·rw[List.getElem?_eq_none (by omega),List.getElem?_eq_none (by omega)]
theorem EA {c:ap} {a b:Nat} (h:qW c a b):jY (jY c a b) a b=c:=by
 unfold jY
 dsimp only
 rw[Ez h.1.1 h.1.2]
theorem EB {c:ap} {a b:Nat} (h:qW c a b):qW (jY c a b) a b:=by
 unfold qW jY
 dsimp only
 rw[eL]
 exact h
inductive tm:ap->ap->Prop
 |refl (c:ap):tm c c
 |step {c d:ap} (a b:Nat) (h:qW c a b) (k:tm (jY c a b) d):tm c d
theorem tm.trans {c d e:ap} (h:tm c d) (k:tm d e):tm c e:=by
 induction h with
 |refl=>exact k
 |step a b h _ ih=>exact .step a b h (ih k)
theorem tm.symm {c d:ap} (h:tm c d):tm d c:=by
 induction h with
 |refl=>exact .refl _
 |@step c d a b h _ ih=>exact ih.trans (.step a b (EB h) (by rw[EA h];exact .refl _))
theorem tm.sim {p:aq} {s:aB} {c d:ap} (h:tm c d) (ht:p.topology=1):∀{x:be},cK p s c->cz p s c x false->cK p s d/\∃y,cz p s d y false/\aO p y=aO p x/\(bh d (aO p x) y↔bh c (aO p x) x)/\tm (cp c (aO p x) x) (cp d (aO p x) y):=by
 induction h with
 |refl c=>exact fun hr he=>⟨hr,_,he,rfl,Iff.rfl, .refl _⟩
 |@step c d a b h _ ih=>
  intro x hr he
  have hr':=Cc hr h.1.1 h.1.2
  have he':=(HQ hr ht h.1.1 h.1.2).2 he
  obtain⟨h1,y,h2,h3,h4,h5⟩:=ih hr' he'
  have e:aO p (tc x a b)=aO p x:=rfl
  rw[e] at h3 h4 h5
  refine⟨h1,y,h2,h3,h4.trans (Gp h),?_⟩
  rw[Ey h] at h5
  refine .step a b ?_ h5
  unfold qW cp
  dsimp only
  rw[bT]
  exact h
inductive vZ (lo hi:Nat):List Int->List Int->Prop
 |refl (l:List Int):vZ lo hi l l
 |step {l m:List Int} (a b:Nat) (ha:lo<=a/\a<hi) (hb:lo<=b/\b<hi) (hl:hi<=l.length) (k:vZ lo hi (k9 l a b) m):vZ lo hi l m
theorem vZ.trans {lo hi:Nat} {l m n:List Int} (h:vZ lo hi l m) (k:vZ lo hi m n):vZ lo hi l n:=by
 induction h with
 |refl=>exact k
 |step a b ha hb hl _ ih=>exact .step a b ha hb hl (ih k)
theorem vZ.mono {lo hi lo' hi':Nat} {l m:List Int} (h:vZ lo hi l m) (h1:lo'<=lo) (h2:hi<=hi') (h3:hi'<=l.length):vZ lo' hi' l m:=by
 induction h with
 |refl=>exact .refl _
 |step a b ha hb hl _ ih=>exact .step a b ⟨by omega,by omega⟩ ⟨by omega,by omega⟩ h3 (ih (by rw[eL];exact h3))
theorem EC (pre l:List Int) (x y:Int):k9 (pre++(y::x::l)) pre.length (pre.length+1)=pre++(x::y::l):=by
 have e1:(pre++(y::x::l)).getD (pre.length+1) 0=x:=by simp
 have e2:(pre++(y::x::l)).getD pre.length 0=y:=by simp
 unfold k9
 rw[e1,e2,List.set_append_right _ _ (Nat.le_refl _),List.set_append_right _ _ (by omega)]
 simp
theorem vZ.perm {l m:List Int} (h:l.Perm m):∀pre post:List Int,vZ pre.length (pre.length+l.length) (pre++(l++post)) (pre++(m++post)):=by
 induction h with
 |nil=>exact fun _ _=>.refl _
 |cons x _ ih=>
  intro pre post
  have:=ih (pre++[x]) post
  simp only[List.append_assoc,List.singleton_append,List.length_append,List.length_cons,List.length_nil] at this
  simp only[List.cons_append,List.length_cons]
  exact this.mono (by omega) (by omega) (by simp)
 |swap x y l=>
  intro pre post
  refine .step pre.length (pre.length+1) ⟨by omega,by simp⟩ ⟨by omega,by simp⟩ (by simp) ?_
  rw[List.cons_append,List.cons_append,EC]
  exact .refl _
 |trans h1 _ ih1 ih2=>
  intro pre post
  have:=ih2 pre post
  rw[<-h1.length_eq] at this
  exact(ih1 pre post).trans this
def lJ (c:ap) (l:List Int):ap:=⟨c.shape,l,c.correct,c.sent,c.faulty,c.value⟩
theorem vZ.eqv {lo hi:Nat} {l m:List Int} (h:vZ lo hi l m):∀c:ap,c.states=l->(∀a b:Nat,lo<=a/\a<hi->lo<=b/\b<hi->((a:Int)<c.correct↔(b:Int)<c.correct))->tm c (lJ c m):=by
 induction h with
 |refl l=>rintro c rfl _;exact .refl _
 |@step l m a b ha hb hl _ ih=>
  rintro c rfl hc
  exact .step a b ⟨⟨by omega,by omega⟩,hc a b ha hb⟩ (ih (jY c a b) rfl hc)
theorem tn {p:aq} {c:ap} (ht:p.topology=1) (h0:0<=c.correct) (h1:c.correct<=c.states.length):tm c (bU p c):=by
 have hlt:(c.states.take c.correct.toNat).length=c.correct.toNat:=by rw[List.length_take];omega
 have hld:(c.states.drop c.correct.toNat).length=c.states.length-c.correct.toNat:=List.length_drop
 have p1:=(vZ.perm (fb (c.states.take c.correct.toNat)).symm [] (c.states.drop c.correct.toNat)).eqv c (by simp) (fun a b ha hb=>by
  simp only[List.length_nil,Nat.zero_add,hlt] at ha hb
  omega)
 have p2:=(vZ.perm (fb (c.states.drop c.correct.toNat)).symm (cT (c.states.take c.correct.toNat)) []).eqv (lJ c (cT (c.states.take c.correct.toNat)++c.states.drop c.correct.toNat)) (by simp[lJ]) (fun a b ha hb=>by
  rw[fy,hlt,hld] at ha hb
  show((a:Int)<c.correct↔(b:Int)<c.correct)
  omega)
 rw[f6 c ht]
 have e1:lJ c ([]++(cT (c.states.take c.correct.toNat)++c.states.drop c.correct.toNat))=lJ c (cT (c.states.take c.correct.toNat)++c.states.drop c.correct.toNat):=rfl
 rw[e1] at p1
 have e2:lJ (lJ c (cT (c.states.take c.correct.toNat)++c.states.drop c.correct.toNat)) (cT (c.states.take c.correct.toNat)++(cT (c.states.drop c.correct.toNat)++[]))=⟨c.shape,cT (c.states.take c.correct.toNat)++cT (c.states.drop c.correct.toNat),c.correct,c.sent,c.faulty,c.value⟩:=by
  rw[List.append_nil];rfl
 rw[e2] at p2
 exact p1.trans p2
theorem vu {l:List Int} {a b:Nat} (ha:a<l.length) (hb:b<l.length):(k9 l a b).Perm l:=by
 have e1:l.getD a 0=l[a]:=by rw[gD,gL ha];rfl
 have e2:l.getD b 0=l[b]:=by rw[gD,gL hb];rfl
 unfold k9
 rw[e1,e2]
 exact List.set_set_perm ha hb
theorem x7 {l m:List Int} (h:l.Perm m):cT l=cT m:=xY ((fb l).trans h) (tj l)
theorem vv {l:List Int} {a b k:Nat} (ha:a<l.length) (hb:b<l.length) (h:a<k↔b<k):((k9 l a b).take k).Perm (l.take k):=by
 by_cases h1:a<k
 ·have h2:=h.1 h1
  have e:(k9 l a b).take k=k9 (l.take k) a b:=by
   unfold k9
   rw[List.take_set,List.take_set,kY h1,kY h2]
  rw[e]
  exact vu (by rw[List.length_take];omega) (by rw[List.length_take];omega)
 ·have e:(k9 l a b).take k=l.take k:=by
   unfold k9
   rw[List.take_set,List.take_set,List.set_eq_of_length_le (by rw[List.length_set,List.length_take];omega),List.set_eq_of_length_le (by rw[List.length_take];omega)]
  rw[e]
theorem Ct {l:List Int} {a b k:Nat} (ha:a<l.length) (hb:b<l.length) (h:a<k↔b<k):((k9 l a b).drop k).Perm (l.drop k):=by
 have h1:=vv ha hb h
 have h2:=vu ha hb
 have h3:((k9 l a b).take k++(k9 l a b).drop k).Perm ((k9 l a b).take k++l.drop k):=by
  rw[List.take_append_drop]
  refine h2.trans ?_
  have:=h1.symm.append_right (l.drop k)
  rwa [List.take_append_drop] at this
 exact(List.perm_append_left_iff _).1 h3
theorem Gq {p:aq} {c:ap} {a b:Nat} (h:qW c a b) (h0:0<=c.correct):bU p (jY c a b)=bU p c\/p.topology≠1:=by
 by_cases ht:p.topology=1
 ·left
  have hk:a<c.correct.toNat↔b<c.correct.toNat:=by have:=h.2;omega
  rw[f6 _ ht,f6 _ ht]
  have e1:cT ((jY c a b).states.take (jY c a b).correct.toNat)=cT (c.states.take c.correct.toNat):=x7 (vv h.1.1 h.1.2 hk)
  have e2:cT ((jY c a b).states.drop (jY c a b).correct.toNat)=cT (c.states.drop c.correct.toNat):=x7 (Ct h.1.1 h.1.2 hk)
  rw[e1,e2]
  rfl
 ·exact .inr ht
theorem tm.can {p:aq} {c d:ap} (h:tm c d) (ht:p.topology=1):0<=c.correct->bU p c=bU p d:=by
 induction h with
 |refl=>exact fun _=>rfl
 |@step c d a b h _ ih=>
  intro h0
  rcases Gq (p:=p) h h0 with e|e
  ·exact e.symm.trans (ih h0)
  ·exact absurd ht e
theorem mO {p:aq} {s:aB} {c d:ap} {x:be} (hc:cK p s c) (hd:cK p s d) (hcd:bU p c=bU p d) (he:cz p s c x false):
  ∃y,cz p s d y false/\aO p y=aO p x/\(bh d (aO p x) y↔bh c (aO p x) x)/\bU p (cp c (aO p x) x)=bU p (cp d (aO p x) y):=by
 by_cases ht:p.topology=1
 ·have h1:=hc.plain
  have h2:=hd.plain
  have he1:=tn ht h1.2.1 h1.2.2
  have he2:=tn ht h2.2.1 h2.2.2
  rw[hcd] at he1
  obtain⟨_,y,k1,k2,k3,k4⟩:=(he1.trans he2.symm).sim ht hc he
  exact⟨y,k1,k2,k3,k4.can ht h1.2.1⟩
 ·rw[jG c ht,jG d ht] at hcd
  subst hcd
  exact⟨x,he,rfl,Iff.rfl,rfl⟩
def z5 (n:Int):Int:=n % 256
def z6 (n:Int):Int:=n / 256 % 256
def z7 (n:Int):Int:=n / 65536 % 256
def br (l:List Int):List Int:=(l.length:Int) % 256::l.flatMap fun n=>[z5 n,z6 n,z7 n]
theorem Gr (l:List Int):∀x∈br l,0<=x/\x<256:=by
 intro x hx
 unfold br at hx
 rcases List.mem_cons.1 hx with rfl|hx
 ·omega
 ·obtain⟨n,_,hn⟩:=List.mem_flatMap.1 hx
  simp only[List.mem_cons,List.not_mem_nil,or_false] at hn
  unfold z5 z6 z7 at hn
  omega
def vw (c:ap):List Int:=br c.shape++(br c.states++(br c.sent++(br c.faulty++br [c.correct,c.value])))
abbrev ED (l:List Int):ByteArray:=strOfNums l
def gx (c:ap):ByteArray:=ED (vw c)
def qo (l:List Int) (k:Nat):List Int:=(l.length:Int) % 256::(l.take k).flatMap fun n=>[z5 n,z6 n,z7 n]
theorem vy (l:List Int):qo l l.length=br l:=by unfold qo br;rw[List.take_length]
theorem zP (l:List Int):qo l 0=[(l.length:Int) % 256]:=by simp[qo]
theorem EE {l:List Int} {k:Nat} (h:k<l.length):qo l (k+1)=qo l k++[z5 (l.getD k 0),z6 (l.getD k 0),z7 (l.getD k 0)]:=by
 have e:l.getD k 0=l[k]:=by rw[gD,gL h];rfl
 unfold qo
 rw[List.take_succ_eq_append_getElem h,List.flatMap_append,e]
 simp
theorem vz (l:List Int) (k:Nat):(qo l k).length<=1+3*k:=by
 have h:∀m:List Int,(m.flatMap fun n=>[z5 n,z6 n,z7 n]).length=3*m.length:=by
  intro m
  induction m with
  |nil=>rfl
  |cons a m ih=>rw[List.flatMap_cons,List.length_append,ih,List.length_cons];simp;omega
 unfold qo
 rw[List.length_cons,h,List.length_take]
 omega
theorem mP (l:List Int):(br l).length<=1+3*l.length:=by rw[<-vy];exact vz l _
structure dy where
 c:ap
 src:Int
 st:be
def hZ:dy:=⟨aA,0,bm⟩
def Cu (o:dy):List AV:=[.sl 0 aD o.c.shape, .sl 0 aD o.c.states, .int .i64 o.c.correct, .sl 0 aD o.c.sent, .sl 0 aD o.c.faulty, .int .i64 o.c.value, .int .i64 o.src, .int .i64 o.st.rule, .int .i64 o.st.process, .int .i64 o.st.partner]
def d0 (p:aq) (ex:Bool) (c:ap):ap:=match ex with
 |true=>c
 |false=>bU p c
structure jI (p:aq) (q:bO) (s:aB):Prop where
 hp:¬bV p
 hq:¬fC q
 hz:fO p q s=0
theorem jI.siz {p:aq} {q:bO} {s:aB} (S:jI p q s):db p q=0/\cE p s=0:=oI S.hz
theorem EF {p:aq} {s:aB} {c:ap} (hp:¬bV p) (hz:cE p s=0) (h:VC p s c):aX c=false:=by
 have hle:=aC hp
 have h2:=dY hz
 have hl:=h.len
 have e1:c.states.length<=100:=by
  unfold dL at hl
  split at hl<;>omega
 have e2:c.shape.length<=100:=by
  by_cases ht:p.topology=4
  ·have:=(h.tre ht).1;omega
  ·have:=h.non ht;omega
 have e3:=h.snl
 have e4:=h.fal
 unfold aX
 simp only[Bool.or_eq_false_iff,decide_eq_false_iff_not]
 refine⟨⟨⟨?_,?_⟩,?_⟩,?_⟩<;>omega
theorem jI.rdy {p:aq} {q:bO} {s:aB} (S:jI p q s) {c:ap} (h:lf p q s c):cK p s c:=
 wT S.hp (EF S.hp S.siz.2 h.1) S.siz.2 h.1
theorem Cw {p:aq} {s:aB} {ex:Bool} {c d:ap} {x:be} (hc:cK p s c) (hd:cK p s d) (hcd:d0 p ex c=d0 p ex d) (he:cz p s c x false):
  ∃y,cz p s d y false/\aO p y=aO p x/\(bh d (aO p x) y↔bh c (aO p x) x)/\d0 p ex (cp c (aO p x) x)=d0 p ex (cp d (aO p x) y):=by
 cases ex with
 |false=>exact mO hc hd hcd he
 |true=>
  have e:c=d:=hcd
  subst e
  exact⟨x,he,rfl,Iff.rfl,rfl⟩
inductive Wn (p:aq) (q:bO) (s:aB):Nat->ap->Prop
 |ini {c:ap} (h:lf p q s c):Wn p q s 0 c
 |stp {n:Nat} {c:ap} (x:be) (h:Wn p q s n c) (he:cz p s c x false) (ha:bh c (aO p x) x):Wn p q s (n+1) (cp c (aO p x) x)
section
variable {p:aq} {q:bO} {s:aB}
theorem Wn.rdy (S:jI p q s) {n:Nat} {c:ap} (h:Wn p q s n c):cK p s c:=by
 induction h with
 |ini h=>exact S.rdy h
 |stp x _ he ha ih=>exact ih.next he ha
theorem Wn.of_run {c:ap} {l:List be}:∀{n:Nat},Wn p q s n c->ee p s c l->Wn p q s (n+l.length) ((trs p c l).getD l.length aA):=by
 induction l generalizing c with
 |nil=>exact fun h _=>h
 |cons x l ih=>
  intro n h hr
  have:=ih (Wn.stp x h hr.1 hr.2.1) hr.2.2
  have e:n+1+l.length=n+(x::l).length:=by simp;omega
  rw[e] at this
  exact this
variable {ex:Bool}
def Rp (p:aq) (q:bO) (s:aB) (ex:Bool) (c:ap):Prop:=cK p s c/\∃n d,Wn p q s n d/\d0 p ex d=d0 p ex c
theorem Wn.rp (S:jI p q s) {n:Nat} {c:ap} (h:Wn p q s n c):Rp p q s ex c:=⟨h.rdy S,n,c,h,rfl⟩
theorem Rp.next (S:jI p q s) {c:ap} {x:be} (h:Rp p q s ex c) (he:cz p s c x false) (ha:bh c (aO p x) x):Rp p q s ex (cp c (aO p x) x):=by
 obtain⟨hr,n,d,hd,hdc⟩:=h
 obtain⟨y,k1,k2,k3,k4⟩:=Cw hr (hd.rdy S) hdc.symm he
 refine⟨hr.next he ha,n+1,cp d (aO p y) y,hd.stp y k1 ?_,?_⟩
 ·rw[k2];exact k3.2 ha
 ·rw[k2];exact k4.symm
structure tp (p:aq) (q:bO) (s:aB) (ex:Bool) (L:List ap):Prop where
 rep:∀c∈L,Rp p q s ex c
 dis:(L.map (d0 p ex)).Nodup
 ini:∀c,lf p q s c->d0 p ex c∈L.map (d0 p ex)
 stp:∀c∈L,∀x,cz p s c x false->bh c (aO p x) x/\d0 p ex (cp c (aO p x) x)∈L.map (d0 p ex)
theorem tp.at (S:jI p q s) {L:List ap} (h:tp p q s ex L) {c:ap} (hc:cK p s c) (hk:d0 p ex c∈L.map (d0 p ex)) {x:be} (he:cz p s c x false):bh c (aO p x) x/\d0 p ex (cp c (aO p x) x)∈L.map (d0 p ex):=by
 obtain⟨d,hd,hdc⟩:=List.mem_map.1 hk
 obtain⟨y,k1,k2,k3,k4⟩:=Cw hc (h.rep d hd).1 hdc.symm he
 have:=h.stp d hd y k1
 rw[k2] at this
 exact⟨k3.1 this.1,by rw[k4];exact this.2⟩
theorem tp.all (S:jI p q s) {L:List ap} (h:tp p q s ex L) {n:Nat} {c:ap} (hc:Wn p q s n c):d0 p ex c∈L.map (d0 p ex):=by
 induction hc with
 |ini hi=>exact h.ini _ hi
 |stp x hw he _ ih=>exact(h.at S (hw.rdy S) ih he).2
theorem tp.ok (S:jI p q s) {L:List ap} (h:tp p q s ex L) {c:ap} (hc:Rp p q s ex c) {x:be} (he:cz p s c x false):bh c (aO p x) x:=by
 obtain⟨hr,n,d,hd,hdc⟩:=hc
 refine(h.at S hr ?_ he).1
 rw[<-hdc]
 exact h.all S hd
theorem tp.mem (S:jI p q s) {L:List ap} (h:tp p q s ex L) (k:ap):k∈L.map (d0 p ex)↔∃n c,Wn p q s n c/\d0 p ex c=k:=by
 constructor
 ·intro hk
  obtain⟨c,hc,rfl⟩:=List.mem_map.1 hk
  obtain⟨_,n,d,h1,h2⟩:=h.rep c hc
  exact⟨n,d,h1,h2⟩
 ·rintro⟨n,c,h1,rfl⟩
  exact h.all S h1
theorem vB {l:List ap}:∀{m:List ap},l.Nodup->(∀a∈l,a∈m)->l.length<=m.length:=by
 classical
 induction l with
 |nil=>intro m _ _;exact Nat.zero_le _
 |cons a l ih=>
  intro m hl h
  rw[List.nodup_cons] at hl
  have hm:=h a List.mem_cons_self
  have:=ih (m:=m.erase a) hl.2 fun b hb=>(List.mem_erase_of_ne (show b≠a from fun e=>by subst e;exact hl.1 hb)).2 (h b (List.mem_cons_of_mem _ hb))
  rw[List.length_erase_of_mem hm] at this
  have:=List.length_pos_of_mem hm
  rw[List.length_cons]
  omega
theorem tp.perm (S:jI p q s) {L M:List ap} (h:tp p q s ex L) (k:tp p q s ex M):(L.map (d0 p ex)).Perm (M.map (d0 p ex)):=
 (List.perm_ext_iff_of_nodup h.dis k.dis).2 fun a=>(h.mem S a).trans (k.mem S a).symm
theorem Cx (S:jI p q s) {c:ap} {x:be} (hc:Rp p q s ex c) (he:cz p s c x false) (ha:¬bh c (aO p x) x):¬∃L,tp p q s ex L:=fun⟨_,h⟩=>ha (h.ok S hc he)
theorem Cy (S:jI p q s) {L:List ap} {n:Nat} (hr:∀c∈L,Rp p q s ex c) (hd:(L.map (d0 p ex)).Nodup) (hn:n<L.length):¬∃M,tp p q s ex M/\M.length<=n:=by
 rintro⟨M,h,hM⟩
 have:=vB hd (m:=M.map (d0 p ex)) fun k hk=>by
  obtain⟨c,hc,rfl⟩:=List.mem_map.1 hk
  obtain⟨_,m,d,h1,h2⟩:=hr c hc
  rw[<-h2]
  exact h.all S h1
 simp only[List.length_map] at this
 omega
def Gs (l:List ap):Prop:=l.Pairwise fun a b=>fx a b<0
def KD (p:aq) (q:bO) (s:aB) (n:Nat) (k:ap):Prop:=∃m c,m<=n/\Wn p q s m c/\bU p c=k
def r6 (p:aq) (q:bO) (s:aB) (n:Nat):Prop:=∃c,Wn p q s n c/\qQ p q c
def wZ (p:aq) (q:bO) (s:aB) (n:Nat):Prop:=∃c x,Wn p q s n c/\cz p s c x false/\¬bh c (aO p x) x
def Cz (p:aq) (q:bO) (s:aB) (n:Nat):Prop:=∃L:List ap,L.length<=4000/\∀k,KD p q s n k->k∈L
def qp (p:aq) (q:bO) (s:aB) (n:Nat):Prop:=∀k,KD p q s n k->∃m,m<n/\KD p q s m k
def Gt (p:aq) (q:bO) (s:aB) (n:Nat):Prop:=¬qp p q s n/\¬r6 p q s n/\Cz p q s n/\¬wZ p q s n
structure Ft (p:aq) (q:bO) (s:aB) (n:Nat) (is:Bool) (e:Int):Prop where
 on:∀m,m<n->Gt p q s m
 out:(qp p q s n/\is=false/\e=0)\/(¬qp p q s n/\r6 p q s n/\is=true/\e=0)\/(¬qp p q s n/\¬r6 p q s n/\(¬Cz p q s n\/wZ p q s n)/\is=false/\e=4)
theorem Ft.not_on {n:Nat} {is:Bool} {e:Int} (h:Ft p q s n is e):¬Gt p q s n:=by
 rintro⟨h1,h2,h3,h4⟩
 rcases h.out with ⟨a,_⟩|⟨_,a,_⟩|⟨_,_,a|a,_⟩
 ·exact h1 a
 ·exact h2 a
 ·exact a h3
 ·exact h4 a
theorem Ft.one {n n':Nat} {is is':Bool} {e e':Int} (h:Ft p q s n is e) (k:Ft p q s n' is' e'):n=n'/\is=is'/\e=e':=by
 have hn:n=n':=by
  rcases Nat.lt_trichotomy n n' with g|g|g
  ·exact absurd (k.on n g) h.not_on
  ·exact g
  ·exact absurd (h.on n' g) k.not_on
 subst hn
 refine⟨rfl,?_⟩
 rcases h.out with ⟨a1,a2,a3⟩|⟨a1,a2,a3,a4⟩|⟨a1,a2,_,a3,a4⟩<;>rcases k.out with ⟨b1,b2,b3⟩|⟨b1,b2,b3,b4⟩|⟨b1,b2,_,b3,b4⟩<;>first
  |exact absurd a1 b1
  |exact absurd b1 a1
  |exact absurd a2 b2
  |exact absurd b2 a2
  |(subst_vars;exact⟨rfl,rfl⟩)
theorem KD.mono {n m:Nat} (h:n<=m) {k:ap} (hk:KD p q s n k):KD p q s m k:=by
 obtain⟨a,c,h1,h2,h3⟩:=hk
 exact⟨a,c,by omega,h2,h3⟩
theorem KD.step (S:jI p q s) {n:Nat} {c:ap} {x:be} (hc:cK p s c) (hk:KD p q s n (bU p c)) (he:cz p s c x false) (ha:bh c (aO p x) x):KD p q s (n+1) (bU p (cp c (aO p x) x)):=by
 obtain⟨m,d,h1,h2,h3⟩:=hk
 obtain⟨y,k1,k2,k3,k4⟩:=mO hc (h2.rdy S) h3.symm he
 refine⟨m+1,cp d (aO p y) y,by omega,h2.stp y k1 (by rw[k2];exact k3.2 ha),?_⟩
 rw[k2];exact k4.symm
theorem tq {c d:ap} (hc:cK p s c) (hd:cK p s d) (h:bU p c=bU p d):qQ p q c↔qQ p q d:=by
 rw[<-vt p q hc.plain.2.2,<-vt p q hd.plain.2.2,h]
theorem qp.all (S:jI p q s) {n:Nat} (h:qp p q s n) {m:Nat} {c:ap} (hw:Wn p q s m c):∃k,k<n/\KD p q s k (bU p c):=by
 induction hw with
 |ini hi=>exact h _ ⟨0,_,Nat.zero_le _, .ini hi,rfl⟩
 |@stp m c x hw he ha ih=>
  obtain⟨k,hk,hd⟩:=ih
  exact h _ ((hd.step S (hw.rdy S) he ha).mono (by omega))
theorem Ft.least (S:jI p q s) {n:Nat} {is:Bool} {e:Int} (h:Ft p q s n is e) (he:e=0) {m:Nat} (hb:r6 p q s m):is=true/\n<=m:=by
 have low:¬m<n:=fun hm=>(h.on m hm).2.1 hb
 rcases h.out with ⟨a1,_,_⟩|⟨_,_,a3,_⟩|⟨_,_,_,_,a4⟩
 ·exfalso
  obtain⟨c,hw,hbad⟩:=hb
  obtain⟨k,hk,j,d,hj,hwd,hcd⟩:=a1.all S hw
  exact(h.on j (by omega)).2.1 ⟨d,hwd,(tq (hwd.rdy S) (hw.rdy S) hcd).2 hbad⟩
 ·exact⟨a3,by omega⟩
 ·omega
end
end
section
set_option maxRecDepth 100000
def Gu (n:Int):List AV:=[.int .u8 n]
def w4 (l:List Int):bj:=.row 5 0 Gu l
def w5 (m:List Int):List (Nat×bj):=[(7000, .box 250 [.row 7001 m.length 1]),(7001,w4 m)]
def HZ (m:List Int):List (Nat×bj):=[(7000, .box 250 [.row 7002 m.length 1]),(7001, .dead),(7002,w4 m)]
theorem x8 (n:Int):IntKind.u8.wrap n=n % 256:=by
 simp[IntKind.wrap,IntKind.signed,IntKind.bits]
theorem I5 (n:Int):n.fdiv 256=n / 256:=Int.fdiv_eq_ediv_of_nonneg n (by omega)
theorem H0 (n:Int):n.fdiv 65536=n / 65536:=Int.fdiv_eq_ediv_of_nonneg n (by omega)
theorem CA (m l:List Int) (hm:m.length<=1000000) (hl:l.length<=1000000):
  ar Tryz.prog 191 [.sl 0 aD l, .ptr 7000 0] (ah.ofL (w5 m)) (fun u M=>u= .tup []/\M=ah.ofL (HZ (m++br l))):=by
 refine ar.intro ab ac (w5 m) Tryz.func191 rfl (by decide) ?_
 conv=>whnf
 refine GQ trivial ?_
 conv=>whnf
 refine c8 0 Gu [(l.length:Int) % 256] (by rw[x8];rfl) ?_
 conv=>whnf
 refine eC [(l.length:Int) % 256] rfl lI ?_
 conv=>whnf
 refine aR.loopF ab ac (fun k:Nat=>k<=l.length) (fun k=>[(9, .top),(10, .top),(13, .int .i64 (k:Int))]) (fun k=>HZ (m++qo l k)) (fun k=>l.length-k) 0 (Nat.zero_le _) ?_;conv=>whnf
 refine⟨by rw[zP];exact bE.by_ [(7000, .old 7000),(7001, .old 7001),(7002, .old 10)] _ 400 rfl (ai) (ai),?_⟩
 rintro k hk
 have hkl:(m++qo l k).length<=4000001:=by
  have:=vz l k
  rw[List.length_append]
  omega
 conv=>whnf
 refine ag ?_ ?_<;>(intro g1;conv=>whnf)
 ·have hlt:k<l.length:=by omega
  repeat' ((first|refine nI ?_|refine aI ?_|refine tI ?_|refine fI ?_|fail);conv=>whnf)
  refine GQ trivial ?_
  conv=>whnf
  refine nI ?_
  conv=>whnf
  refine GQ trivial ?_
  conv=>whnf
  refine nI ?_
  conv=>whnf
  refine GQ trivial ?_
  conv=>whnf
  refine c8 0 Gu [z5 (l.getD k 0),z6 (l.getD k 0),z7 (l.getD k 0)] ?_ ?_
  ·rw[x8,x8,x8,tN]
   show _=[[AV.int .u8 (l.getD k 0 % 256)],[AV.int .u8 ((l.getD k 0).fdiv 256 % 256)],[AV.int .u8 ((l.getD k 0).fdiv 65536 % 256)]]
   rw[I5,H0]
   rfl
  conv=>whnf
  refine eC [z5 (l.getD k 0),z6 (l.getD k 0),z7 (l.getD k 0)] rfl lI ?_
  conv=>whnf
  repeat' ((first|refine nI ?_|refine aI ?_|refine tI ?_|refine fI ?_|fail);conv=>whnf)
  refine⟨k+1,?_,by omega,by dsimp only;omega⟩
  dsimp only
  rw[EE hlt,<-List.append_assoc]
  exact bE.by_ [(7000, .old 7000),(7001, .old 7001),(7002, .old 27)] _ 400 rfl (ai) (ai)
 ·obtain rfl:k=l.length:=by omega
  rw[vy]
  exact⟨rfl,rfl⟩
theorem H1 (c:ap) (h1:c.shape.length<=1000) (h2:c.states.length<=1000) (h3:c.sent.length<=1000) (h4:c.faulty.length<=1000):
  aa Tryz.prog 172 [.agg (aY c)] (fun u=>u= .str (gx c)):=by
 have b1:=mP c.shape
 have b2:=mP c.states
 have b3:=mP c.sent
 have b4:=mP c.faulty
 refine aa.intro ab ac Tryz.func172 rfl (by decide) ?_;(conv=>whnf)
 refine am rfl ?_
 rw[bn]
 dsimp only[ca,List.set]
 simp only[dq]
 rw[bB]
 simp only[gv,aJ,List.map_cons,List.map_nil,bf,g9,ca]
 dsimp only[cm,om,nQ,fg,List.set]
 rw[aK]
 dsimp only[List.getD,List.set,cN,dq]
 rw[bB]
 simp only[gv,aJ,List.map_cons,List.map_nil,bf,g9,ca]
 conv=>whnf
 refine ar.call [(7000, .old 3),(7001, .nil 1)] (w5 []) 400 rfl (ai) (ai) (CA [] c.shape (by simp) (by omega)) ?_
 rintro u M' ⟨rfl,rfl⟩
 refine⟨[(3, .old 7000),(1003, .old 7002)],[(3, .box 250 [.row 1003 (br c.shape).length 1]),(1003,w4 (br c.shape))], .tup [],rfl,(ai),trivial,?_⟩
 conv=>whnf
 refine ar.call [(7000, .old 3),(7001, .old 1003)] (w5 (br c.shape)) 400 rfl (ai) (ai) (CA (br c.shape) c.states (by(try simp only[List.length_append]);omega) (by omega)) ?_
 rintro u M' ⟨rfl,rfl⟩
 refine⟨[(3, .old 7000),(1003, .old 7001),(1004, .old 7002)],[(3, .box 250 [.row 1004 (br c.shape++br c.states).length 1]),(1003, .dead),(1004,w4 (br c.shape++br c.states))], .tup [],rfl,(ai),trivial,?_⟩
 conv=>whnf
 refine ar.call [(7000, .old 3),(7001, .old 1004)] (w5 ((br c.shape++br c.states))) 400 rfl (ai) (ai) (CA ((br c.shape++br c.states)) c.sent (by(try simp only[List.length_append]);omega) (by omega)) ?_
 rintro u M' ⟨rfl,rfl⟩
 refine⟨[(3, .old 7000),(1004, .old 7001),(1005, .old 7002)],[(3, .box 250 [.row 1005 ((br c.shape++br c.states)++br c.sent).length 1]),(1004, .dead),(1005,w4 ((br c.shape++br c.states)++br c.sent))], .tup [],rfl,(ai),trivial,?_⟩
 conv=>whnf
 refine ar.call [(7000, .old 3),(7001, .old 1005)] (w5 (((br c.shape++br c.states)++br c.sent))) 400 rfl (ai) (ai) (CA (((br c.shape++br c.states)++br c.sent)) c.faulty (by(try simp only[List.length_append]);omega) (by omega)) ?_
 rintro u M' ⟨rfl,rfl⟩
 refine⟨[(3, .old 7000),(1005, .old 7001),(1006, .old 7002)],[(3, .box 250 [.row 1006 (((br c.shape++br c.states)++br c.sent)++br c.faulty).length 1]),(1005, .dead),(1006,w4 (((br c.shape++br c.states)++br c.sent)++br c.faulty))], .tup [],rfl,(ai),trivial,?_⟩
 conv=>whnf
 refine ar.hand 27 rfl ?_
 refine ar.call [(7000, .old 3),(7001, .old 1006)] (w5 (br c.shape++br c.states++br c.sent++br c.faulty)) 400 rfl (ai) (ai) (CA (br c.shape++br c.states++br c.sent++br c.faulty) [c.correct,c.value] (by(try simp only[List.length_append]);omega) (by simp)) ?_
 rintro u M' ⟨rfl,rfl⟩
 refine⟨[(3, .old 7000),(1006, .old 7001),(1007, .old 7002)],[(3, .box 250 [.row 1007 (br c.shape++br c.states++br c.sent++br c.faulty++br [c.correct,c.value]).length 1]),(1006, .dead),(1007,w4 (br c.shape++br c.states++br c.sent++br c.faulty++br [c.correct,c.value]))], .tup [],rfl,(ai),trivial,?_⟩
 conv=>whnf
 have e:br c.shape++br c.states++br c.sent++br c.faulty++br [c.correct,c.value]=vw c:=by
  unfold vw
  simp only[List.append_assoc]
 refine IU (br c.shape++br c.states++br c.sent++br c.faulty++br [c.correct,c.value]) ?_ ?_
 ·rfl
 conv=>whnf
 rw[e]
 exact⟨rfl,rfl⟩
def vC (l:List Int):Prop:=l.length<256/\∀x∈l,0<=x/\x<16777216
structure lK (c:ap):Prop where
 shape:vC c.shape
 states:vC c.states
 sent:vC c.sent
 faulty:vC c.faulty
 nums:vC [c.correct,c.value]
theorem Gv {n m:Int} (hn:0<=n/\n<16777216) (hm:0<=m/\m<16777216) (h1:z5 n=z5 m) (h2:z6 n=z6 m) (h3:z7 n=z7 m):n=m:=by
 unfold z5 at h1
 unfold z6 at h2
 unfold z7 at h3
 omega
theorem vD:∀{l m:List Int} {x y:List Int},l.length=m.length->(∀a∈l,0<=a/\a<16777216)->(∀a∈m,0<=a/\a<16777216)->
  (l.flatMap fun n=>[z5 n,z6 n,z7 n])++x=(m.flatMap fun n=>[z5 n,z6 n,z7 n])++y->l=m/\x=y
 |[],[],x,y,_,_,_,h=>⟨rfl,h⟩
 |a::l,b::m,x,y,hl,ha,hb,h=>by
  simp only[List.flatMap_cons,List.cons_append,List.nil_append,List.append_assoc,List.cons.injEq] at h
  obtain⟨h1,h2,h3,h⟩:=h
  have e:=Gv (ha a List.mem_cons_self) (hb b List.mem_cons_self) h1 h2 h3
  obtain⟨e1,e2⟩:=vD (by simpa using hl) (fun c hc=>ha c (List.mem_cons_of_mem _ hc)) (fun c hc=>hb c (List.mem_cons_of_mem _ hc)) h
  exact⟨by rw[e,e1],e2⟩
theorem kH {l m x y:List Int} (hl:vC l) (hm:vC m) (h:br l++x=br m++y):l=m/\x=y:=by
 unfold br at h
 simp only[List.cons_append,List.cons.injEq] at h
 obtain⟨h1,h⟩:=h
 have e:l.length=m.length:=by
  have:=hl.1
  have:=hm.1
  omega
 exact vD e hl.2 hm.2 h
theorem CB {a b:ap} (ha:lK a) (hb:lK b) (h:vw a=vw b):a=b:=by
 unfold vw at h
 obtain⟨e1,h⟩:=kH ha.shape hb.shape h
 obtain⟨e2,h⟩:=kH ha.states hb.states h
 obtain⟨e3,h⟩:=kH ha.sent hb.sent h
 obtain⟨e4,h⟩:=kH ha.faulty hb.faulty h
 have h':br [a.correct,a.value]++[]=br [b.correct,b.value]++[]:=by rw[List.append_nil,List.append_nil];exact h
 obtain⟨e5,_⟩:=kH ha.nums hb.nums h'
 obtain⟨a1,a2,a3,a4,a5,a6⟩:=a
 obtain⟨b1,b2,b3,b4,b5,b6⟩:=b
 simp only[List.cons.injEq] at e1 e2 e3 e4 e5
 obtain⟨e5,e6,_⟩:=e5
 subst e1 e2 e3 e4 e5 e6
 rfl
theorem CC (c:ap):∀x∈vw c,0<=x/\x<256:=by
 intro x hx
 unfold vw at hx
 simp only[List.mem_append] at hx
 rcases hx with h|h|h|h|h<;>exact Gr _ x h
theorem CD {l m:List Int} (hl:∀x∈l,0<=x/\x<256) (hm:∀x∈m,0<=x/\x<256) (h:ED l=ED m):l=m:=by
 unfold ED strOfNums at h
 simp only[ByteArray.mk.injEq] at h
 have h2:(l.map fun n=>UInt8.ofNat n.toNat)=m.map fun n=>UInt8.ofNat n.toNat:=by
  have:=congrArg Array.toList h
  simpa using this
 clear h
 induction l generalizing m with
 |nil=>cases m with
  |nil=>rfl
  |cons b m=>simp at h2
 |cons a l ih=>cases m with
  |nil=>simp at h2
  |cons b m=>
   simp only[List.map_cons,List.cons.injEq] at h2
   have ha:=hl a List.mem_cons_self
   have hb:=hm b List.mem_cons_self
   have e:a.toNat=b.toNat:=by
    have h3:=congrArg UInt8.toNat h2.1
    rw[UInt8.toNat_ofNat',UInt8.toNat_ofNat'] at h3
    omega
   rw[ih (fun x hx=>hl x (List.mem_cons_of_mem _ hx)) (fun x hx=>hm x (List.mem_cons_of_mem _ hx)) h2.2,show a=b by omega]
theorem vE {a b:ap} (ha:lK a) (hb:lK b) (h:gx a=gx b):a=b:=CB ha hb (CD (CC a) (CC b) h)
theorem w6 {l:List Int} {n:Int} (hl:l.length<256) (h:jT l n) (hn:n<=16777216):vC l:=by
 rw[Ev] at h
 exact⟨hl,fun x hx=>by have:=h x hx;omega⟩
theorem nH:∀(l:List Int) (n:Nat),bN n l=some []->∀x∈l,x=0\/x=2
 |[],_,_,x,hx=>by cases hx
 |y::ys,0,h,x,hx=>by rw[dW] at h;cases h
 |y::ys,n+1,h,x,hx=>by
  rw[cn] at h
  by_cases h0:y=0
  ·rw[if_pos h0] at h
   rcases List.mem_cons.1 hx with rfl|hx
   ·exact .inl h0
   ·exact nH ys n h x hx
  ·rw[if_neg h0] at h
   by_cases h2:y=2
   ·rw[if_pos h2] at h
    rcases List.mem_cons.1 hx with rfl|hx
    ·exact .inr h2
    ·exact nH ys (n+2) h x hx
   ·rw[if_neg h2] at h;cases h
theorem cK.sml {p:aq} {s:aB} {c:ap} (h:cK p s c):lK c:=by
 have hle:=aC h.big
 have hw:=aG h.wide
 have hv:=h.vc
 have hs:=h.sz
 refine⟨?_,w6 (by omega) hv.sta (by omega),w6 (by omega) hv.sen (by omega),w6 (by omega) hv.fau ?_,⟨by simp,fun x hx=>?_⟩⟩
 ·by_cases ht:p.topology=4
  ·have h1:=nH _ _ (hv.tre ht).2
   exact⟨by omega,fun x hx=>by have:=h1 x hx;omega⟩
  ·have:c.shape=[]:=List.length_eq_zero_iff.1 (hv.non ht)
   rw[this]
   exact⟨by simp,fun x hx=>by cases hx⟩
 ·unfold wI
  split<;>omega
 ·have h1:=hv.cor
  have h2:=hv.va0
  have h3:=hv.va1
  simp only[List.mem_cons,List.not_mem_nil,or_false] at hx
  omega
theorem lK.can {p:aq} {c:ap} (h:lK c):lK (bU p c):=by
 refine⟨by rw[lH];exact h.shape,⟨by rw[vr];exact h.states.1,fun x hx=>h.states.2 x ((r4 p c).mem_iff.1 hx)⟩,by rw[nG];exact h.sent,by rw[kG];exact h.faulty,?_⟩
 rw[jH,qn];exact h.nums
structure CE (p:aq) (ex:Bool) (l:List dy) (f:ByteArray->Option Int):Prop where
 at_:∀i,i<l.length->f (gx (d0 p ex (l.getD i hZ).c))=some (i:Int)
 of_:∀k v,f k=some v->∃i,i<l.length/\v=(i:Int)/\gx (d0 p ex (l.getD i hZ).c)=k
theorem CE.nil (p:aq) (ex:Bool):CE p ex [] (fun _=>none):=⟨fun i hi=>by simp at hi,fun k v h=>by cases h⟩
theorem ja {α:Type} {l:List α} {a d:α} {i:Nat}:(l++[a]).getD i d=if i<l.length then l.getD i d else if i=l.length then a else d:=by
 rw[gD,gD]
 by_cases h:i<l.length
 ·rw[if_pos h,List.getElem?_append_left h]
 ·rw[if_neg h,List.getElem?_append_right (by omega)]
  by_cases h2:i=l.length
  ·rw[if_pos h2,h2,Nat.sub_self];rfl
  ·rw[if_neg h2,List.getElem?_eq_none (by simp;omega)];rfl
theorem CE.add {p:aq} {ex:Bool} {l:List dy} {f:ByteArray->Option Int} (h:CE p ex l f) {o:dy} (hn:f (gx (d0 p ex o.c))=none):CE p ex (l++[o]) (gO f (gx (d0 p ex o.c)) (l.length:Int)):=by
 refine⟨fun i hi=>?_,fun k v hv=>?_⟩
 ·rw[List.length_append,List.length_singleton] at hi
  rw[ja]
  by_cases h1:i<l.length
  ·rw[if_pos h1]
   have:=h.at_ i h1
   rw[ic,this]
   intro e
   rw[e,hn] at this
   cases this
  ·rw[if_neg h1,if_pos (by omega),gA,show i=l.length by omega]
 ·by_cases e:k=gx (d0 p ex o.c)
  ·subst e
   rw[gA] at hv
   cases hv
   exact⟨l.length,by simp,rfl,by rw[ja,if_neg (by omega),if_pos rfl]⟩
  ·rw[ic _ _ e] at hv
   obtain⟨i,hi,h1,h2⟩:=h.of_ k v hv
   exact⟨i,by simp;omega,h1,by rw[ja,if_pos hi];exact h2⟩
theorem CE.nodup {p:aq} {ex:Bool} {l:List dy} {f:ByteArray->Option Int} (h:CE p ex l f):(l.map fun o=>d0 p ex o.c).Nodup:=by
 refine List.pairwise_iff_getElem.2 fun i j hi hj hij e=>?_
 rw[List.length_map] at hi hj
 rw[List.getElem_map,List.getElem_map] at e
 have h1:=h.at_ i hi
 have h2:=h.at_ j hj
 rw[gD,gL hi,Option.getD_some,e] at h1
 rw[gD,gL hj,Option.getD_some,h1] at h2
 simp only[Option.some.injEq] at h2
 omega
theorem CE.has {p:aq} {ex:Bool} {l:List dy} {f:ByteArray->Option Int} (h:CE p ex l f) (hs:∀o∈l,lK (d0 p ex o.c)) {c:ap} (hc:lK (d0 p ex c)):(f (gx (d0 p ex c))).isSome=true↔d0 p ex c∈l.map fun o=>d0 p ex o.c:=by
 constructor
 ·intro hk
  obtain⟨v,hv⟩:=Option.isSome_iff_exists.1 hk
  obtain⟨i,hi,_,h2⟩:=h.of_ _ _ hv
  have hm:=bi hZ hi
  exact List.mem_map.2 ⟨_,hm,vE (hs _ hm) hc h2⟩
 ·intro hk
  obtain⟨o,ho,e⟩:=List.mem_map.1 hk
  obtain⟨i,hi,rfl⟩:=bL hZ ho
  have h1:f (gx (d0 p ex (l.getD i hZ).c))=some (i:Int):=h.at_ i hi
  rw[e] at h1
  rw[h1];rfl
def qX (l:List ap) (o:List Int):List ap:=o.map fun i=>l.getD i.toNat aA
structure x9 (l:List ap) (o:List Int):Prop where
 len:o.length=l.length
 rng:∀i∈o,0<=i/\i<l.length
 all:∀i:Nat,i<l.length->(i:Int)∈o
 asc:Gs (qX l o)
theorem x9.nil:x9 [] []:=⟨rfl,fun i hi=>absurd hi List.not_mem_nil,fun i hi=>absurd hi (Nat.not_lt_zero _),List.Pairwise.nil⟩
theorem oO (l:List ap) (o:List Int):(qX l o).length=o.length:=by simp[qX]
theorem ya (l:List ap) {o:List Int} {j:Nat} (h:j<o.length):(qX l o).getD j aA=l.getD (o.getD j 0).toNat aA:=by
 unfold qX
 rw[gD,List.getElem?_map,gL h]
 have e:o.getD j 0=o[j]:=by rw[gD,gL h];rfl
 rw[e];rfl
theorem yb {l:List ap} {o:List Int} (h:x9 l o) (c:ap):c∈qX l o↔c∈l:=by
 unfold qX
 constructor
 ·intro hc
  obtain⟨i,hi,rfl⟩:=List.mem_map.1 hc
  have:=h.rng i hi
  have hlt:i.toNat<l.length:=by omega
  rw[gD,gL hlt]
  exact List.getElem_mem hlt
 ·intro hc
  obtain⟨i,hi,rfl⟩:=List.getElem_of_mem hc
  refine List.mem_map.2 ⟨(i:Int),h.all i hi,?_⟩
  rw[tN,gD,gL hi]
  rfl
theorem tu {l:List ap} (h:Gs l) {i j:Nat} (hij:i<j) (hj:j<l.length):fx (l.getD i aA) (l.getD j aA)<0:=by
 have:=List.pairwise_iff_getElem.1 h i j (by omega) hj hij
 rw[gD,gD,gL (by omega),gL hj]
 exact this
theorem lL {a b c:ap} (h1:fx a b<0) (h2:fx b c<0):fx a c<0:=by
 have:=Bl a b c
 unfold Bk at this
 omega
structure Gx (l:List ap) (o:List Int) (c:ap) (a:Nat) (is:Bool):Prop where
 le:a<=o.length
 low:∀j,j<a->fx ((qX l o).getD j aA) c<0
 yes:is=true->a<o.length/\fx ((qX l o).getD a aA) c=0
 no:is=false->∀j,a<=j->j<o.length->0<fx ((qX l o).getD j aA) c
theorem Gx.mem {l:List ap} {o:List Int} {c:ap} {a:Nat} {is:Bool} (h:Gx l o c a is) (hs:x9 l o):is=true↔c∈l:=by
 constructor
 ·intro hi
  obtain⟨h1,h2⟩:=h.yes hi
  have e:=i9 h2
  rw[<-yb hs,<-e]
  exact bi aA (by rw[oO];exact h1)
 ·intro hc
  rw[<-yb hs] at hc
  obtain⟨j,hj,rfl⟩:=bL aA hc
  rw[oO] at hj
  cases is with
  |true=>rfl
  |false=>
   exfalso
   by_cases hja:j<a
   ·have:=h.low j hja
    rw[kW] at this;omega
   ·have:=h.no rfl j (by omega) hj
    rw[kW] at this;omega
theorem Gx.at_ {l:List ap} {o:List Int} {c:ap} {a:Nat} (h:Gx l o c a true):l.getD (o.getD a 0).toNat aA=c:=by
 obtain⟨h1,h2⟩:=h.yes rfl
 rw[<-ya l h1]
 exact i9 h2
def qq (o:List Int) (a:Nat) (x:Int):List Int:=o.take a++(x::o.drop a)
theorem vF {o:List Int} {a:Nat} (x:Int) (h:a<=o.length):(qq o a x).length=o.length+1:=by
 unfold qq
 rw[List.length_append,List.length_cons,List.length_take,List.length_drop]
 omega
theorem CF {o:List Int} {a:Nat} (x:Int) (h:a<=o.length) (j:Nat):(qq o a x).getD j 0=if j<a then o.getD j 0 else if j=a then x else o.getD (j-1) 0:=by
 have ht:(o.take a).length=a:=by rw[List.length_take];omega
 unfold qq
 rw[gD]
 by_cases h1:j<a
 ·rw[if_pos h1,List.getElem?_append_left (by omega),List.getElem?_take,if_pos h1,gD]
 ·rw[if_neg h1,List.getElem?_append_right (by omega),ht]
  by_cases h2:j=a
  ·rw[if_pos h2,h2,Nat.sub_self];rfl
  ·rw[if_neg h2,show j-a=(j-a-1)+1 by omega,List.getElem?_cons_succ,List.getElem?_drop,gD,show a+(j-a-1)=j-1 by omega]
theorem x9.ins {l:List ap} {o:List Int} {c:ap} {a:Nat} (hs:x9 l o) (h:Gx l o c a false):x9 (l++[c]) (qq o a l.length):=by
 have hle:=h.le
 have ht:(o.take a).length=a:=by rw[List.length_take];omega
 have hmap:∀p:List Int,(∀i∈p,i∈o)->p.map (fun i=>(l++[c]).getD i.toNat aA)=p.map fun i=>l.getD i.toNat aA:=fun p hp=>List.map_congr_left fun i hi=>by
  have:=hs.rng i (hp i hi)
  rw[gD,List.getElem?_append_left (by omega),gD]
 have hsv:qX (l++[c]) (qq o a l.length)=(qX l o).take a++(c::(qX l o).drop a):=by
  unfold qX qq
  rw[List.map_append,List.map_cons,hmap _ fun i hi=>List.mem_of_mem_take hi,hmap _ fun i hi=>List.mem_of_mem_drop hi,List.map_take,List.map_drop]
  congr 2
  simp
 refine⟨by rw[vF _ hle,hs.len];simp,fun i hi=>?_,fun i hi=>?_,?_⟩
 ·unfold qq at hi
  rw[List.mem_append,List.mem_cons] at hi
  rw[List.length_append,List.length_singleton]
  rcases hi with hi|rfl|hi
  ·have:=hs.rng i (List.mem_of_mem_take hi);omega
  ·omega
  ·have:=hs.rng i (List.mem_of_mem_drop hi);omega
 ·rw[List.length_append,List.length_singleton] at hi
  unfold qq
  rw[List.mem_append,List.mem_cons]
  by_cases e:i=l.length
  ·exact .inr (.inl (by rw[e]))
  ·have:=hs.all i (by omega)
   rw[<-List.take_append_drop a o,List.mem_append] at this
   rcases this with h1|h1
   ·exact .inl h1
   ·exact .inr (.inr h1)
 ·rw[hsv]
  have hlen:=oO l o
  unfold Gs
  rw[List.pairwise_append,List.pairwise_cons]
  have hlow:∀x∈(qX l o).take a,fx x c<0:=fun x hx=>by
   obtain⟨j,hj,rfl⟩:=List.getElem_of_mem hx
   rw[List.length_take] at hj
   have:=h.low j (by omega)
   rw[gD,gL (by omega)] at this
   rw[List.getElem_take];exact this
  have hhigh:∀x∈(qX l o).drop a,fx c x<0:=fun x hx=>by
   obtain⟨j,hj,rfl⟩:=List.getElem_of_mem hx
   rw[List.length_drop] at hj
   have:=h.no rfl (a+j) (by omega) (by omega)
   rw[gD,gL (by omega)] at this
   rw[List.getElem_drop,pK]
   have h2:0<fx (qX l o)[a+j] c:=this
   omega
  refine⟨List.Pairwise.sublist (List.take_sublist _ _) hs.asc,⟨hhigh,List.Pairwise.sublist (List.drop_sublist _ _) hs.asc⟩,fun x hx y hy=>?_⟩
  rcases List.mem_cons.1 hy with rfl|hy
  ·exact hlow x hx
  ·exact lL (hlow x hx) (hhigh y hy)
section
variable {p:aq} {q:bO} {s:aB}
abbrev ce (l:List dy) (i:Nat):dy:=l.getD i hZ
def qr (p:aq) (q:bO) (s:aB) (l:List dy) (i:Nat):Prop:=
 ((ce l i).src=-1/\lf p q s (ce l i).c)\/∃j:Nat,j<i/\(ce l i).src=(j:Int)/\cz p s (ce l j).c (ce l i).st false/\bh (ce l j).c (aO p (ce l i).st) (ce l i).st/\(ce l i).c=cp (ce l j).c (aO p (ce l i).st) (ce l i).st
def eJ (p:aq) (q:bO) (s:aB) (l:List dy):Prop:=∀i,i<l.length->qr p q s l i
theorem dJ {l m:List dy} {i:Nat} (h:i<l.length):ce (l++m) i=ce l i:=by
 unfold ce
 rw[gD,gD,List.getElem?_append_left h]
theorem gY (l:List dy) (o:dy):ce (l++[o]) l.length=o:=by
 unfold ce
 rw[ja,if_neg (by omega),if_pos rfl]
theorem qr.app {l m:List dy} {i:Nat} (h:qr p q s l i) (hi:i<l.length):qr p q s (l++m) i:=by
 unfold qr at*
 rw[dJ hi]
 rcases h with h|⟨j,hj,h⟩
 ·exact .inl h
 ·refine .inr ⟨j,hj,?_⟩
  rw[dJ (by omega)]
  exact h
theorem eJ.nil:eJ p q s []:=fun i hi=>by simp at hi
theorem eJ.ini {l:List dy} (h:eJ p q s l) {c:ap} (hc:lf p q s c) (st:be):eJ p q s (l++[⟨c,-1,st⟩]):=by
 intro i hi
 rw[List.length_append,List.length_singleton] at hi
 by_cases e:i<l.length
 ·exact(h i e).app e
 ·have:i=l.length:=by omega
  subst this
  unfold qr
  rw[gY]
  exact .inl ⟨rfl,hc⟩
theorem eJ.stp {l:List dy} (h:eJ p q s l) {j:Nat} (hj:j<l.length) {x:be} (he:cz p s (ce l j).c x false) (ha:bh (ce l j).c (aO p x) x):eJ p q s (l++[⟨cp (ce l j).c (aO p x) x,(j:Int),x⟩]):=by
 intro i hi
 rw[List.length_append,List.length_singleton] at hi
 by_cases e:i<l.length
 ·exact(h i e).app e
 ·have:i=l.length:=by omega
  subst this
  unfold qr
  rw[gY]
  refine .inr ⟨j,hj,rfl,?_⟩
  rw[dJ hj]
  exact⟨he,ha,rfl⟩
inductive dj (l:List dy):Nat->Nat->List be->Prop
 |root {i:Nat} (h:(ce l i).src=-1):dj l i i []
 |step {i j r:Nat} {xs:List be} (hj:j<i) (h:(ce l i).src=(j:Int)) (k:dj l j r xs):dj l i r (xs++[(ce l i).st])
theorem dj.ex {l:List dy} (h:eJ p q s l):∀i,i<l.length->∃r xs,dj l i r xs:=by
 intro i
 induction i using Nat.strongRecOn with
 |_ i ih=>
  intro hi
  rcases h i hi with h1|⟨j,hj,h1,_⟩
  ·exact⟨i,[], .root h1.1⟩
  ·obtain⟨r,xs,hc⟩:=ih j hj (by omega)
   exact⟨r,_, .step hj h1 hc⟩
theorem dj.run {l:List dy} (h:eJ p q s l) {i r:Nat} {xs:List be} (hc:dj l i r xs):i<l.length->lf p q s (ce l r).c/\ee p s (ce l r).c xs/\(trs p (ce l r).c xs).getD xs.length aA=(ce l i).c:=by
 induction hc with
 |@root i hs=>
  intro hi
  rcases h i hi with h1|⟨j,_,h1,_⟩
  ·exact⟨h1.2,trivial,rfl⟩
  ·omega
 |@step i j r xs hj hs _ ih=>
  intro hi
  obtain⟨k1,k2,k3⟩:=ih (by omega)
  rcases h i hi with h1|⟨j',_,h1,h2,h3,h4⟩
  ·omega
  ·have:j'=j:=by omega
   subst this
   refine⟨k1,lc.2 ⟨k2,?_⟩,?_⟩
   ·rw[k3];exact⟨h2,h3,trivial⟩
   ·rw[Ew,k3,h4];rfl
theorem dj.wn {l:List dy} (h:eJ p q s l) {i r:Nat} {xs:List be} (hc:dj l i r xs) (hi:i<l.length):Wn p q s xs.length (ce l i).c:=by
 obtain⟨k1,k2,k3⟩:=hc.run h hi
 have:=(Wn.ini k1).of_run k2
 rw[k3,Nat.zero_add] at this
 exact this
theorem dj.app {l m:List dy} {i r:Nat} {xs:List be} (hc:dj l i r xs):i<l.length->dj (l++m) i r xs:=by
 induction hc with
 |@root i hs=>exact fun hi=>.root (by rw[dJ hi];exact hs)
 |@step i j r xs hj hs _ ih=>
  intro hi
  have:=dj.step (l:=l++m) hj (by rw[dJ hi];exact hs) (ih (by omega))
  rw[dJ hi] at this
  exact this
theorem dj.one {l:List dy} {i r r':Nat} {xs xs':List be} (h:dj l i r xs) (k:dj l i r' xs'):r=r'/\xs=xs':=by
 induction h generalizing r' xs' with
 |@root i hs=>
  cases k with
  |root _=>exact⟨rfl,rfl⟩
  |step _ h1 _=>omega
 |@step i j r xs hj hs _ ih=>
  cases k with
  |root h1=>omega
  |@step _ j' _ xs2 _ h1 h2=>
   have:j'=j:=by omega
   subst this
   obtain⟨e1,e2⟩:=ih h2
   exact⟨e1,by rw[e2]⟩
end
end
end Go.Proofs.YtblcpnmnibcbbaaGreatDoor
