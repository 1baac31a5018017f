import Derived.Test.YtekmminpfhacpaaGreatDoorFS
set_option linter.unusedVariables false
set_option linter.unusedSimpArgs false
namespace Go.Proofs.YtekmminpfhacpaaGreatDoor
set_option maxRecDepth 100000
set_option maxHeartbeats 16000000
def Ip (p:an) (q:aE) (s:aC) (r:Rn):Prop:=lQ p q s=0/\q.kind=1/\um p q s r.start/\bN p s r.start r.steps/\GZ p q ((cE p r.start r.steps).getD r.steps.length aX)
noncomputable instance decVio (p:an) (q:aE) (s:aC) (r:Rn):Decidable (Ip p q s r):=Classical.propDecidable _
theorem F3 {p:an} {s:aC} {c:ay} (hp:¬cp p) (hw:bh c=false) (hz:aJ p s=0) (hv:VC p s c):dk p s c:=
 dk.of hp hw (by
  have:km p s c=0:=by unfold km;rw[if_pos hv]
  unfold bW;rw[if_neg (by omega)];exact this)
theorem dk.plain {p:an} {s:aC} {c:ay} (h:dk p s c):GX p c:=by
 have hv:=h.vc
 have hf:=h.sz
 have hl:=hv.len
 refine⟨hv.sta,by rw[hv.cor];omega,?_⟩
 rw[hv.cor,hl]
 unfold io
 split<;>omega
theorem j7 {p:an} {s:aC}:∀{a b:List cj} {c:ay},bN p s c (a++b)↔bN p s c a/\bN p s ((cE p c a).getD a.length aX) b
 |[],b,c=>by simp[bN,cE,tr]
 |x::a,b,c=>by
  have ih:=j7 (p:=p) (s:=s) (a:=a) (b:=b) (c:=d9 c (cN p x) x)
  simp only[List.cons_append,bN,ih]
  constructor
  ·rintro⟨h1,h2,h3,h4⟩;exact⟨⟨h1,h2,h3⟩,h4⟩
  ·rintro⟨⟨h1,h2,h3⟩,h4⟩;exact⟨h1,h2,h3,h4⟩
theorem BA {p:an}:∀(a b:List cj) (c:ay),tr p c (a++b)=tr p c a++tr p ((cE p c a).getD a.length aX) b
 |[],b,c=>rfl
 |x::a,b,c=>by
  have ih:=BA (p:=p) a b (d9 c (cN p x) x)
  simp only[List.cons_append,tr,ih]
  rfl
theorem nm {p:an} (a b:List cj) (c:ay):cE p c (a++b)=cE p c a++tr p ((cE p c a).getD a.length aX) b:=by
 unfold cE;rw[BA];rfl
theorem BB {p:an} (a b:List cj) (c:ay):(cE p c (a++b)).drop a.length=cE p ((cE p c a).getD a.length aX) b:=by
 induction a generalizing c with
 |nil=>rfl
 |cons x a ih=>exact ih (d9 c (cN p x) x)
structure Gn where
 start:ay
 pre:List cj
 loop:List cj
def Hw (l:Gn):List AV:=bd l.start++[.sl cH ef l.pre, .sl cH ef l.loop]
def mD (p:an) (l:Gn):ay:=(cE p l.start l.pre).getD l.pre.length aX
def lS (p:an) (s:aC) (b:List ay) (loop:List cj) (r i:Int):Prop:=(∃x∈loop,x.rule=r/\x.process=i)\/∃d∈b,¬nk p s d r i
structure F4 (p:an) (q:aE) (s:aC) (R:ay->Prop) (m:ay) (loop:List cj):Prop where
 run:bN p s m loop
 back:(cE p m loop).getD loop.length aX=m
 not:∀d∈cE p m loop,¬R d
 free:∀r i:Nat,r<p.rules.length->(i:Int)<s.n-s.f->lS p s (cE p m loop) loop r i
theorem lT {p:an} {c:ay} {l:List cj}:c∈cE p c l:=List.mem_cons_self
def DJ (p:an) (q:aE) (s:aC) (R:ay->Prop) (l:Gn):Prop:=lQ p q s=0/\q.kind=2/\um p q s l.start/\bN p s l.start l.pre/\(∀d∈cE p l.start l.pre,¬R d)/\F4 p q s R (mD p l) l.loop
def un (r k:Nat):List (Int×Int):=(List.range k).map fun i:Nat=>((r:Int),(i:Int))
def kM (m k:Nat):List (Int×Int):=(List.range k).flatMap fun r=>un r m
theorem F5 (r k:Nat):un r (k+1)=un r k++[((r:Int),(k:Int))]:=by simp[un,List.range_succ]
theorem BC (m k:Nat):kM m (k+1)=kM m k++un k m:=by simp[kM,List.range_succ,List.flatMap_append]
theorem wX (r k:Nat):(un r k).length=k:=by simp[un]
theorem r6 (m:Nat):∀k,(kM m k).length=k*m
 |0=>by simp[kM]
 |k+1=>by rw[BC,List.length_append,wX,r6 m k,Nat.add_mul,Nat.one_mul]
theorem wY {m k:Nat} {a:Int×Int}:a∈kM m k↔∃r i:Nat,r<k/\i<m/\a=((r:Int),(i:Int)):=by
 simp only[kM,un,List.mem_flatMap,List.mem_map,List.mem_range]
 constructor
 ·rintro⟨r,hr,i,hi,rfl⟩;exact⟨r,i,hr,hi,rfl⟩
 ·rintro⟨r,i,hr,hi,rfl⟩;exact⟨r,hr,i,hi,rfl⟩
def DK (k:Int×Int):List AV:=[.int .i64 k.1, .int .i64 k.2]
def Hx (l:List (Int×Int)):bP:=.row 245 (0,0) DK l
theorem F6 (p:an) (s:aC) (hp:¬cp p) (hs:(1<=s.n/\s.n<=8)/\(0<=s.f/\s.f<=s.n)):ab Tryz.prog 168 [.agg (aB p), .agg (bv s)] (fun u=>u= .sl (0,0) DK (kM (s.n-s.f).toNat p.rules.length)):=by
 have hle:=aO hp
 have hm:(s.n-s.f).toNat<=8:=by omega
 have hA:=r6 (s.n-s.f).toNat
 refine ab.intro ac ae Tryz.func168 rfl (by decide) ?_;(conv=>whnf)
 refine ak rfl ?_
 conv=>whnf
 refine ak rfl ?_
 conv=>whnf
 refine aF.loopF ac ae (fun k1:Nat=>k1<=p.rules.length) (fun k1=>[(11, .int .i64 (k1:Int)),(5, .row 1000 (kM (s.n-s.f).toNat k1).length 2)]) (fun k1=>[(1000,Hx (kM (s.n-s.f).toNat k1))]) (fun k1=>p.rules.length-k1) 0 (Nat.zero_le _) ?_;conv=>whnf
 refine⟨aR.by_ [(1000, .nil 2)] _ 400 rfl (aa) (aa),?_⟩
 rintro k1 hk1
 conv=>whnf
 refine ag ?_ ?_<;>(intro g1;conv=>whnf)
 ·refine aI ?_
  conv=>whnf
  have hk8:(kM (s.n-s.f).toNat k1).length<=8000:=by
   rw[hA]
   have:=Nat.mul_le_mul (show k1<=1000 by omega) hm
   omega
  have e0:kM (s.n-s.f).toNat k1++un k1 0=kM (s.n-s.f).toNat k1:=by simp[un]
  refine aF.loopF ac ae (fun k2:Nat=>k2<=(s.n-s.f).toNat) (fun k2=>[(19, .int .i64 (k2:Int)),(5, .row 1000 (kM (s.n-s.f).toNat k1++un k1 k2).length 2)]) (fun k2=>[(1000,Hx (kM (s.n-s.f).toNat k1++un k1 k2))]) (fun k2=>(s.n-s.f).toNat-k2) 0 (Nat.zero_le _) ?_;conv=>whnf
  refine⟨by rw[e0];exact sI,?_⟩
  rintro k2 hk2
  conv=>whnf
  refine ag ?_ ?_<;>(intro g2;conv=>whnf)
  ·have hll:(kM (s.n-s.f).toNat k1++un k1 k2).length<=1000000:=by rw[List.length_append,wX];omega
   refine bD (0,0) DK [((k1:Int),(k2:Int))] rfl ?_
   conv=>whnf
   refine bQ [((k1:Int),(k2:Int))] rfl lI ?_
   conv=>whnf
   repeat' ((first|refine nI ?_|refine aI ?_|refine tI ?_|refine fI ?_|fail);conv=>whnf)
   have e3:kM (s.n-s.f).toNat k1++un k1 (k2+1)=kM (s.n-s.f).toNat k1++un k1 k2++[((k1:Int),(k2:Int))]:=by rw[F5,<-List.append_assoc]
   refine⟨k2+1,?_,by omega,by dsimp only;omega⟩
   dsimp only
   rw[e3]
   exact aR.by_ [(1000, .old 27)] _ 400 rfl (aa) (aa)
  ·have ek:k2=(s.n-s.f).toNat:=by omega
   have e2:kM (s.n-s.f).toNat (k1+1)=kM (s.n-s.f).toNat k1++un k1 k2:=by rw[ek,BC]
   repeat' ((first|refine nI ?_|refine aI ?_|refine tI ?_|refine fI ?_|fail);conv=>whnf)
   refine⟨k1+1,?_,by omega,by dsimp only;omega⟩
   dsimp only
   rw[e2]
   exact sI
 ·obtain rfl:k1=p.rules.length:=by omega
  exact⟨rfl,rfl⟩
def yD (k:Int×Int):Value:=.agg #[.int .i64 k.1, .int .i64 k.2]
theorem wZ:i8 Tryz.prog 245 yD:=by
 have ht:Tryz.prog.underlying 3=some (.int .i64):=Tryz.underlying3
 have hag:∀w,(isAgg 3).run Tryz.prog w= .ok false w:=fun w=>by simp[isAgg,run_underlying ht]
 have hag2:∀w,(isAgg 245).run Tryz.prog w= .ok true w:=fun w=>by simp[isAgg,run_underlying Tryz.underlying245]
 refine i8.ask Tryz.underlying245 ?_ ?_ ?_ ?_ ?_
 ·rintro⟨a,b⟩ ⟨c,d⟩ h
  simpa[yD] using h
 ·rintro e ⟨a,b⟩ w
  have h4:∀n w,(Instr.checkKey e (n+2) 245 (yD (a,b))).run Tryz.prog w= .ok () w:=fun n w=>by
   simp[Instr.checkKey,run_underlying Tryz.underlying245,run_underlying ht,yD,part,hag]
  exact h4 9998 w
 ·intro a b;rfl
 ·rintro⟨a,b⟩ ⟨c,d⟩ w
  obtain⟨p,q,e1,e2,e3⟩:=vQ (P:=Tryz.prog) w 9 245 2 (by decide+kernel) 9991 #[.int .i64 a, .int .i64 b] #[.int .i64 c, .int .i64 d] 0 [a,b] [c,d] rfl rfl
   (fun j x hj=>by rw[Nat.zero_add];match j,hj with|0,hj=>cases hj;rfl|1,hj=>cases hj;rfl) (fun j x hj=>by rw[Nat.zero_add];match j,hj with|0,hj=>cases hj;rfl|1,hj=>cases hj;rfl)
  have hsz:(Go.sizeOf 245).run Tryz.prog w= .ok 2 w:=by
   obtain⟨i,hi⟩:∃i,tt.find 245=some i:=⟨_,rfl⟩
   have:=TOk.size ac hi w
   cases hi
   exact this
  simp[part,hag2,hsz] at e1 e2
  subst e1;subst e2
  refine⟨_,e3,?_⟩
  simp[yD]
 ·rintro⟨a,b⟩
  have h4:∀n,Instr.sameBits (n+1) (yD (a,b)) (yD (a,b))=true:=fun n=>by simp[yD,Instr.sameBits]
  exact h4 9999
structure F7 (l:List cj) (f:Int×Int->Option Bool):Prop where
 yes:∀a b,f a=some b->b=true/\∃x∈l,(x.rule,x.process)=a
 no:∀a,f a=none->∀x∈l,(x.rule,x.process)≠a
theorem F7.nil:F7 [] (fun _=>none):=⟨fun _ _ h=>(by cases h),fun _ _ x hx=>absurd hx List.not_mem_nil⟩
theorem F7.up {l:List cj} {k:Nat} {f:Int×Int->Option Bool} (h:F7 (l.take k) f) (hk:k<l.length):F7 (l.take (k+1)) (nG f ((l.getD k cH).rule,(l.getD k cH).process) true):=by
 have e:l.getD k cH=l[k]:=by rw[gD,gL hk];rfl
 rw[List.take_succ_eq_append_getElem hk,e]
 refine⟨fun a b hb=>?_,fun a ha x hx=>?_⟩
 ·by_cases c:a=(l[k].rule,l[k].process)
  ·subst c
   rw[eX] at hb
   cases hb
   exact⟨rfl,l[k],List.mem_append_right _ List.mem_cons_self,rfl⟩
  ·rw[gz _ _ c] at hb
   obtain⟨h1,x,hx,hh⟩:=h.yes a b hb
   exact⟨h1,x,List.mem_append_left _ hx,hh⟩
 ·have c:a≠(l[k].rule,l[k].process):=fun c=>by subst c;rw[eX] at ha;cases ha
  rw[gz _ _ c] at ha
  rcases List.mem_append.1 hx with hx|hx
  ·exact h.no a ha x hx
  ·rw[List.mem_singleton] at hx;subst hx;exact fun e=>c e.symm
def ph (p:an) (s:aC) (b:List ay) (loop:List cj):Prop:=∀r i:Nat,r<p.rules.length->(i:Int)<s.n-s.f->lS p s b loop r i
noncomputable instance decFair (p:an) (s:aC) (b:List ay) (loop:List cj):Decidable (ph p s b loop):=Classical.propDecidable _
theorem yo {p:an} {s:aC} {b:List ay} {loop:List cj} (h:∀a∈kM (s.n-s.f).toNat p.rules.length,lS p s b loop a.1 a.2):ph p s b loop:=
 fun r i hr hi=>h ((r:Int),(i:Int)) (wY.2 ⟨r,i,hr,by omega,rfl⟩)
theorem BD {p:an} {s:aC} {b:List ay} {loop:List cj} (h:ph p s b loop) {a:Int×Int} (ha:a∈kM (s.n-s.f).toNat p.rules.length):lS p s b loop a.1 a.2:=by
 obtain⟨r,i,hr,hi,rfl⟩:=wY.1 ha
 exact h r i hr (by omega)
theorem iw {α:Type} (d:α) {l:List α} {k:Nat} (h:k<l.length):l.getD k d∈l:=by
 rw[gD,gL h];exact List.getElem_mem h
theorem mE {α:Type} (d:α) {l:List α} {a:α} (h:a∈l):∃k,k<l.length/\l.getD k d=a:=by
 obtain⟨k,hk,rfl⟩:=List.getElem_of_mem h
 exact⟨k,hk,by rw[gD,gL hk];rfl⟩
theorem yp (p:an) (s:aC) (b:List ay) (loop:List cj) (hp:¬cp p) (hs:(1<=s.n/\s.n<=8)/\(0<=s.f/\s.f<=s.n)) (hb:∀k,k<b.length->dk p s (b.getD k aX)) (hbl:b.length<=100000) (hll:loop.length<=100000):
  ab Tryz.prog 77 [.agg (aB p), .agg (bv s), .sl aX bd b, .sl cH ef loop] (fun u=>u= .bool (decide (ph p s b loop))):=by
 have hle:=aO hp
 have hal:(kM (s.n-s.f).toNat p.rules.length).length<=8000:=by
  rw[r6]
  have:=Nat.mul_le_mul (show p.rules.length<=1000 by omega) (show(s.n-s.f).toNat<=8 by omega)
  omega
 refine ab.intro ac ae Tryz.func77 rfl (by decide) ?_;(conv=>whnf)
 refine ak rfl ?_
 conv=>whnf
 refine ak rfl ?_
 conv=>whnf
 refine sF yD Value.bool ?_
 conv=>whnf
 refine aF.loopF ac ae (fun x:Nat×(Int×Int->Option Bool)=>x.1<=loop.length/\F7 (loop.take x.1) x.2) (fun x=>[(20, .int .i64 (x.1:Int))]) (fun x=>[(17, .map yD Value.bool x.2)]) (fun x=>loop.length-x.1) (0,fun _=>none) ⟨Nat.zero_le _,F7.nil⟩ ?_;conv=>whnf
 refine⟨sI,?_⟩
 rintro⟨k,f⟩ ⟨hk,hf⟩
 dsimp only at hk hf
 conv=>whnf
 refine ag ?_ ?_<;>(intro g1;conv=>whnf)
 ·refine nI ?_
  conv=>whnf
  rw[tN]
  refine sG wZ ((loop.getD k cH).rule,(loop.getD k cH).process) true rfl rfl ?_
  conv=>whnf
  repeat' ((first|refine nI ?_|refine aI ?_|refine tI ?_|refine fI ?_|fail);conv=>whnf)
  exact⟨(k+1,nG f ((loop.getD k cH).rule,(loop.getD k cH).process) true),sI,⟨by dsimp only;omega,hf.up (by omega)⟩,by dsimp only;omega⟩
 have hk':k=loop.length:=by omega
 rw[hk',List.take_length] at hf
 clear hk hk' g1
 (refine oP (F6 p s hp hs) ?_;conv=>whnf)
 have hmem:∀j,j<(kM (s.n-s.f).toNat p.rules.length).length->(ph p s b loop->lS p s b loop ((kM (s.n-s.f).toNat p.rules.length).getD j (0,0)).1 ((kM (s.n-s.f).toNat p.rules.length).getD j (0,0)).2):=fun j hj h=>BD h (iw (0,0) hj)
 have hall:(∀j,j<(kM (s.n-s.f).toNat p.rules.length).length->lS p s b loop ((kM (s.n-s.f).toNat p.rules.length).getD j (0,0)).1 ((kM (s.n-s.f).toNat p.rules.length).getD j (0,0)).2)->ph p s b loop:=fun h=>yo fun a ha=>by
  obtain⟨j,hj,rfl⟩:=mE (0,0) ha
  exact h j hj
 generalize kM (s.n-s.f).toNat p.rules.length=A at hal hmem hall
 refine aF.loopF ac ae (fun j:Nat=>j<=A.length/\∀i,i<j->lS p s b loop (A.getD i (0,0)).1 (A.getD i (0,0)).2) (fun j=>[(35, .int .i64 (j:Int))]) (fun _=>[(17, .map yD Value.bool f)]) (fun j=>A.length-j) 0 ⟨Nat.zero_le _,fun i hi=>by omega⟩ ?_;conv=>whnf
 refine⟨sI,?_⟩
 rintro j ⟨hj,ha⟩
 conv=>whnf
 refine ag ?_ ?_<;>(intro g2;conv=>whnf)
 case refine_2=>exact⟨av (hall fun i hi=>ha i (by omega)),rfl⟩
 have hmj:=hmem j (by omega)
 refine nI ?_
 conv=>whnf
 rw[tN]
 have hnx:lS p s b loop (A.getD j (0,0)).1 (A.getD j (0,0)).2->∀i,i<j+1->lS p s b loop (A.getD i (0,0)).1 (A.getD i (0,0)).2:=fun h i hi=>by
  by_cases e:i=j
  ·subst e;exact h
  ·exact ha i (by omega)
 generalize A.getD j (0,0)=a at hmj hnx
 refine D3 wZ a rfl (fun t ht=>?_) (fun hn=>?_)
 ·obtain⟨rfl,x,hx,hxa⟩:=hf.yes a t ht
  subst hxa
  conv=>whnf
  repeat' ((first|refine nI ?_|refine aI ?_|refine tI ?_|refine fI ?_|fail);conv=>whnf)
  exact⟨j+1,sI,⟨by omega,hnx (.inl ⟨x,hx,rfl,rfl⟩)⟩,by dsimp only;omega⟩
 have hnt:¬∃x∈loop,x.rule=a.1/\x.process=a.2:=by
  rintro⟨x,hx,h1,h2⟩
  exact hf.no a hn x hx (Prod.ext h1 h2)
 conv=>whnf
 refine aF.loopF ac ae (fun y:Nat×Bool=>y.1<=b.length/\(y.2=true↔∀i,i<y.1->nk p s (b.getD i aX) a.1 a.2)) (fun y=>[(44, .int .i64 (y.1:Int)),(14, .bool y.2)]) (fun _=>[(13, .box 245 (DK a)),(17, .map yD Value.bool f)]) (fun y=>b.length-y.1) (0,true) ⟨Nat.zero_le _,by simp⟩ ?_;conv=>whnf
 refine⟨sI,?_⟩
 rintro⟨k,t⟩ ⟨hk,hy⟩
 dsimp only at hk hy
 conv=>whnf
 refine ag ?_ ?_<;>(intro g3;conv=>whnf)
 ·refine nI ?_
  conv=>whnf
  rw[tN]
  have hR:=hb k (by omega)
  generalize hd:b.getD k aX=d at hR⊢
  cases t with
  |false=>
   refine dI ?_
   conv=>whnf
   repeat' ((first|refine nI ?_|refine aI ?_|refine tI ?_|refine fI ?_|fail);conv=>whnf)
   exact⟨(k+1,false),sI,⟨by dsimp only;omega,⟨fun h=>(by cases h),fun h=>hy.2 fun i hi=>h i (Nat.lt_succ_of_lt hi)⟩⟩,by dsimp only;omega⟩
  |true=>
   refine dI ?_
   conv=>whnf
   (refine oC (CO p s d hR.wide) ?_;conv=>whnf)
   refine dD (wP p s d a.1 a.2 hR) (fun _=>?_) (fun _=>?_)<;>(conv=>whnf)
   ·rename_i h4
    repeat' ((first|refine nI ?_|refine aI ?_|refine tI ?_|refine fI ?_|fail);conv=>whnf)
    exact⟨(k+1,true),sI,⟨by dsimp only;omega,⟨fun _ i hi=>by
     by_cases e:i=k
     ·subst e;rw[hd];exact h4
     ·exact hy.1 rfl i (by omega),fun _=>rfl⟩⟩,by dsimp only;omega⟩
   ·rename_i h4
    repeat' ((first|refine nI ?_|refine aI ?_|refine tI ?_|refine fI ?_|fail);conv=>whnf)
    exact⟨(k+1,false),sI,⟨by dsimp only;omega,⟨fun h=>(by cases h),fun h=>absurd (by have:=h k (Nat.lt_succ_self k);rwa [hd] at this) h4⟩⟩,by dsimp only;omega⟩
 ·have hkb:k=b.length:=by omega
  subst hkb
  cases t with
  |true=>
   conv=>whnf
   refine⟨al fun h=>?_,rfl⟩
   rcases hmj h with hx|⟨d,hdb,hnf⟩
   ·exact hnt hx
   ·obtain⟨i,hi,rfl⟩:=mE aX hdb
    exact hnf (hy.1 rfl i hi)
  |false=>
   conv=>whnf
   repeat' ((first|refine nI ?_|refine aI ?_|refine tI ?_|refine fI ?_|fail);conv=>whnf)
   have hfree:∃d∈b,¬nk p s d a.1 a.2:=Classical.byContradiction fun hno=>by
    have:=hy.2 fun i hi=>Classical.byContradiction fun hnf=>hno ⟨_,iw aX hi,hnf⟩
    cases this
   exact⟨j+1,sI,⟨by omega,hnx (.inr hfree)⟩,by dsimp only;omega⟩
theorem yq {a b:ay} (h:Cu a b=0):a=b:=by
 have hz:=bG h
 have e1:=gK (hz (bK a.shape b.shape) (by simp))
 have e2:=gK (hz (bK a.states b.states) (by simp))
 have e3:=gK (hz (bK a.sent b.sent) (by simp))
 have e4:=gK (hz (bK a.faulty b.faulty) (by simp))
 have e5:=hz (iP a.correct b.correct) (by simp)
 have e6:=hz (iP a.value b.value) (by simp)
 have e5':a.correct=b.correct:=by unfold iP at e5;(repeat' split at e5)<;>omega
 have e6':a.value=b.value:=by unfold iP at e6;(repeat' split at e6)<;>omega
 obtain⟨a1,a2,a3,a4,a5,a6⟩:=a
 obtain⟨b1,b2,b3,b4,b5,b6⟩:=b
 simp only at e1 e2 e3 e4 e5' e6'
 rw[e1,e2,e3,e4,e5',e6']
noncomputable instance decLas (p:an) (q:aE) (s:aC) (l:Gn):Decidable (DJ p q s (jD q) l):=Classical.propDecidable _
theorem BE {p:an} {q:aE} {s:aC} {R:ay->Prop} {l:Gn} (h1:lQ p q s=0) (h2:q.kind=2) (h3:um p q s l.start) (h4:bN p s l.start (l.pre++l.loop)):
  DJ p q s R l↔((cE p (mD p l) l.loop).getD l.loop.length aX=mD p l/\(∀d∈cE p l.start (l.pre++l.loop),¬R d)/\ph p s (cE p (mD p l) l.loop) l.loop):=by
 have h5:=j7.1 h4
 constructor
 ·rintro⟨_,_,_,_,a,b⟩
  refine⟨b.back,fun d hd=>?_,b.free⟩
  rw[nm,List.mem_append] at hd
  rcases hd with hd|hd
  ·exact a d hd
  ·exact b.not d (List.mem_cons_of_mem _ hd)
 ·rintro⟨a,b,c⟩
  refine⟨h1,h2,h3,h5.1,fun d hd=>b d (by rw[nm];exact List.mem_append_left _ hd),⟨h5.2,a,fun d hd=>?_,c⟩⟩
  rcases List.mem_cons.1 hd with rfl|hd
  ·refine b _ ?_
   rw[nm]
   refine List.mem_append_left _ (iw aX ?_)
   rw[fm];omega
  ·exact b d (by rw[nm];exact List.mem_append_right _ hd)
theorem BF (p:an) (q:aE) (s:aC) (l:Gn) (hp:¬cp p) (hq:¬iX q) (hw:bh l.start=false) (hl1:l.pre.length<=400) (hl2:l.loop.length<=400) (ht:c9 p):ab Tryz.prog 23 [.agg (aB p), .agg (cJ q), .agg (bv s), .agg (Hw l)] (fun u=>u= .bool (decide (DJ p q s (jD q) l))):=by
 refine ab.intro ac ae Tryz.func23 rfl (by decide) ?_;(conv=>whnf)
 refine ak rfl ?_
 conv=>whnf
 refine ak rfl ?_
 conv=>whnf
 refine ak rfl ?_
 conv=>whnf
 refine ak rfl ?_
 conv=>whnf
 (refine oP (yn p q s hp hq) ?_;conv=>whnf)
 refine ag ?_ ?_<;>(intro h1;conv=>whnf)
 ·exact⟨al (fun h=>h1 h.1),rfl⟩
 refine ag ?_ ?_<;>(intro h2;conv=>whnf)
 ·exact⟨al (fun h=>h2 h.2.1),rfl⟩
 have h1':lQ p q s=0:=by omega
 have h2':q.kind=2:=by omega
 have hz:=wV h1'
 refine dC (vK p q s l.start hp hq hw hz.1 hz.2) (fun _=>?_) (fun _=>?_)<;>(conv=>whnf)
 case refine_2=>
  rename_i h3
  exact⟨al (fun h=>h3 h.2.2.1),rfl⟩
 rename_i h3
 have hR:=F3 hp hw hz.2 h3.1
 have hA:=DF p s l.start (l.pre++l.loop) hR ht (by rw[List.length_append];omega)
 refine we (by decide+kernel) ?_
 conv=>whnf
 refine nI ?_
 conv=>whnf
 refine bQ _ rfl (by dsimp only;omega) ?_
 conv=>whnf
 refine am.hand 39 rfl ?_
 by_cases h4:bN p s l.start (l.pre++l.loop)
 case neg=>
  obtain⟨e,he,hr⟩:=Bt (acc:=[l.start]) h4
  rw[hr] at hA
  (refine oP (hA) ?_;conv=>whnf)
  refine eI he ?_
  conv=>whnf
  exact⟨al (fun h=>h4 (j7.2 ⟨h.2.2.2.1,h.2.2.2.2.2.run⟩)),rfl⟩
 have hI:=BE (R:=jD q) h1' h2' h3 h4
 rw[Bs h4] at hA
 have hA':ab Tryz.prog 75 [.agg (aB p), .agg (bv s), .agg (bd l.start), .sl cH ef (l.pre++l.loop)] (fun u=>u=pC (cE p l.start (l.pre++l.loop)) 0):=hA
 have hlen:=fm p l.start (l.pre++l.loop)
 have hrdy:=i6 hR h4
 have hdrop:(cE p l.start (l.pre++l.loop)).drop l.pre.length=cE p (mD p l) l.loop:=BB l.pre l.loop l.start
 have hlen2:=fm p (mD p l) l.loop
 have hall:(∀d∈cE p l.start (l.pre++l.loop),¬jD q d)↔∀k,k<(cE p l.start (l.pre++l.loop)).length->¬jD q ((cE p l.start (l.pre++l.loop)).getD k aX):=by
  constructor
  ·exact fun h k hk=>h _ (iw aX hk)
  ·intro h d hd
   obtain⟨k,hk,rfl⟩:=mE aX hd
   exact h k hk
 have hrdy2:∀k,k<(cE p (mD p l) l.loop).length->dk p s ((cE p (mD p l) l.loop).getD k aX):=by
  intro k hk
  rw[<-hdrop,gD,List.getElem?_drop,<-gD]
  refine hrdy (l.pre.length+k) ?_
  rw[List.length_append];omega
 have hmid:(cE p (mD p l) l.loop).getD 0 aX=mD p l:=rfl
 rw[List.length_append] at hlen
 rw[List.length_append] at hrdy
 generalize cE p l.start (l.pre++l.loop)=A at hA' hlen hrdy hdrop hall hI
 generalize cE p (mD p l) l.loop=B at hdrop hlen2 hrdy2 hmid hI
 (refine oP (hA') ?_;conv=>whnf)
 refine fI ?_
 conv=>whnf
 refine nI ?_
 rw[tN,hdrop]
 conv=>whnf
 refine dI ?_
 conv=>whnf
 refine nI ?_
 conv=>whnf
 refine aI ?_
 conv=>whnf
 refine nI ?_
 conv=>whnf
 have hw0:=(hrdy2 0 (by omega)).wide
 rw[show((B.length:Int)-1).toNat=l.loop.length by omega]
 (refine oC (zI (B.getD 0 aX) (B.getD l.loop.length aX) hw0) ?_;conv=>whnf)
 refine ag ?_ ?_<;>(intro h5;conv=>whnf)
 ·exact⟨al (fun h=>h5 (by rw[(hI.1 h).1,hmid,xG])),rfl⟩
 have h5':B.getD l.loop.length aX=mD p l:=by rw[<-hmid];exact(yq (by omega)).symm
 refine aF.loopF ac ae (fun k:Nat=>k<=A.length/\∀j,j<k->¬jD q (A.getD j aX)) (fun k=>[(69, .int .i64 (k:Int)),(9, .top),(36, .top),(39, .top),(45, .top)]) (fun _=>[]) (fun k=>A.length-k) 0 ⟨by omega,fun j hj=>by omega⟩ ?_;conv=>whnf
 refine⟨sI,?_⟩
 rintro k ⟨hk,ha⟩
 conv=>whnf
 refine ag ?_ ?_<;>(intro g1;conv=>whnf)
 ·have hRk:=hrdy k (by omega)
  refine nI ?_
  conv=>whnf
  rw[tN]
  refine dC (tB q (A.getD k aX) hq hRk.wide hRk.plain.2) (fun _=>?_) (fun _=>?_)<;>(conv=>whnf)
  ·rename_i h6
   exact⟨al (fun h=>hall.1 (hI.1 h).2.1 k (by omega) h6),rfl⟩
  ·rename_i h6
   repeat' ((first|refine nI ?_|refine aI ?_|refine tI ?_|refine fI ?_|fail);conv=>whnf)
   refine⟨k+1,sI,⟨by omega,fun j hj=>?_⟩,by dsimp only;omega⟩
   by_cases e:j=k
   ·subst e;exact h6
   ·exact ha j (by omega)
 have hnr:=hall.2 fun j hj=>ha j (by omega)
 refine dC (yp p s B l.loop hp hR.sz hrdy2 (by omega) (by omega)) (fun _=>?_) (fun _=>?_)<;>(conv=>whnf)
 ·rename_i h7;exact⟨av (hI.2 ⟨h5',hnr,h7⟩),rfl⟩
 ·rename_i h7;exact⟨al (fun h=>h7 (hI.1 h).2.2),rfl⟩
end Go.Proofs.YtekmminpfhacpaaGreatDoor
