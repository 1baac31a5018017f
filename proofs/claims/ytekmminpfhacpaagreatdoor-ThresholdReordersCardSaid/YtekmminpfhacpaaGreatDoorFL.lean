import Derived.Test.YtekmminpfhacpaaGreatDoorFS
set_option linter.unusedVariables false
set_option linter.unusedSimpArgs false
namespace Go.Proofs.YtekmminpfhacpaaGreatDoor
set_option maxRecDepth 100000
set_option maxHeartbeats 16000000
def CN (p:an) (q:aG) (s:aJ) (r:Rn):Prop:=pT p q s=0/\q.kind=1/\CM p q s r.start/\ct p s r.start r.steps/\yR p q ((cY p r.start r.steps).getD r.steps.length aU)
noncomputable instance decVio (p:an) (q:aG) (s:aJ) (r:Rn):Decidable (CN p q s r):=Classical.propDecidable _
theorem Gp {p:an} {s:aJ} {c:az} (hp:¬dX p) (hw:bA c=false) (hz:cr p s=0) (hv:VC p s c):dx p s c:=
 dx.of hp hw (by
  have:pB p s c=0:=by unfold pB;rw[if_pos hv]
  unfold cF;rw[if_neg (by omega)];exact this)
theorem dx.plain {p:an} {s:aJ} {c:az} (h:dx p s c):Ex p c:=by
 have hv:=h.vc
 have hf:=h.sz
 have hl:=hv.len
 refine⟨hv.sta,by rw[hv.cor];omega,?_⟩
 rw[hv.cor,hl]
 unfold gk
 split<;>omega
theorem n7 (p:an) (q:aG) (s:aJ) (r:Rn) (hp:¬dX p) (hq:¬mK q) (hw:bA r.start=false) (hl:r.steps.length<=9000) (ht:dZ p):ab Tryz.prog 28 [.agg (aR p), .agg (df q), .agg (cq s), .agg (mA r)] (fun u=>u= .bool (decide (CN p q s r))):=by
 refine ab.intro ae ag Tryz.func28 rfl (by decide) ?_;(conv=>whnf)
 refine al rfl ?_
 conv=>whnf
 refine al rfl ?_
 conv=>whnf
 refine al rfl ?_
 conv=>whnf
 refine al rfl ?_
 conv=>whnf
 (refine oP (tG p q s hp hq) ?_;conv=>whnf)
 refine ah ?_ ?_<;>(intro h1;conv=>whnf)
 ·exact⟨au (fun h=>h1 h.1),rfl⟩
 refine ah ?_ ?_<;>(intro h2;conv=>whnf)
 ·exact⟨au (fun h=>h2 h.2.1),rfl⟩
 have hz:=A7 (p:=p) (q:=q) (s:=s) (by omega)
 refine dC (r6 p q s r.start hp hq hw hz.1 hz.2) (fun _=>?_) (fun _=>?_)<;>(conv=>whnf)
 case refine_2=>
  rename_i h3
  exact⟨au (fun h=>h3 h.2.2.1),rfl⟩
 rename_i h3
 have hR:=Gp hp hw hz.2 h3.1
 have hA:=vp p s r.start r.steps hR ht (by omega)
 by_cases h4:ct p s r.start r.steps
 case neg=>
  obtain⟨e,he,hr⟩:=A0 (acc:=[r.start]) h4
  rw[hr] at hA
  (refine oP (hA) ?_;conv=>whnf)
  refine dI ?_
  conv=>whnf
  refine fP he ?_
  conv=>whnf
  exact⟨au (fun h=>h4 h.2.2.2.1),rfl⟩
 rw[xC h4] at hA
 have hlen:=fM p r.start r.steps
 have hlast:=jb hR h4 r.steps.length (Nat.le_refl _)
 have hA':ab Tryz.prog 75 [.agg (aR p), .agg (cq s), .agg (aW r.start), .sl bI dG r.steps] (fun u=>u=vS (cY p r.start r.steps) 0):=hA
 have hvio:CN p q s r↔yR p q ((cY p r.start r.steps).getD r.steps.length aU):=⟨fun h=>h.2.2.2.2,fun h=>⟨by omega,by omega,h3,h4,h⟩⟩
 generalize cY p r.start r.steps=m at hlen hlast hA' hvio
 (refine oP (hA') ?_;conv=>whnf)
 refine dI ?_
 conv=>whnf
 refine cC rfl ?_
 conv=>whnf
 refine aI ?_
 conv=>whnf
 refine nI ?_
 rw[show((m.length:Int)-1).toNat=r.steps.length by omega]
 conv=>whnf
 generalize m.getD r.steps.length aU=d at hlast hvio
 refine dD (NR p q d hp hq hlast.wide hlast.plain (HX hz.1 (by omega))) (fun _=>?_) (fun _=>?_)<;>(conv=>whnf)
 ·rename_i h5;exact⟨aH (hvio.2 h5),rfl⟩
 ·rename_i h5;exact⟨au (fun h=>h5 (hvio.1 h)),rfl⟩
theorem jM {p:an} {s:aJ}:∀{a b:List bH} {c:az},ct p s c (a++b)↔ct p s c a/\ct p s ((cY p c a).getD a.length aU) b
 |[],b,c=>by simp[ct,cY,tr]
 |x::a,b,c=>by
  have ih:=jM (p:=p) (s:=s) (a:=a) (b:=b) (c:=eD c (ce p x) x)
  simp only[List.cons_append,ct,ih]
  constructor
  ·rintro⟨h1,h2,h3,h4⟩;exact⟨⟨h1,h2,h3⟩,h4⟩
  ·rintro⟨⟨h1,h2,h3⟩,h4⟩;exact⟨h1,h2,h3,h4⟩
theorem Gq {p:an}:∀(a b:List bH) (c:az),tr p c (a++b)=tr p c a++tr p ((cY p c a).getD a.length aU) b
 |[],b,c=>rfl
 |x::a,b,c=>by
  have ih:=Gq (p:=p) a b (eD c (ce p x) x)
  simp only[List.cons_append,tr,ih]
  rfl
theorem qn {p:an} (a b:List bH) (c:az):cY p c (a++b)=cY p c a++tr p ((cY p c a).getD a.length aU) b:=by
 unfold cY;rw[Gq];rfl
theorem A8 {p:an} (a b:List bH) (c:az):(cY p c (a++b)).getD (a++b).length aU=(cY p ((cY p c a).getD a.length aU) b).getD b.length aU:=by
 induction a generalizing c with
 |nil=>rfl
 |cons x a ih=>exact ih (eD c (ce p x) x)
theorem Gr {p:an} (a b:List bH) (c:az):(cY p c (a++b)).drop a.length=cY p ((cY p c a).getD a.length aU) b:=by
 induction a generalizing c with
 |nil=>rfl
 |cons x a ih=>exact ih (eD c (ce p x) x)
structure Mi where
 start:az
 pre:List bH
 loop:List bH
def Np (l:Mi):List AV:=aW l.start++[.sl bI dG l.pre, .sl bI dG l.loop]
def pl (p:an) (l:Mi):az:=(cY p l.start l.pre).getD l.pre.length aU
def n9 (p:an) (s:aJ) (b:List az) (loop:List bH) (r i:Int):Prop:=(∃x∈loop,x.rule=r/\x.process=i)\/∃d∈b,¬JT p s d r i
structure LT (p:an) (q:aG) (s:aJ) (R:az->Prop) (m:az) (loop:List bH):Prop where
 run:ct p s m loop
 back:(cY p m loop).getD loop.length aU=m
 not:∀d∈cY p m loop,¬R d
 free:∀r i:Nat,r<p.rules.length->(i:Int)<s.n-s.f->n9 p s (cY p m loop) loop r i
theorem kx {p:an} {c:az} {l:List bH}:c∈cY p c l:=List.mem_cons_self
def CO (p:an) (q:aG) (s:aJ) (R:az->Prop) (l:Mi):Prop:=pT p q s=0/\q.kind=2/\CM p q s l.start/\ct p s l.start l.pre/\(∀d∈cY p l.start l.pre,¬R d)/\LT p q s R (pl p l) l.loop
def x6 (r k:Nat):List (Int×Int):=(List.range k).map fun i:Nat=>((r:Int),(i:Int))
def mW (m k:Nat):List (Int×Int):=(List.range k).flatMap fun r=>x6 r m
theorem LU (r k:Nat):x6 r (k+1)=x6 r k++[((r:Int),(k:Int))]:=by simp[x6,List.range_succ]
theorem Gs (m k:Nat):mW m (k+1)=mW m k++x6 k m:=by simp[mW,List.range_succ,List.flatMap_append]
theorem A9 (r k:Nat):(x6 r k).length=k:=by simp[x6]
theorem vt (m:Nat):∀k,(mW m k).length=k*m
 |0=>by simp[mW]
 |k+1=>by rw[Gs,List.length_append,A9,vt m k,Nat.add_mul,Nat.one_mul]
theorem A' {m k:Nat} {a:Int×Int}:a∈mW m k↔∃r i:Nat,r<k/\i<m/\a=((r:Int),(i:Int)):=by
 simp only[mW,x6,List.mem_flatMap,List.mem_map,List.mem_range]
 constructor
 ·rintro⟨r,hr,i,hi,rfl⟩;exact⟨r,i,hr,hi,rfl⟩
 ·rintro⟨r,i,hr,hi,rfl⟩;exact⟨r,hr,i,hi,rfl⟩
def I3 (k:Int×Int):List AV:=[.int .i64 k.1, .int .i64 k.2]
def Nq (l:List (Int×Int)):cp:=.row 245 (0,0) I3 l
theorem LV (p:an) (s:aJ) (hp:¬dX p) (hs:(1<=s.n/\s.n<=8)/\(0<=s.f/\s.f<=s.n)):ab Tryz.prog 168 [.agg (aR p), .agg (cq s)] (fun u=>u= .sl (0,0) I3 (mW (s.n-s.f).toNat p.rules.length)):=by
 have hle:=bL hp
 have hm:(s.n-s.f).toNat<=8:=by omega
 have hA:=vt (s.n-s.f).toNat
 refine ab.intro ae ag Tryz.func168 rfl (by decide) ?_;(conv=>whnf)
 refine al rfl ?_
 conv=>whnf
 refine al rfl ?_
 conv=>whnf
 refine aQ.loopF ae ag (fun k1:Nat=>k1<=p.rules.length) (fun k1=>[(11, .int .i64 (k1:Int)),(5, .row 1000 (mW (s.n-s.f).toNat k1).length 2)]) (fun k1=>[(1000,Nq (mW (s.n-s.f).toNat k1))]) (fun k1=>p.rules.length-k1) 0 (Nat.zero_le _) ?_;conv=>whnf
 refine⟨bn.by_ [(1000, .nil 2)] _ 400 rfl (aa) (aa),?_⟩
 rintro k1 hk1
 conv=>whnf
 refine ah ?_ ?_<;>(intro g1;conv=>whnf)
 ·refine aI ?_
  conv=>whnf
  have hk8:(mW (s.n-s.f).toNat k1).length<=8000:=by
   rw[hA]
   have:=Nat.mul_le_mul (show k1<=1000 by omega) hm
   omega
  have e0:mW (s.n-s.f).toNat k1++x6 k1 0=mW (s.n-s.f).toNat k1:=by simp[x6]
  refine aQ.loopF ae ag (fun k2:Nat=>k2<=(s.n-s.f).toNat) (fun k2=>[(19, .int .i64 (k2:Int)),(5, .row 1000 (mW (s.n-s.f).toNat k1++x6 k1 k2).length 2)]) (fun k2=>[(1000,Nq (mW (s.n-s.f).toNat k1++x6 k1 k2))]) (fun k2=>(s.n-s.f).toNat-k2) 0 (Nat.zero_le _) ?_;conv=>whnf
  refine⟨by rw[e0];exact sI,?_⟩
  rintro k2 hk2
  conv=>whnf
  refine ah ?_ ?_<;>(intro g2;conv=>whnf)
  ·have hll:(mW (s.n-s.f).toNat k1++x6 k1 k2).length<=1000000:=by rw[List.length_append,A9];omega
   refine cf (0,0) I3 [((k1:Int),(k2:Int))] rfl ?_
   conv=>whnf
   refine cz [((k1:Int),(k2:Int))] rfl lI ?_
   conv=>whnf
   repeat' ((first|refine nI ?_|refine aI ?_|refine tI ?_|refine fI ?_|fail);conv=>whnf)
   have e3:mW (s.n-s.f).toNat k1++x6 k1 (k2+1)=mW (s.n-s.f).toNat k1++x6 k1 k2++[((k1:Int),(k2:Int))]:=by rw[LU,<-List.append_assoc]
   refine⟨k2+1,?_,by omega,by dsimp only;omega⟩
   dsimp only
   rw[e3]
   exact bn.by_ [(1000, .old 27)] _ 400 rfl (aa) (aa)
  ·have ek:k2=(s.n-s.f).toNat:=by omega
   have e2:mW (s.n-s.f).toNat (k1+1)=mW (s.n-s.f).toNat k1++x6 k1 k2:=by rw[ek,Gs]
   repeat' ((first|refine nI ?_|refine aI ?_|refine tI ?_|refine fI ?_|fail);conv=>whnf)
   refine⟨k1+1,?_,by omega,by dsimp only;omega⟩
   dsimp only
   rw[e2]
   exact sI
 ·obtain rfl:k1=p.rules.length:=by omega
  exact⟨rfl,rfl⟩
def Da (k:Int×Int):Value:=.agg #[.int .i64 k.1, .int .i64 k.2]
theorem Ba:kD Tryz.prog 245 Da:=by
 have ht:Tryz.prog.underlying 3=some (.int .i64):=Tryz.underlying3
 have hag:∀w,(isAgg 3).run Tryz.prog w= .ok false w:=fun w=>by simp[isAgg,run_underlying ht]
 have hag2:∀w,(isAgg 245).run Tryz.prog w= .ok true w:=fun w=>by simp[isAgg,run_underlying Tryz.underlying245]
 refine kD.ask Tryz.underlying245 ?_ ?_ ?_ ?_ ?_
 ·rintro⟨a,b⟩ ⟨c,d⟩ h
  simpa[Da] using h
 ·rintro e ⟨a,b⟩ w
  have h4:∀n w,(Instr.checkKey e (n+2) 245 (Da (a,b))).run Tryz.prog w= .ok () w:=fun n w=>by
   simp[Instr.checkKey,run_underlying Tryz.underlying245,run_underlying ht,Da,part,hag]
  exact h4 9998 w
 ·intro a b;rfl
 ·rintro⟨a,b⟩ ⟨c,d⟩ w
  obtain⟨p,q,e1,e2,e3⟩:=zM (P:=Tryz.prog) w 9 245 2 (by decide+kernel) 9991 #[.int .i64 a, .int .i64 b] #[.int .i64 c, .int .i64 d] 0 [a,b] [c,d] rfl rfl
   (fun j x hj=>by rw[Nat.zero_add];match j,hj with|0,hj=>cases hj;rfl|1,hj=>cases hj;rfl) (fun j x hj=>by rw[Nat.zero_add];match j,hj with|0,hj=>cases hj;rfl|1,hj=>cases hj;rfl)
  have hsz:(Go.sizeOf 245).run Tryz.prog w= .ok 2 w:=by
   obtain⟨i,hi⟩:∃i,tt.find 245=some i:=⟨_,rfl⟩
   have:=TOk.size ae hi w
   cases hi
   exact this
  simp[part,hag2,hsz] at e1 e2
  subst e1;subst e2
  refine⟨_,e3,?_⟩
  simp[Da]
 ·rintro⟨a,b⟩
  have h4:∀n,Instr.sameBits (n+1) (Da (a,b)) (Da (a,b))=true:=fun n=>by simp[Da,Instr.sameBits]
  exact h4 9999
structure LW (l:List bH) (f:Int×Int->Option Bool):Prop where
 yes:∀a b,f a=some b->b=true/\∃x∈l,(x.rule,x.process)=a
 no:∀a,f a=none->∀x∈l,(x.rule,x.process)≠a
theorem LW.nil:LW [] (fun _=>none):=⟨fun _ _ h=>(by cases h),fun _ _ x hx=>absurd hx List.not_mem_nil⟩
theorem LW.up {l:List bH} {k:Nat} {f:Int×Int->Option Bool} (h:LW (l.take k) f) (hk:k<l.length):LW (l.take (k+1)) (qE f ((l.getD k bI).rule,(l.getD k bI).process) true):=by
 have e:l.getD k bI=l[k]:=by rw[gD,gL hk];rfl
 rw[List.take_succ_eq_append_getElem hk,e]
 refine⟨fun a b hb=>?_,fun a ha x hx=>?_⟩
 ·by_cases c:a=(l[k].rule,l[k].process)
  ·subst c
   rw[gf] at hb
   cases hb
   exact⟨rfl,l[k],List.mem_append_right _ List.mem_cons_self,rfl⟩
  ·rw[iW _ _ c] at hb
   obtain⟨h1,x,hx,hh⟩:=h.yes a b hb
   exact⟨h1,x,List.mem_append_left _ hx,hh⟩
 ·have c:a≠(l[k].rule,l[k].process):=fun c=>by subst c;rw[gf] at ha;cases ha
  rw[iW _ _ c] at ha
  rcases List.mem_append.1 hx with hx|hx
  ·exact h.no a ha x hx
  ·rw[List.mem_singleton] at hx;subst hx;exact fun e=>c e.symm
def r7 (p:an) (s:aJ) (b:List az) (loop:List bH):Prop:=∀r i:Nat,r<p.rules.length->(i:Int)<s.n-s.f->n9 p s b loop r i
noncomputable instance decFair (p:an) (s:aJ) (b:List az) (loop:List bH):Decidable (r7 p s b loop):=Classical.propDecidable _
theorem CP {p:an} {s:aJ} {b:List az} {loop:List bH} (h:∀a∈mW (s.n-s.f).toNat p.rules.length,n9 p s b loop a.1 a.2):r7 p s b loop:=
 fun r i hr hi=>h ((r:Int),(i:Int)) (A'.2 ⟨r,i,hr,by omega,rfl⟩)
theorem Gt {p:an} {s:aJ} {b:List az} {loop:List bH} (h:r7 p s b loop) {a:Int×Int} (ha:a∈mW (s.n-s.f).toNat p.rules.length):n9 p s b loop a.1 a.2:=by
 obtain⟨r,i,hr,hi,rfl⟩:=A'.1 ha
 exact h r i hr (by omega)
theorem mb {α:Type} (d:α) {l:List α} {k:Nat} (h:k<l.length):l.getD k d∈l:=by
 rw[gD,gL h];exact List.getElem_mem h
theorem pm {α:Type} (d:α) {l:List α} {a:α} (h:a∈l):∃k,k<l.length/\l.getD k d=a:=by
 obtain⟨k,hk,rfl⟩:=List.getElem_of_mem h
 exact⟨k,hk,by rw[gD,gL hk];rfl⟩
theorem CQ (p:an) (s:aJ) (b:List az) (loop:List bH) (hp:¬dX p) (hs:(1<=s.n/\s.n<=8)/\(0<=s.f/\s.f<=s.n)) (hb:∀k,k<b.length->dx p s (b.getD k aU)) (hbl:b.length<=100000) (hll:loop.length<=100000):
  ab Tryz.prog 77 [.agg (aR p), .agg (cq s), .sl aU aW b, .sl bI dG loop] (fun u=>u= .bool (decide (r7 p s b loop))):=by
 have hle:=bL hp
 have hal:(mW (s.n-s.f).toNat p.rules.length).length<=8000:=by
  rw[vt]
  have:=Nat.mul_le_mul (show p.rules.length<=1000 by omega) (show(s.n-s.f).toNat<=8 by omega)
  omega
 refine ab.intro ae ag Tryz.func77 rfl (by decide) ?_;(conv=>whnf)
 refine al rfl ?_
 conv=>whnf
 refine al rfl ?_
 conv=>whnf
 refine wj Da Value.bool ?_
 conv=>whnf
 refine aQ.loopF ae ag (fun x:Nat×(Int×Int->Option Bool)=>x.1<=loop.length/\LW (loop.take x.1) x.2) (fun x=>[(20, .int .i64 (x.1:Int))]) (fun x=>[(17, .map Da Value.bool x.2)]) (fun x=>loop.length-x.1) (0,fun _=>none) ⟨Nat.zero_le _,LW.nil⟩ ?_;conv=>whnf
 refine⟨sI,?_⟩
 rintro⟨k,f⟩ ⟨hk,hf⟩
 dsimp only at hk hf
 conv=>whnf
 refine ah ?_ ?_<;>(intro g1;conv=>whnf)
 ·refine nI ?_
  conv=>whnf
  rw[tN]
  refine wm Ba ((loop.getD k bI).rule,(loop.getD k bI).process) true rfl rfl ?_
  conv=>whnf
  repeat' ((first|refine nI ?_|refine aI ?_|refine tI ?_|refine fI ?_|fail);conv=>whnf)
  exact⟨(k+1,qE f ((loop.getD k bI).rule,(loop.getD k bI).process) true),sI,⟨by dsimp only;omega,hf.up (by omega)⟩,by dsimp only;omega⟩
 have hk':k=loop.length:=by omega
 rw[hk',List.take_length] at hf
 clear hk hk' g1
 (refine oP (LV p s hp hs) ?_;conv=>whnf)
 have hmem:∀j,j<(mW (s.n-s.f).toNat p.rules.length).length->(r7 p s b loop->n9 p s b loop ((mW (s.n-s.f).toNat p.rules.length).getD j (0,0)).1 ((mW (s.n-s.f).toNat p.rules.length).getD j (0,0)).2):=fun j hj h=>Gt h (mb (0,0) hj)
 have hall:(∀j,j<(mW (s.n-s.f).toNat p.rules.length).length->n9 p s b loop ((mW (s.n-s.f).toNat p.rules.length).getD j (0,0)).1 ((mW (s.n-s.f).toNat p.rules.length).getD j (0,0)).2)->r7 p s b loop:=fun h=>CP fun a ha=>by
  obtain⟨j,hj,rfl⟩:=pm (0,0) ha
  exact h j hj
 generalize mW (s.n-s.f).toNat p.rules.length=A at hal hmem hall
 refine aQ.loopF ae ag (fun j:Nat=>j<=A.length/\∀i,i<j->n9 p s b loop (A.getD i (0,0)).1 (A.getD i (0,0)).2) (fun j=>[(35, .int .i64 (j:Int))]) (fun _=>[(17, .map Da Value.bool f)]) (fun j=>A.length-j) 0 ⟨Nat.zero_le _,fun i hi=>by omega⟩ ?_;conv=>whnf
 refine⟨sI,?_⟩
 rintro j ⟨hj,ha⟩
 conv=>whnf
 refine ah ?_ ?_<;>(intro g2;conv=>whnf)
 case refine_2=>exact⟨aH (hall fun i hi=>ha i (by omega)),rfl⟩
 have hmj:=hmem j (by omega)
 refine nI ?_
 conv=>whnf
 rw[tN]
 have hnx:n9 p s b loop (A.getD j (0,0)).1 (A.getD j (0,0)).2->∀i,i<j+1->n9 p s b loop (A.getD i (0,0)).1 (A.getD i (0,0)).2:=fun h i hi=>by
  by_cases e:i=j
  ·subst e;exact h
  ·exact ha i (by omega)
 generalize A.getD j (0,0)=a at hmj hnx
 refine wk Ba a rfl (fun t ht=>?_) (fun hn=>?_)
 ·obtain⟨rfl,x,hx,hxa⟩:=hf.yes a t ht
  subst hxa
  conv=>whnf
  repeat' ((first|refine nI ?_|refine aI ?_|refine tI ?_|refine fI ?_|fail);conv=>whnf)
  exact⟨j+1,sI,⟨by omega,hnx (.inl ⟨x,hx,rfl,rfl⟩)⟩,by dsimp only;omega⟩
 have hnt:¬∃x∈loop,x.rule=a.1/\x.process=a.2:=by
  rintro⟨x,hx,h1,h2⟩
  exact hf.no a hn x hx (Prod.ext h1 h2)
 conv=>whnf
 refine aQ.loopF ae ag (fun y:Nat×Bool=>y.1<=b.length/\(y.2=true↔∀i,i<y.1->JT p s (b.getD i aU) a.1 a.2)) (fun y=>[(44, .int .i64 (y.1:Int)),(14, .bool y.2)]) (fun _=>[(13, .box 245 (I3 a)),(17, .map Da Value.bool f)]) (fun y=>b.length-y.1) (0,true) ⟨Nat.zero_le _,by simp⟩ ?_;conv=>whnf
 refine⟨sI,?_⟩
 rintro⟨k,t⟩ ⟨hk,hy⟩
 dsimp only at hk hy
 conv=>whnf
 refine ah ?_ ?_<;>(intro g3;conv=>whnf)
 ·refine nI ?_
  conv=>whnf
  rw[tN]
  have hR:=hb k (by omega)
  generalize hd:b.getD k aU=d at hR⊢
  cases t with
  |false=>
   refine dI ?_
   conv=>whnf
   repeat' ((first|refine nI ?_|refine aI ?_|refine tI ?_|refine fI ?_|fail);conv=>whnf)
   exact⟨(k+1,false),sI,⟨by dsimp only;omega,⟨fun h=>(by cases h),fun h=>hy.2 fun i hi=>h i (Nat.lt_succ_of_lt hi)⟩⟩,by dsimp only;omega⟩
  |true=>
   refine dI ?_
   conv=>whnf
   (refine oC (EE p s d hR.wide) ?_;conv=>whnf)
   refine dD (IP p s d a.1 a.2 hR) (fun _=>?_) (fun _=>?_)<;>(conv=>whnf)
   ·rename_i h4
    repeat' ((first|refine nI ?_|refine aI ?_|refine tI ?_|refine fI ?_|fail);conv=>whnf)
    exact⟨(k+1,true),sI,⟨by dsimp only;omega,⟨fun _ i hi=>by
     by_cases e:i=k
     ·subst e;rw[hd];exact h4
     ·exact hy.1 rfl i (by omega),fun _=>rfl⟩⟩,by dsimp only;omega⟩
   ·rename_i h4
    repeat' ((first|refine nI ?_|refine aI ?_|refine tI ?_|refine fI ?_|fail);conv=>whnf)
    exact⟨(k+1,false),sI,⟨by dsimp only;omega,⟨fun h=>(by cases h),fun h=>absurd (by have:=h k (Nat.lt_succ_self k);rwa [hd] at this) h4⟩⟩,by dsimp only;omega⟩
 ·have hkb:k=b.length:=by omega
  subst hkb
  cases t with
  |true=>
   conv=>whnf
   refine⟨au fun h=>?_,rfl⟩
   rcases hmj h with hx|⟨d,hdb,hnf⟩
   ·exact hnt hx
   ·obtain⟨i,hi,rfl⟩:=pm aU hdb
    exact hnf (hy.1 rfl i hi)
  |false=>
   conv=>whnf
   repeat' ((first|refine nI ?_|refine aI ?_|refine tI ?_|refine fI ?_|fail);conv=>whnf)
   have hfree:∃d∈b,¬JT p s d a.1 a.2:=Classical.byContradiction fun hno=>by
    have:=hy.2 fun i hi=>Classical.byContradiction fun hnf=>hno ⟨_,mb aU hi,hnf⟩
    cases this
   exact⟨j+1,sI,⟨by omega,hnx (.inr hfree)⟩,by dsimp only;omega⟩
theorem CS {a b:az} (h:HC a b=0):a=b:=by
 have hz:=bB h
 have e1:=i4 (hz (bZ a.shape b.shape) (by simp))
 have e2:=i4 (hz (bZ a.states b.states) (by simp))
 have e3:=i4 (hz (bZ a.sent b.sent) (by simp))
 have e4:=i4 (hz (bZ a.faulty b.faulty) (by simp))
 have e5:=hz (j8 a.correct b.correct) (by simp)
 have e6:=hz (j8 a.value b.value) (by simp)
 have e5':a.correct=b.correct:=by unfold j8 at e5;(repeat' split at e5)<;>omega
 have e6':a.value=b.value:=by unfold j8 at e6;(repeat' split at e6)<;>omega
 obtain⟨a1,a2,a3,a4,a5,a6⟩:=a
 obtain⟨b1,b2,b3,b4,b5,b6⟩:=b
 simp only at e1 e2 e3 e4 e5' e6'
 rw[e1,e2,e3,e4,e5',e6']
noncomputable instance decLas (p:an) (q:aG) (s:aJ) (l:Mi):Decidable (CO p q s (kJ q) l):=Classical.propDecidable _
theorem Gu {p:an} {q:aG} {s:aJ} {R:az->Prop} {l:Mi} (h1:pT p q s=0) (h2:q.kind=2) (h3:CM p q s l.start) (h4:ct p s l.start (l.pre++l.loop)):
  CO p q s R l↔((cY p (pl p l) l.loop).getD l.loop.length aU=pl p l/\(∀d∈cY p l.start (l.pre++l.loop),¬R d)/\r7 p s (cY p (pl p l) l.loop) l.loop):=by
 have h5:=jM.1 h4
 constructor
 ·rintro⟨_,_,_,_,a,b⟩
  refine⟨b.back,fun d hd=>?_,b.free⟩
  rw[qn,List.mem_append] at hd
  rcases hd with hd|hd
  ·exact a d hd
  ·exact b.not d (List.mem_cons_of_mem _ hd)
 ·rintro⟨a,b,c⟩
  refine⟨h1,h2,h3,h5.1,fun d hd=>b d (by rw[qn];exact List.mem_append_left _ hd),⟨h5.2,a,fun d hd=>?_,c⟩⟩
  rcases List.mem_cons.1 hd with rfl|hd
  ·refine b _ ?_
   rw[qn]
   refine List.mem_append_left _ (mb aU ?_)
   rw[fM];omega
  ·exact b d (by rw[qn];exact List.mem_append_right _ hd)
theorem xG (p:an) (q:aG) (s:aJ) (l:Mi) (hp:¬dX p) (hq:¬mK q) (hw:bA l.start=false) (hl1:l.pre.length<=400) (hl2:l.loop.length<=400) (ht:dZ p):ab Tryz.prog 23 [.agg (aR p), .agg (df q), .agg (cq s), .agg (Np l)] (fun u=>u= .bool (decide (CO p q s (kJ q) l))):=by
 refine ab.intro ae ag Tryz.func23 rfl (by decide) ?_;(conv=>whnf)
 refine al rfl ?_
 conv=>whnf
 refine al rfl ?_
 conv=>whnf
 refine al rfl ?_
 conv=>whnf
 refine al rfl ?_
 conv=>whnf
 (refine oP (tG p q s hp hq) ?_;conv=>whnf)
 refine ah ?_ ?_<;>(intro h1;conv=>whnf)
 ·exact⟨au (fun h=>h1 h.1),rfl⟩
 refine ah ?_ ?_<;>(intro h2;conv=>whnf)
 ·exact⟨au (fun h=>h2 h.2.1),rfl⟩
 have h1':pT p q s=0:=by omega
 have h2':q.kind=2:=by omega
 have hz:=A7 h1'
 refine dC (r6 p q s l.start hp hq hw hz.1 hz.2) (fun _=>?_) (fun _=>?_)<;>(conv=>whnf)
 case refine_2=>
  rename_i h3
  exact⟨au (fun h=>h3 h.2.2.1),rfl⟩
 rename_i h3
 have hR:=Gp hp hw hz.2 h3.1
 have hA:=vp p s l.start (l.pre++l.loop) hR ht (by rw[List.length_append];omega)
 refine Mu (by decide+kernel) ?_
 conv=>whnf
 refine nI ?_
 conv=>whnf
 refine cz _ rfl (by dsimp only;omega) ?_
 conv=>whnf
 refine am.hand 39 rfl ?_
 by_cases h4:ct p s l.start (l.pre++l.loop)
 case neg=>
  obtain⟨e,he,hr⟩:=A0 (acc:=[l.start]) h4
  rw[hr] at hA
  (refine oP (hA) ?_;conv=>whnf)
  refine cC he ?_
  conv=>whnf
  exact⟨au (fun h=>h4 (jM.2 ⟨h.2.2.2.1,h.2.2.2.2.2.run⟩)),rfl⟩
 have hI:=Gu (R:=kJ q) h1' h2' h3 h4
 rw[xC h4] at hA
 have hA':ab Tryz.prog 75 [.agg (aR p), .agg (cq s), .agg (aW l.start), .sl bI dG (l.pre++l.loop)] (fun u=>u=vS (cY p l.start (l.pre++l.loop)) 0):=hA
 have hlen:=fM p l.start (l.pre++l.loop)
 have hrdy:=jb hR h4
 have hdrop:(cY p l.start (l.pre++l.loop)).drop l.pre.length=cY p (pl p l) l.loop:=Gr l.pre l.loop l.start
 have hlen2:=fM p (pl p l) l.loop
 have hall:(∀d∈cY p l.start (l.pre++l.loop),¬kJ q d)↔∀k,k<(cY p l.start (l.pre++l.loop)).length->¬kJ q ((cY p l.start (l.pre++l.loop)).getD k aU):=by
  constructor
  ·exact fun h k hk=>h _ (mb aU hk)
  ·intro h d hd
   obtain⟨k,hk,rfl⟩:=pm aU hd
   exact h k hk
 have hrdy2:∀k,k<(cY p (pl p l) l.loop).length->dx p s ((cY p (pl p l) l.loop).getD k aU):=by
  intro k hk
  rw[<-hdrop,gD,List.getElem?_drop,<-gD]
  refine hrdy (l.pre.length+k) ?_
  rw[List.length_append];omega
 have hmid:(cY p (pl p l) l.loop).getD 0 aU=pl p l:=rfl
 rw[List.length_append] at hlen
 rw[List.length_append] at hrdy
 generalize cY p l.start (l.pre++l.loop)=A at hA' hlen hrdy hdrop hall hI
 generalize cY p (pl p l) l.loop=B at hdrop hlen2 hrdy2 hmid hI
 (refine oP (hA') ?_;conv=>whnf)
 refine fI ?_
 conv=>whnf
 refine nI ?_
 rw[tN,hdrop]
 conv=>whnf
 refine dI ?_
 conv=>whnf
 refine nI ?_
 conv=>whnf
 refine aI ?_
 conv=>whnf
 refine nI ?_
 conv=>whnf
 have hw0:=(hrdy2 0 (by omega)).wide
 rw[show((B.length:Int)-1).toNat=l.loop.length by omega]
 (refine oC (Ed (B.getD 0 aU) (B.getD l.loop.length aU) hw0) ?_;conv=>whnf)
 refine ah ?_ ?_<;>(intro h5;conv=>whnf)
 ·exact⟨au (fun h=>h5 (by rw[(hI.1 h).1,hmid,B7])),rfl⟩
 have h5':B.getD l.loop.length aU=pl p l:=by rw[<-hmid];exact(CS (by omega)).symm
 refine aQ.loopF ae ag (fun k:Nat=>k<=A.length/\∀j,j<k->¬kJ q (A.getD j aU)) (fun k=>[(69, .int .i64 (k:Int)),(9, .top),(36, .top),(39, .top),(45, .top)]) (fun _=>[]) (fun k=>A.length-k) 0 ⟨by omega,fun j hj=>by omega⟩ ?_;conv=>whnf
 refine⟨sI,?_⟩
 rintro k ⟨hk,ha⟩
 conv=>whnf
 refine ah ?_ ?_<;>(intro g1;conv=>whnf)
 ·have hRk:=hrdy k (by omega)
  refine nI ?_
  conv=>whnf
  rw[tN]
  refine dC (EA q (A.getD k aU) hq hRk.wide hRk.plain.2) (fun _=>?_) (fun _=>?_)<;>(conv=>whnf)
  ·rename_i h6
   exact⟨au (fun h=>hall.1 (hI.1 h).2.1 k (by omega) h6),rfl⟩
  ·rename_i h6
   repeat' ((first|refine nI ?_|refine aI ?_|refine tI ?_|refine fI ?_|fail);conv=>whnf)
   refine⟨k+1,sI,⟨by omega,fun j hj=>?_⟩,by dsimp only;omega⟩
   by_cases e:j=k
   ·subst e;exact h6
   ·exact ha j (by omega)
 have hnr:=hall.2 fun j hj=>ha j (by omega)
 refine dC (CQ p s B l.loop hp hR.sz hrdy2 (by omega) (by omega)) (fun _=>?_) (fun _=>?_)<;>(conv=>whnf)
 ·rename_i h7;exact⟨aH (hI.2 ⟨h5',hnr,h7⟩),rfl⟩
 ·rename_i h7;exact⟨au (fun h=>h7 (hI.1 h).2.2),rfl⟩
end Go.Proofs.YtekmminpfhacpaaGreatDoor
