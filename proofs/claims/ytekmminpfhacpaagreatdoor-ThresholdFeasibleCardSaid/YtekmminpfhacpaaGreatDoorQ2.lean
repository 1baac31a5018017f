import Derived.Test.YtekmminpfhacpaaGreatDoorG6
import Derived.Test.YtekmminpfhacpaaGreatDoorQ1
set_option linter.unusedVariables false
set_option linter.unusedSimpArgs false
namespace Go.Proofs.YtekmminpfhacpaaGreatDoor
section
set_option maxRecDepth 100000
set_option maxHeartbeats 32000000
def cR (n:Nat) (t:b7) (m:Nat) (bad:Int) (p:Nat) (a:List (Nat×Nat)):List (Nat×aU):=
 [(7001, .box 206 [.int .i64 n, .int .i64 t.den, .row 7002 t.bas.length 1, .row 7003 t.fre.length 1, .row 7004 m 1, .int .i64 bad]),(7002, .row 3 0 ak t.bas),(7003, .row 3 0 ak t.fre),
  (7004, .hdr 24 (fun k=>[.row (eW p a k) (n+1) 1]) m)]
def aO (n:Nat) (t:b7) (m:Nat) (bad:Int) (p:Nat) (a:List (Nat×Nat)) (E:List (Nat×aU)) (c:Nat->List Int):ac:=aY (cR n t m bad p a++E) (ij 3 (i4 p m a) c)
def c6:aV:=[(7001, .old 7001),(7002, .old 7002),(7003, .old 7003),(7004, .old 7004)]
def p9 (L:List (Nat×aU)):Bool:=L.all fun q=>Nat.blt q.1 7005
def xW (lm:aV):Bool:=lm.all fun q=>Nat.blt q.1 7005&&(match q.2 with| .old o=>Nat.blt o 7005| .nil _=>true)
def Pn:List (Nat×aU)->Prop
 |[]=>True
 |(_, .hdr _ _ _)::_=>False
 |_::r=>Pn r
theorem xX {E:List (Nat×aU)}:Pn E->∀ℓ t g m',(ℓ,aU.hdr t g m')∈E->False:=by
 induction E with
 |nil=>intro _ _ _ _ _ h;cases h
 |cons x r ih=>
  obtain⟨k,B⟩:=x
  intro h ℓ t g m' hm
  rcases List.mem_cons.1 hm with e|h2
  ·injection e with e1 e2
   subst e2
   exact h
  ·cases B<;>first|exact h.elim|exact ih h ℓ t g m' h2
theorem fx {lm:aV} (h:xW lm=true) {y o:Nat} (hy:al lm y=some (.old o)):o<7005:=by
 have:=List.all_eq_true.1 h _ (aQ hy)
 rw[Bool.and_eq_true] at this
 have:=this.2
 simp[Nat.blt] at this
 omega
theorem kP {lm:aV} (h:xW lm=true) {x:Nat} (hx:7005<=x):al lm x=none:=by
 refine NA (p:=7005) ?_ hx
 rw[List.all_eq_true]
 intro q hq
 have:=List.all_eq_true.1 h q hq
 rw[Bool.and_eq_true] at this
 exact this.1
def oE (p m:Nat) (a:List (Nat×Nat)):Prop:=Ny p m a/\9000<=p/\∀q∈a,8000<=q.1
theorem iX {p m:Nat} (h:9000<=p):oE p m []:=⟨trivial,h,fun q hq=>by cases hq⟩
theorem Aa {p m r:Nat} (h:9000<=p) (hr:r<m):oE p m [(8802,r)]:=by
 refine⟨⟨by omega,hr,(fun q hq=>by cases hq),trivial⟩,h,fun q hq=>?_⟩
 rcases List.mem_cons.1 hq with rfl|hq
 ·exact(by decide:8000<=8802)
 ·cases hq
theorem So {p m r i:Nat} (h:9000<=p) (hr:r<m) (hi:i<m) (hir:i≠r):oE p m [(8802,r),(8801,i)]:=by
 refine⟨⟨by omega,hr,fun q hq=>?_,by omega,hi,(fun q hq=>by cases hq),trivial⟩,h,fun q hq=>?_⟩
 ·rcases List.mem_cons.1 hq with rfl|hq
  ·exact⟨(by decide:8801≠8802),hir⟩
  ·cases hq
 ·rcases List.mem_cons.1 hq with rfl|hq
  ·exact(by decide:8000<=8802)
  ·rcases List.mem_cons.1 hq with rfl|hq
   ·exact(by decide:8000<=8801)
   ·cases hq
theorem oE.big {p m:Nat} {a:List (Nat×Nat)} (h:oE p m a) (k:Nat):8000<=eW p a k:=by
 rcases Nz (k:=k) h.1 with h1|⟨q,h1,h2,_⟩
 ·have:=h.2.1;omega
 ·rw[<-h2];exact h.2.2 q h1
theorem oE.key {p m:Nat} {a:List (Nat×Nat)} (h:oE p m a) {x k:Nat} (hx:i4 p m a x=some k):8000<=x:=by
 rcases Ks hx with h1|⟨q,h1,h2⟩
 ·have:=h.2.1;omega
 ·rw[<-h2];exact h.2.2 q h1
theorem dZ {L:List (Nat×aU)} (h:p9 L=true) {x:Nat} (hx:7005<=x):ac.ofL L x=none:=Kt h hx
theorem kQ {n:Nat} {t:b7} {m:Nat} {bad:Int} {p:Nat} {a:List (Nat×Nat)} {E:List (Nat×aU)} (hE:p9 E=true):p9 (cR n t m bad p a++E)=true:=by
 unfold p9 at*
 rw[List.all_append,hE]
 rfl
theorem db {n:Nat} {t:b7} {m:Nat} {bad:Int} {p:Nat} {a:List (Nat×Nat)} {E:List (Nat×aU)} {c:Nat->List Int} (hE:p9 E=true) (ha:oE p m a) {k:Nat} (hk:k<m):
  aO n t m bad p a E c (eW p a k)=some (.row 3 0 ak (c k)):=by
 unfold aO aY
 rw[dZ (kQ hE) (by have:=ha.big k;omega)]
 dsimp only
 unfold ij
 rw[lj ha.1 hk]
theorem jw {M:ac} {n m:Nat} {t:b7} {bad:Int} {p:Nat} {a:List (Nat×Nat)} {E:List (Nat×aU)} {c:Nat->List Int} (lmE:aV) (lab:Nat->Nat) (hw:oE p m a) (hE:p9 E=true) (hlE:xW lmE=true) (hEh:Pn E)
  (hs:(fe (c6++lmE) (cR n t m bad p a++E)&&ee (cR n t m bad p a++E) (c6++lmE))=true) (hm:qv (c6++lmE) 400 M (cR n t m bad p a++E))
  (hg:∃g,M 7004=some (.hdr 24 g m)/\∀k,k<m->g k=[.row (lab k) (n+1) 1]) (hrow:∀k,k<m->M (lab k)=some (.row 3 0 ak (c k)))
  (hlab:∀k k',k<m->k'<m->lab k=lab k'->k=k') (hfar:∀k,k<m->∀y,al (c6++lmE) y≠some (.old (lab k))):
  cp (bU (c6++lmE) fun x=>(i4 p m a x).map lab) M (aO n t m bad p a E c):=by
 have hlow:xW (c6++lmE)=true:=by
  unfold xW at*
  rw[List.all_append,hlE]
  rfl
 refine tu (c6++lmE) (cR n t m bad p a++E) 400 7004 24 3 (n+1) m c (i4 p m a) lab (eW p a) hs hm (fun ℓ t0 g m' hmem=>?_) rfl hg hrow (fun x k hx=>?_) (fun x y k hx hy=>?_) (fun k hk=>lj hw.1 hk) hlab (fun k hk y hy=>absurd hy (hfar k hk y))
 ·rcases List.mem_append.1 hmem with h|h
  ·unfold cR at h
   simp only[List.mem_cons,Prod.mk.injEq,List.not_mem_nil,or_false] at h
   rcases h with ⟨_,h⟩|⟨_,h⟩|⟨_,h⟩|⟨h1,h⟩
   ·cases h
   ·cases h
   ·cases h
   ·injection h with e1 e2 e3
    subst e1;subst e2;subst e3
    exact⟨h1,rfl,rfl,fun k _=>rfl⟩
  ·exact(xX hEh _ _ _ _ h).elim
 ·have:=hw.key hx
  exact⟨(bV hw.1 hx).1,kP hlow (by omega),dZ (kQ hE) (by omega)⟩
 ·rw[<-(bV hw.1 hx).2,(bV hw.1 hy).2]
theorem xY {M:ac} {fr fr':List AV} {D:List Nat} {n m:Nat} {t:b7} {bad:Int} {p:Nat} {a:List (Nat×Nat)} {E:List (Nat×aU)} {c:Nat->List Int} (lmE lmF:aV) (lab:Nat->Nat) (hw:oE p m a) (hE:p9 E=true) (hlE:xW lmE=true) (hEh:Pn E)
  (hs:(fe (c6++lmE) (cR n t m bad p a++E)&&ee (cR n t m bad p a++E) (c6++lmE))=true) (hm:qv (c6++lmE) 400 M (cR n t m bad p a++E))
  (hg:∃g,M 7004=some (.hdr 24 g m)/\∀k,k<m->g k=[.row (lab k) (n+1) 1]) (hrow:∀k,k<m->M (lab k)=some (.row 3 0 ak (c k)))
  (hlab:∀k k',k<m->k'<m->lab k=lab k'->k=k') (hfar:∀k,k<m->∀y,al (c6++lmE) y≠some (.old (lab k)))
  (hD:∀d∈D,al (c6++lmE) d=some (.old d)) (hlF:∀k y,al lmF k=some y->bU (c6++lmE) (fun x=>(i4 p m a x).map lab) k=some y) (hf:fV lmF 400 fr fr'):bd D fr M fr' (aO n t m bad p a E c):=
 bd.gen _ (jw lmE lab hw hE hlE hEh hs hm hg hrow hlab hfar) (fun d h=>ce d _ (hD d h)) (eI.by_ 400 hlF hf)
theorem L3 {n m:Nat} {t:b7} {bad:Int} {p:Nat} {a:List (Nat×Nat)} {E:List (Nat×aU)} {c:Nat->List Int} (hE:p9 E=true) (ha:oE p m a) {i:Nat} (hi:i<m) (l:List Int):
  (aO n t m bad p a E c).set (eW p a i) (.row 3 0 ak l)=aO n t m bad p a E (fun k=>if k=i then l else c k):=by
 funext x
 by_cases e:x=eW p a i
 ·subst e
  rw[ac.set_eq,db hE ha hi,if_pos rfl]
 ·rw[ac.set_ne _ _ e]
  unfold aO aY
  cases hL:ac.ofL (cR n t m bad p a++E) x with
  |some B=>rfl
  |none=>
   dsimp only
   unfold ij
   cases hσ:i4 p m a x with
   |none=>rfl
   |some k=>
    have h1:=bV ha.1 hσ
    have:k≠i:=fun h=>e (by rw[<-h1.2,h])
    dsimp only
    rw[if_neg this]
theorem rC {k:Nat} {y:LM} {b:aV}:∀{a:aV},al a k=some y->al (a++b) k=some y
 |(k1,z1)::a,h=>by
  rw[List.cons_append,al]
  rw[al] at h
  split
  ·rename_i hb;rw[hb] at h;exact h
  ·rename_i hb;rw[hb] at h;exact rC h
theorem Jj {u:AV} {k:AV->Prop} (h:k u):jd u k:=by rw[bH];exact h
theorem L4 {fr:List AV} {d:Option Tmp} {u:AV} {k:List AV->Prop} (h:k (b8 fr d u)):mm fr d u k:=by rw[eU];exact h
theorem B5 {P:Program} {tt:TT} {all r:List Oper} {fr:List AV} {M:ac} {K:List AV->ac->Prop} {t ty:TypeId} {ps:String} {af:Array Edge} {a b:Operand} {ℓ j:Nat} {v:Int} {rt:TypeId} {l:List Int} {i:TI}
  (ha:cC fr a= .rel ℓ j 0) (hb:cC fr b= .int .i64 v) (ht:tt.find t=some i) (hi:i.size=1) (hM:M ℓ=some (.row rt (0:Int) ak l)) (hk:cD P tt none all r fr (M.set ℓ (.row rt 0 ak (l.set j v))) K):
  cD P tt none all ({dst:=none,op:=.store t a b,type:=ty,pos:=ps,after:=af,guard:=none}::r) fr M K:=by
 simp only[cD]
 rw[bq]
 simp only[gv,aF,List.map_cons,List.map_nil,ha,hb,aZ,sM,dF,bv,ht,hi,d8,hM,b8]
 exact an v rfl hk
theorem B6 {P:Program} {tt:TT} {all r:List Oper} {fr:List AV} {M:ac} {K:List AV->ac->Prop} {t ty:TypeId} {ps:String} {af:Array Edge} {a b:Operand} {ℓ j:Nat} {x:AV} {cs:List AV} {rt:TypeId} {g:Nat->List AV} {m:Nat} {i:TI}
  (g':Nat->List AV) (ha:cC fr a= .rel ℓ j 0) (hb:cC fr b=x) (hc:bv x=some cs) (ht:tt.find t=some i) (hM:M ℓ=some (.hdr rt g m)) (h1:Nat.beq cs.length i.size=true) (h2:allOne cs=true) (h3:Nat.ble (0+cs.length) (g j).length=true)
  (hg:(fun k=>match Nat.beq k j with|true=>ew (g j) 0 cs|false=>g k)=g') (hk:cD P tt none all r fr (M.set ℓ (.hdr rt g' m)) K):
  cD P tt none all ({dst:=none,op:=.store t a b,type:=ty,pos:=ps,after:=af,guard:=none}::r) fr M K:=by
 simp only[cD]
 rw[bq]
 simp only[gv,aF,List.map_cons,List.map_nil,ha,hb,aZ,sM,hc,ht,hM,h1,h2,h3,b8]
 subst hg
 exact hk
theorem eQ {c:Prop} {u u':AV} {K:AV->Prop} (h:c) (e:u=u') (hk:jd u' K):iE c (jd u K):=by subst e;exact bp h hk
theorem nC {n m:Nat} {t:b7} {bad:Int} {p:Nat} {a:List (Nat×Nat)} {E:List (Nat×aU)} {c:Nat->List Int} (hE:p9 E=true) {x:Nat} (h1:7005<=x) (h2:x<p) (h3:Es a x=none):aO n t m bad p a E c x=none:=by
 unfold aO aY
 rw[dZ (kQ hE) h1]
 dsimp only
 unfold ij i4
 rw[h3]
 have:Nat.ble p x=false:=by
  cases h:Nat.ble p x with
  |false=>rfl
  |true=>have:=Nat.le_of_ble_eq_true h;omega
 rw[this]
 rfl
theorem qa {n m:Nat} {t:b7} {bad:Int} {p:Nat} {c:Nat->List Int} {x:Nat} (h:aO n t m bad p [] [] c x≠none):x∈[7001,7002,7003,7004]\/∃k,k<m/\x=p+k:=by
 unfold aO aY at h
 cases hL:ac.ofL (cR n t m bad p []++[]) x with
 |some B=>
  left
  have:=fy hL
  rw[List.append_nil] at this
  unfold cR at this
  simp only[List.mem_cons,Prod.mk.injEq,List.not_mem_nil,or_false] at this⊢
  rcases this with ⟨h,_⟩|⟨h,_⟩|⟨h,_⟩|⟨h,_⟩<;>simp[h]
 |none=>
  right
  rw[hL] at h
  dsimp only at h
  unfold ij at h
  cases hσ:i4 p m [] x with
  |none=>rw[hσ] at h;exact absurd rfl h
  |some k=>
   have:=bV (a:=[]) trivial hσ
   exact⟨k,this.1,this.2.symm⟩
theorem Po {P:Program} {tt:TT} {D:List Nat} {c:Code} {fr:List AV} {M M':ac} {Q:dy} (hs:bd D fr M fr M') (h:bO P tt D c fr M' Q):CC P tt D c fr M Q:=NB hs h
theorem Jk {n m:Nat} {t:b7} {bad:Int} {r:Nat} {c:Nat->List Int} (hr:r<m) {M:ac} {fr fr':List AV} {l:List Int} (h1:qv (c6++[(141, .old 141)]) 400 M (cR n t m bad 20000 [(8802,r)]++[(141, .row 3 0 ak l)])) (h2:∃g,M 7004=some (.hdr 24 g m)/\∀k,k<m->g k=[.row (eW 20000 [(8802,r)] k) (n+1) 1])
  (h3:∀k,k<m->M (eW 20000 [(8802,r)] k)=some (.row 3 0 ak (c k))) (h4:fV (c6++[(141, .old 141),(8802, .old 8802)]) 400 fr fr'):
  bd [7001,7002,7003,7004] fr M fr' (aO n t m bad 20000 [(8802,r)] [(141, .row 3 0 ak l)] c):=by
 have f1:=Aa (p:=20000) (m:=m) (by decide) hr
 have lr:eW 20000 [(8802,r)] r=8802:=by rw[eW,Nat.beq_refl]
 have e1:∀k k',k<m->k'<m->eW 20000 [(8802,r)] k=eW 20000 [(8802,r)] k'->k=k':=fun k k' h h' e=>ph f1.1 h h' e
 have e2:∀k,k<m->∀y,al (c6++[(141, .old 141)]) y≠some (.old (eW 20000 [(8802,r)] k)):=by
  intro k hk y hy
  have:=fx (lm:=c6++[(141, .old 141)]) rfl hy
  have:=f1.big k
  omega
 have e3:∀d∈[7001,7002,7003,7004],al (c6++[(141, .old 141)]) d=some (.old d):=by
  intro d hd
  simp only[List.mem_cons,List.not_mem_nil,or_false] at hd
  rcases hd with rfl|rfl|rfl|rfl<;>rfl
 have e4:∀q∈[(141,LM.old 141),(8802,LM.old 8802)],bU (c6++[(141, .old 141)]) (fun x=>(i4 20000 m [(8802,r)] x).map (eW 20000 [(8802,r)])) q.1=some q.2:=by
  intro q hq
  simp only[List.mem_cons,List.not_mem_nil,or_false] at hq
  rcases hq with rfl|rfl
  ·exact ce _ _ rfl
  ·refine f9 rfl ?_
   show(some r).map (eW 20000 [(8802,r)])=some 8802
   rw[Option.map_some,lr]
 have e5:∀k y,al (c6++[(141, .old 141),(8802, .old 8802)]) k=some y->bU (c6++[(141, .old 141)]) (fun x=>(i4 20000 m [(8802,r)] x).map (eW 20000 [(8802,r)])) k=some y:=
  tq (fun k y h=>ce k y (rC h)) e4
 have g1:p9 [(141,aU.row 3 0 ak l)]=true:=rfl
 have g2:xW [(141,LM.old 141)]=true:=rfl
 have g3:Pn [(141,aU.row 3 0 ak l)]:=trivial
 have g4:(fe (c6++[(141, .old 141)]) (cR n t m bad 20000 [(8802,r)]++[(141, .row 3 0 ak l)])&&ee (cR n t m bad 20000 [(8802,r)]++[(141, .row 3 0 ak l)]) (c6++[(141, .old 141)]))=true:=rfl
 have q1:=xY (M:=M) (fr:=fr) (fr':=fr') (D:=[7001,7002,7003,7004]) (n:=n) (m:=m) (t:=t) (bad:=bad) (p:=20000) (a:=[(8802,r)]) (E:=[(141, .row 3 0 ak l)]) (c:=c) [(141, .old 141)] (c6++[(141, .old 141),(8802, .old 8802)]) (eW 20000 [(8802,r)]) f1 g1 g2 g3
 have q2:=q1 g4
 have q3:=q2 h1
 have q4:=q3 h2 h3 e1
 have q5:=q4 e2 e3
 have q6:=q5 e5
 exact q6 h4
theorem mY {n m:Nat} {t:b7} {bad:Int} {p:Nat} {a a':List (Nat×Nat)} {c:Nat->List Int} {fr fr':List AV} (ha:oE p m a) (ha':oE p m a') (lmX:aV) (hX:∀q∈lmX,bU (c6++[]) (fun x=>(i4 p m a' x).map (eW p a)) q.1=some q.2)
  (hf:fV (c6++lmX) 400 fr fr'):bd [7001,7002,7003,7004] fr (aO n t m bad p a [] c) fr' (aO n t m bad p a' [] c):=by
 refine xY (lmE:=[]) (c6++lmX) (eW p a) ha' rfl rfl trivial rfl (aa) ⟨_,rfl,fun k _=>rfl⟩ (fun k hk=>db rfl ha hk) (fun k k' h h' e=>ph ha.1 h h' e)
  (fun k hk y hy=>by have:=fx (lm:=c6++[]) rfl hy;have:=ha.big k;omega) (fun d hd=>?_) (tq (fun k y h=>ce k y (by rw[List.append_nil];exact h)) hX) hf
 simp only[List.mem_cons,List.not_mem_nil,or_false] at hd
 rcases hd with rfl|rfl|rfl|rfl<;>rfl
set_option maxHeartbeats 64000000
structure oF (n m:Nat) (t:b7):Prop where
 bl:t.bas.length=m
 fl:t.fre.length=n
 cm:t.cel.length=m
 cn:∀i,i<m->(t.cel.getD i []).length=n+1
 dp:0<t.den/\t.den<=1073741824
 cb:∀i j,i<m->j<n+1->ct (cl t i j)
def aK (t:b7) (k:Nat):List Int:=t.cel.getD k []
structure mZ (M:ac) (n m:Nat) (t:b7) (bad:Int) (lab:Nat->Nat):Prop where
 box:M 7001=some (.box 206 [.int .i64 n, .int .i64 t.den, .row 7002 t.bas.length 1, .row 7003 t.fre.length 1, .row 7004 m 1, .int .i64 bad])
 bas:M 7002=some (.row 3 0 ak t.bas)
 fre:M 7003=some (.row 3 0 ak t.fre)
 hdr:∃g,M 7004=some (.hdr 24 g m)/\∀k,k<m->g k=[.row (lab k) (n+1) 1]
 row:∀k,k<m->M (lab k)=some (.row 3 0 ak (aK t k))
 inj:∀k k',k<m->k'<m->lab k=lab k'->k=k'
 far:∀k,k<m->lab k<7001\/7005<=lab k
def uk (M:ac) (m:Nat):Prop:=M 7001≠none/\M 7002≠none/\M 7003≠none/\M 7004≠none/\∀k,k<m->M (9000+k)=some .dead
def og (n:Nat) (t:b7) (r s i:Nat) (k:Nat):List Int:=if k<i/\k≠r then(List.range (n+1)).map (l9 t r s k) else aK t k
theorem Jl (n:Nat) (t:b7) (r s:Nat):og n t r s 0=aK t:=by
 funext k
 unfold og
 rw[if_neg (by omega)]
theorem Jm (n:Nat) (t:b7) (r s i:Nat):og n t r s i r=aK t r:=by
 unfold og
 rw[if_neg (by omega)]
theorem Q0 (n:Nat) (t:b7) (r s i:Nat):og n t r s i i=aK t i:=by
 unfold og
 rw[if_neg (by omega)]
theorem Jn (n:Nat) (t:b7) (r s:Nat):og n t r s (r+1)=og n t r s r:=by
 funext k
 unfold og
 by_cases h:k<r/\k≠r
 ·rw[if_pos h,if_pos (by omega)]
 ·rw[if_neg h,if_neg (by omega)]
def rD (n:Nat) (t:b7) (r s i j:Nat) (k:Nat):List Int:=if k=i then c9 (n+1) (aK t i) (l9 t r s i) j else og n t r s i k
theorem Ab (n:Nat) (t:b7) (r s i j:Nat):rD n t r s i j i=c9 (n+1) (aK t i) (l9 t r s i) j:=if_pos rfl
theorem Q1 {n:Nat} {t:b7} {r s i j:Nat} (h:i≠r):rD n t r s i j r=aK t r:=by
 unfold rD
 rw[if_neg (fun e=>h e.symm),Jm]
theorem xZ {n:Nat} {c:List Int} {f:Nat->Int} {i j:Nat} (h:i<n) (hj:i<j):(c9 n c f j).getD i 0=f i:=by
 rw[am 0 (by rw[eN];exact h)]
 simp only[c9,List.getElem_map,List.getElem_range]
 rw[if_pos hj]
theorem Jo {a b:Int} (ha:ct a) (hb:ct b):-1152921504606846976<=a*b/\a*b<=1152921504606846976:=by
 unfold ct at ha hb
 have h1:(a*b).natAbs<=1073741824*1073741824:=by
  rw[Int.natAbs_mul]
  exact Nat.mul_le_mul (by omega) (by omega)
 omega
theorem sv {n m:Nat} {t:b7} {bad:Int} {M:ac} (hm:m<=10000) (h0:∀k,k<m->M (9000+k)=none) (h1:M 7001≠none) (h2:M 7002≠none) (h3:M 7003≠none) (h4:M 7004≠none):
  (∀x,aO n t m bad 9000 [] [] (aK t) x≠none->x∉[7001,7002,7003,7004]->M x=none)/\uk (dz (aO n t m bad 9000 [] [] (aK t)) [7001,7002,7003,7004] M) m:=by
 have hd:∀x,x∈[7001,7002,7003,7004]->dz (aO n t m bad 9000 [] [] (aK t)) [7001,7002,7003,7004] M x=M x:=fun x h=>tp h
 refine⟨fun x hx hxD=>?_,?_,?_,?_,?_,fun k hk=>?_⟩
 ·rcases qa hx with h|⟨k,hk,rfl⟩
  ·exact absurd h hxD
  ·exact h0 k hk
 ·rw[hd _ (by simp)];exact h1
 ·rw[hd _ (by simp)];exact h2
 ·rw[hd _ (by simp)];exact h3
 ·rw[hd _ (by simp)];exact h4
 ·refine nj ?_ (by simp only[List.mem_cons,List.not_mem_nil,or_false];omega)
  have:=db (n:=n) (t:=t) (m:=m) (bad:=bad) (E:=[]) (c:=aK t) rfl (iX (p:=9000) (by decide)) hk
  rw[show eW 9000 [] k=9000+k from rfl] at this
  rw[this];simp
theorem Jp {n m:Nat} {t:b7} {bad:Int} {r s:Nat} {M:ac} (ht:oF n m t) (hm:m<=10000) (hr:r<m) (hs:s<n) (hpv:Fw m n t r s)
  (f1:M 7001=some (.box 206 [.int .i64 n, .int .i64 (cl t r (s+1)), .row 7002 t.bas.length 1, .row 7003 t.fre.length 1, .row 7004 m 1, .int .i64 bad])) (f2:M 7002=some (.row 3 0 ak (t.bas.set r (t.fre.getD s 0)))) (f3:M 7003=some (.row 3 0 ak (t.fre.set s (t.bas.getD r 0))))
  (f4:∃g,M 7004=some (.hdr 24 g m)/\g r=[.row 141 (n+1) 1]/\∀k,k<m->k≠r->g k=[.row (20000+k) (n+1) 1]) (f5:M 141=some (.row 3 0 ak ((c9 (n+1) (List.replicate (n+1) 0) (fun j=>0-cl t r j) (n+1)).set (s+1) t.den)))
  (f6:∀k,k<m->k≠r->M (20000+k)=some (.row 3 0 ak (og n t r s m k))) (f0:∀k,k<m->M (9000+k)=none):
  (∀x,aO n t m bad 9000 [] [] (aK t) x≠none->x∉[7001,7002,7003,7004]->M x=none)/\(Fw m n t r s/\AV.bool true= .bool true/\uk (dz (aO n t m bad 9000 [] [] (aK t)) [7001,7002,7003,7004] M) m/\
   ∃lab,mZ (dz (aO n t m bad 9000 [] [] (aK t)) [7001,7002,7003,7004] M) n m (so m n t r s) bad lab/\∀k,k<m->lab k<9000\/9000+m<=lab k):=by
 obtain⟨e1,e2⟩:=sv (n:=n) (t:=t) (bad:=bad) hm f0 (by rw[f1];simp) (by rw[f2];simp) (by rw[f3];simp) (by obtain⟨g,h,_⟩:=f4;rw[h];simp)
 have hd:∀x,x∈[7001,7002,7003,7004]->dz (aO n t m bad 9000 [] [] (aK t)) [7001,7002,7003,7004] M x=M x:=fun x h=>tp h
 have hnew:∀x,(x<7001\/9000+m<=x)->dz (aO n t m bad 9000 [] [] (aK t)) [7001,7002,7003,7004] M x=M x:=by
  intro x hx
  refine vu ?_
  cases h:aO n t m bad 9000 [] [] (aK t) x with
  |none=>rfl
  |some B=>
   rcases qa (by rw[h];simp) with h2|⟨k,hk,rfl⟩
   ·simp only[List.mem_cons,List.not_mem_nil,or_false] at h2;omega
   ·omega
 have hcel:∀k,k<m->aK (so m n t r s) k=(List.range (n+1)).map fun j=>if k=r then(if j=s+1 then t.den else-cl t r j) else l9 t r s k j:=by
  intro k hk
  show((List.range m).map fun i=>(List.range (n+1)).map fun j=>if i=r then(if j=s+1 then t.den else-cl t r j) else l9 t r s i j).getD k []=_
  rw[am [] (by simpa using hk)]
  simp
 have hline:(c9 (n+1) (List.replicate (n+1) 0) (fun j=>0-cl t r j) (n+1)).set (s+1) t.den=aK (so m n t r s) r:=by
  rw[hcel r hr,kL]
  apply List.ext_getElem
  ·simp
  ·intro j h1 h2
   rw[List.getElem_set]
   simp only[List.getElem_map,List.getElem_range]
   by_cases e:s+1=j
   ·rw[if_pos e,if_pos trivial,if_pos e.symm]
   ·rw[if_neg e,if_pos trivial,if_neg (fun h=>e h.symm),Int.zero_sub]
 have hrow:∀k,k<m->k≠r->og n t r s m k=aK (so m n t r s) k:=by
  intro k hk hkr
  unfold og
  rw[if_pos ⟨hk,hkr⟩,hcel k hk]
  congr 1
  funext j
  rw[if_neg hkr]
 refine⟨e1,hpv,rfl,e2,fun k=>if k=r then 141 else 20000+k,⟨?_,?_,?_,?_,fun k hk=>?_,fun k k' hk hk' h=>?_,fun k hk=>?_⟩,fun k hk=>?_⟩
 ·rw[hd _ (by simp),f1]
  simp only[so,List.length_set]
 ·rw[hd _ (by simp),f2]
  rfl
 ·rw[hd _ (by simp),f3]
  rfl
 ·obtain⟨g,g1,g2,g3⟩:=f4
  refine⟨g,by rw[hd _ (by simp),g1],fun k hk=>?_⟩
  by_cases e:k=r
  ·rw[if_pos e,e,g2]
  ·rw[if_neg e,g3 k hk e]
 ·by_cases e:k=r
  ·subst e
   rw[if_pos rfl,hnew _ (.inl (by omega)),f5,hline]
  ·rw[if_neg e,hnew _ (.inr (by omega)),f6 k hk e,hrow k hk e]
 ·by_cases e:k=r
  ·rw[if_pos e] at h
   by_cases e':k'=r
   ·rw[e,e']
   ·rw[if_neg e'] at h;omega
  ·rw[if_neg e] at h
   by_cases e':k'=r
   ·rw[if_pos e'] at h;omega
   ·rw[if_neg e'] at h;omega
 ·by_cases e:k=r<;>simp only[e,if_true,if_false]<;>omega
 ·by_cases e:k=r<;>simp only[e,if_true,if_false]<;>omega
theorem L5 {a b c:Prop} (h:a/\b):a/\(b\/c):=⟨h.1, .inl h.2⟩
theorem Pp (n m:Nat) (t:b7) (bad:Int) (r s:Nat) (ht:oF n m t) (hn:n<=1000) (hm:m<=10000) (hr:r<m) (hs:s<n) (hp:cl t r (s+1)≠0):
  aj Tryz.prog 216 [.ptr 7001 0, .int .i64 (r:Int), .int .i64 (s:Int)] (aO n t m bad 9000 [] [] (aK t))
   (fun u M'=>(Fw m n t r s/\u= .bool true/\uk M' m/\∃lab,mZ M' n m (so m n t r s) bad lab/\∀k,k<m->lab k<9000\/9000+m<=lab k)\/(¬Fw m n t r s/\u= .bool false/\uk M' m)):=by
 have hb:=ht.bl
 have hf:=ht.fl
 have hc:=ht.cm
 refine aj.introG (args':=[.ptr 7001 0, .int .i64 (r:Int), .int .i64 (s:Int)]) (M1:=aO n t m bad 20000 [(8802,r)] [] (aK t)) ae ag (bU (c6++[]) fun x=>(i4 20000 m [(8802,r)] x).map (eW 9000 [])) [7001,7002,7003,7004]
  (jw (M:=aO n t m bad 9000 [] [] (aK t)) [] (eW 9000 []) (Aa (by decide) hr) rfl rfl trivial rfl (aa) ⟨_,rfl,fun k _=>rfl⟩ (fun k hk=>db rfl (iX (by decide)) hk) (fun k k' h h' e=>ph (iX (p:=9000) (by decide)).1 h h' e)
   (fun k hk y hy=>by have:=fx (lm:=c6++[]) rfl hy;have:=(iX (p:=9000) (m:=m) (by decide)).big k;omega))
  (fun d hd=>ce d _ (by
   simp only[List.mem_cons,List.not_mem_nil,or_false] at hd
   rcases hd with rfl|rfl|rfl|rfl<;>rfl))
  (eI.by_ (lm:=c6) 400 ce (aa)) Tryz.func216 rfl (by decide) ?_
 have lr:eW 20000 [(8802,r)] r=8802:=by rw[eW,Nat.beq_refl]
 have hrl:(aK t r).length=n+1:=ht.cn r hr
 have es:((s:Int)+1).toNat=s+1:=by omega
 conv=>whnf
 refine nI ?_
 rw[tN]
 conv=>whnf
 refine aI ?_
 conv=>whnf
 refine nI ?_
 rw[lr,es]
 conv=>whnf
 refine nI ?_
 rw[tN]
 conv=>whnf
 rw[lr]
 have hX1:∀{a':List (Nat×Nat)},Es a' 8802=some r->∀q∈[(8802,LM.old 8802)],bU (c6++[]) (fun x=>(i4 20000 m a' x).map (eW 20000 [(8802,r)])) q.1=some q.2:=by
  intro a' h q hq
  simp only[List.mem_cons,List.not_mem_nil,or_false] at hq
  subst hq
  refine f9 rfl ?_
  dsimp only
  unfold i4
  rw[h]
  dsimp only[Option.map_some]
  rw[lr]
 refine a8.loopM ae ag (fun i:Nat=>i<=m/\∀q,q<i->q≠r->∀j,j<n+1->ct (l9 t r s q j)) (fun i=>[(37, .int .i64 (i:Int))]) (fun i=>aO n t m bad 20000 [(8802,r)] [] (og n t r s i)) (fun i=>m-i) 0 ⟨Nat.zero_le _,fun q hq=>absurd hq (Nat.not_lt_zero _)⟩ ?_
 conv=>whnf
 refine⟨?_,?_⟩
 ·show bd _ _ _ _ _
  rw[Jl]
  exact mY (Aa (by decide) hr) (Aa (by decide) hr) [(8802, .old 8802)] (hX1 rfl) (aa)
 rintro i ⟨hi,ha⟩
 by_cases hlt:i<m
 case neg=>
  refine jj ?_
  conv=>whnf
  refine fI ?_
  conv=>whnf
  refine Cd 0 ak 0 rfl (by dsimp only;omega) ?_
  rw[tN]
  conv=>whnf
  obtain rfl:i=m:=by omega
  have f1:=Aa (p:=20000) (m:=i) (by decide) hr
  have hcr:og n t r s i r=aK t r:=Jm n t r s i
  refine a8.loopM ae ag (fun j:Nat=>j<=n+1) (fun j=>[(144, .int .i64 (j:Int))]) (fun j=>aO n t i bad 20000 [(8802,r)] [(141, .row 3 0 ak (c9 (n+1) (List.replicate (n+1) 0) (fun j=>0-cl t r j) j))] (og n t r s i)) (fun j=>n+1-j) 0 (Nat.zero_le _) ?_
  conv=>whnf
  have hsub:∀{M:ac} {fr fr':List AV} {l:List Int},qv (c6++[(141, .old 141)]) 400 M (cR n t i bad 20000 [(8802,r)]++[(141, .row 3 0 ak l)])->(∃g,M 7004=some (.hdr 24 g i)/\∀k,k<i->g k=[.row (eW 20000 [(8802,r)] k) (n+1) 1])->
    (∀k,k<i->M (eW 20000 [(8802,r)] k)=some (.row 3 0 ak (og n t r s i k)))->fV (c6++[(141, .old 141),(8802, .old 8802)]) 400 fr fr'->
    bd [7001,7002,7003,7004] fr M fr' (aO n t i bad 20000 [(8802,r)] [(141, .row 3 0 ak l)] (og n t r s i)):=by
   intro M fr fr' l h1 h2 h3 h4
   exact Jk hr h1 h2 h3 h4
  have hset:∀{B:aU} {E:List (Nat×aU)},p9 E=true->∀k,k<i->((aO n t i bad 20000 [(8802,r)] E (og n t r s i)).set 141 B) (eW 20000 [(8802,r)] k)=some (.row 3 0 ak (og n t r s i k)):=by
   intro B E hE k hk
   have:=f1.big k
   rw[ac.set_ne _ _ (by omega)]
   exact db hE f1 hk
  refine⟨?_,?_⟩
  ·show bd _ _ _ _ _
   rw[i9 _ (by simp)]
   exact hsub (aa) ⟨_,rfl,fun k _=>rfl⟩ (hset rfl) (aa)
  rintro j hj
  have lM:=eN (n+1) (List.replicate (n+1) 0) (fun j=>0-cl t r j) j
  by_cases hj1:j<n+1
  ·refine jj ?_
   conv=>whnf
   refine tI ?_
   conv=>whnf
   have hol:(og n t r s i r).getD j 0=cl t r j:=by rw[hcr];rfl
   have bj:ct ((og n t r s i r).getD j 0):=by rw[hol];exact ht.cb r j hr hj1
   unfold ct at bj
   refine eQ (u':=.rel 8802 j 0) (by omega) (by rw[tN]) ?_
   conv=>whnf
   refine aI ?_
   conv=>whnf
   refine eQ (u':=.rel 141 j 0) (by omega) (by rw[tN]) ?_
   conv=>whnf
   refine an (0-cl t r j) (by rw[hol];rfl) ?_
   conv=>whnf
   refine aI ?_
   conv=>whnf
   refine⟨j+1,?_,by omega,by dsimp only;omega⟩
   dsimp only
   rw[ny (f:=fun j=>0-cl t r j) hj1]
   exact hsub (aa) ⟨_,rfl,fun k _=>rfl⟩ (hset rfl) (aa)
  ·obtain rfl:j=n+1:=by omega
   generalize hL0:c9 (n+1) (List.replicate (n+1) 0) (fun j=>0-cl t r j) (n+1)=L0 at lM⊢
   refine jj ?_
   conv=>whnf
   refine fI ?_
   conv=>whnf
   refine aI ?_
   conv=>whnf
   refine eQ (u':=.rel 141 (s+1) 0) (by omega) (by rw[es]) ?_
   refine Jj ?_
   refine L4 ?_
   refine B5 rfl rfl rfl rfl rfl ?_
   conv=>whnf
   refine eQ (u':=.rel 7004 r 0) (by omega) (by rw[tN]) ?_
   refine Jj ?_
   refine L4 ?_
   refine B6 (fun k=>match Nat.beq k r with|true=>[.row 141 (n+1) 1]|false=>[.row (eW 20000 [(8802,r)] k) (n+1) 1]) rfl rfl rfl rfl rfl rfl rfl rfl (by funext k;cases Nat.beq k r<;>rfl) ?_
   conv=>whnf
   first|refine dI ?_|refine lQ (by decide+kernel) ?_|refine dR ?_
   conv=>whnf
   refine eQ (u':=.rel 7003 s 0) (by omega) (by rw[tN]) ?_
   conv=>whnf
   refine eQ (u':=.rel 7002 r 0) (by omega) (by rw[tN]) ?_
   conv=>whnf
   refine eQ (u':=.rel 7002 r 0) (by omega) (by rw[tN]) ?_
   conv=>whnf
   refine an (t.fre.getD s 0) rfl ?_
   conv=>whnf
   refine eQ (u':=.rel 7003 s 0) (by omega) (by rw[tN]) ?_
   conv=>whnf
   refine an (t.bas.getD r 0) rfl ?_
   conv=>whnf
   have hlb:∀k,k≠r->eW 20000 [(8802,r)] k=20000+k:=fun k hk=>pg (by rw[Fr,pb (fun e=>hk e.symm)];rfl)
   refine L5 (Jp ht hm hr hs (fun q hq hqr j hj=>ha q hq hqr j hj) rfl rfl rfl ⟨_,rfl,?_,fun k hk hkr=>?_⟩ ?_ (fun k hk hkr=>?_) (fun k hk=>?_))
   ·rw[Nat.beq_refl]
   ·rw[pb hkr,hlb k hkr]
   ·rw[hL0];rfl
   ·rw[ac.set_ne _ _ (by omega),ac.set_ne _ _ (by omega),ac.set_ne _ _ (by omega),ac.set_ne _ _ (by omega),ac.set_ne _ _ (by omega),<-hlb k hkr]
    exact db rfl f1 hk
   ·rw[ac.set_ne _ _ (by omega),ac.set_ne _ _ (by omega),ac.set_ne _ _ (by omega),ac.set_ne _ _ (by omega),ac.set_ne _ _ (by omega)]
    exact nC rfl (by omega) (by omega) (by simp only[Es];rw[pb (by omega)])
 by_cases hir:i=r
 ·subst hir
  conv=>whnf
  refine jj ?_
  conv=>whnf
  refine tI ?_
  conv=>whnf
  refine dQ rfl ?_
  conv=>whnf
  refine aI ?_
  conv=>whnf
  refine⟨i+1,?_,⟨by omega,fun q hq hqr=>ha q (by omega) hqr⟩,by dsimp only;omega⟩
  dsimp only
  rw[Jn]
  exact mY (Aa (by decide) hr) (Aa (by decide) hr) [(8802, .old 8802)] (hX1 rfl) (aa)
 ·have f1:=Aa (p:=20000) (m:=m) (by decide) hr
  have f2:=So (p:=20000) (m:=m) (by decide) hr hlt hir
  have li:eW 20000 [(8802,r),(8801,i)] i=8801:=by rw[eW,pb (fun e=>hir e.symm)];dsimp only;rw[eW,Nat.beq_refl]
  have lr2:eW 20000 [(8802,r),(8801,i)] r=8802:=by rw[eW,Nat.beq_refl]
  have hil:(aK t i).length=n+1:=ht.cn i hlt
  have hci:og n t r s i i=aK t i:=Q0 n t r s i
  have hcr:og n t r s i r=aK t r:=Jm n t r s i
  have hX2:∀q∈[(8802,LM.old 8802),(8801,LM.old 8801)],bU (c6++[]) (fun x=>(i4 20000 m [(8802,r),(8801,i)] x).map (eW 20000 [(8802,r),(8801,i)])) q.1=some q.2:=by
   intro q hq
   simp only[List.mem_cons,List.not_mem_nil,or_false] at hq
   rcases hq with rfl|rfl
   ·refine f9 rfl ?_
    show(some r).map (eW 20000 [(8802,r),(8801,i)])=some 8802
    rw[Option.map_some,lr2]
   ·refine f9 rfl ?_
    show(some i).map (eW 20000 [(8802,r),(8801,i)])=some 8801
    rw[Option.map_some,li]
  have hX3:∀q∈[(8802,LM.old 8802)],bU (c6++[]) (fun x=>(i4 20000 m [(8802,r)] x).map (eW 20000 [(8802,r),(8801,i)])) q.1=some q.2:=by
   intro q hq
   simp only[List.mem_cons,List.not_mem_nil,or_false] at hq
   subst hq
   refine f9 rfl ?_
   show(some r).map (eW 20000 [(8802,r),(8801,i)])=some 8802
   rw[Option.map_some,lr2]
  conv=>whnf
  refine Po (mY f1 f2 [(8802, .old 8802)] (hX1 rfl) (aa)) ?_
  conv=>whnf
  refine tI ?_
  conv=>whnf
  refine fI ?_
  conv=>whnf
  refine nI ?_
  rw[tN]
  conv=>whnf
  refine aI ?_
  conv=>whnf
  refine nI ?_
  rw[li,es]
  conv=>whnf
  refine nI ?_
  rw[tN]
  conv=>whnf
  rw[li]
  refine a8.loopM ae ag (fun j:Nat=>j<=n+1/\∀y,y<j->ct (l9 t r s i y)) (fun j=>[(62, .int .i64 (j:Int))]) (fun j=>aO n t m bad 20000 [(8802,r),(8801,i)] [] (rD n t r s i j)) (fun j=>n+1-j) 0 ⟨Nat.zero_le _,fun q hq=>absurd hq (Nat.not_lt_zero _)⟩ ?_
  conv=>whnf
  refine⟨?_,?_⟩
  ·show bd _ _ _ _ _
   have e:rD n t r s i 0=og n t r s i:=by
    funext k
    unfold rD
    by_cases e:k=i
    ·subst e;rw[if_pos rfl,i9 _ hil,hci]
    ·rw[if_neg e]
   rw[e]
   exact mY f2 f2 [(8802, .old 8802),(8801, .old 8801)] hX2 (aa)
  rintro j ⟨hj,hb2⟩
  have hset:(aO n t m bad 20000 [(8802,r),(8801,i)] [] (rD n t r s i j)).set 8801 (.row 3 0 ak (c9 (n+1) (aK t i) (l9 t r s i) (j+1)))=
    aO n t m bad 20000 [(8802,r),(8801,i)] [] (rD n t r s i (j+1)):=by
   have e:=L3 (n:=n) (t:=t) (bad:=bad) (E:=[]) (c:=rD n t r s i j) rfl f2 hlt (c9 (n+1) (aK t i) (l9 t r s i) (j+1))
   rw[li] at e
   rw[e]
   congr 1
   funext k
   unfold rD
   by_cases h:k=i
   ·rw[if_pos h,if_pos h]
   ·rw[if_neg h,if_neg h,if_neg h]
  have lM:=eN (n+1) (aK t i) (l9 t r s i) j
  by_cases hj1:j<n+1
  case neg=>
   refine jj ?_
   conv=>whnf
   refine fI ?_
   conv=>whnf
   refine aI ?_
   conv=>whnf
   refine⟨i+1,?_,⟨by omega,fun q hq hqr=>?_⟩,by dsimp only;omega⟩
   ·obtain rfl:j=n+1:=by omega
    dsimp only
    have e:rD n t r s i (n+1)=og n t r s (i+1):=by
     funext k
     unfold rD og
     by_cases h:k=i
     ·subst h
      rw[if_pos rfl,if_pos ⟨by omega,hir⟩,kL]
     ·rw[if_neg h]
      by_cases h2:k<i/\k≠r
      ·rw[if_pos h2,if_pos (by omega)]
      ·rw[if_neg h2,if_neg (by omega)]
    rw[e]
    exact mY f2 f1 [(8802, .old 8802)] hX3 (aa)
   ·by_cases e:q=i
    ·subst e;exact fun y hy=>hb2 y (by omega)
    ·exact ha q (by omega) hqr
  refine jj ?_
  conv=>whnf
  refine tI ?_
  conv=>whnf
  have up:(c9 (n+1) (aK t i) (l9 t r s i) j).set j (l9 t r s i j)=c9 (n+1) (aK t i) (l9 t r s i) (j+1):=ny hj1
  have at_j:(c9 (n+1) (aK t i) (l9 t r s i) (j+1)).getD j 0=l9 t r s i j:=xZ hj1 (Nat.lt_succ_self j)
  have lM2:=eN (n+1) (aK t i) (l9 t r s i) (j+1)
  have hget:((rD n t r s i j i).set j (l9 t r s i j)).getD j 0=l9 t r s i j:=by rw[Ab,up,at_j]
  have hend:¬Fw m n t r s->(∀x,aO n t m bad 9000 [] [] (aK t) x≠none->x∉[7001,7002,7003,7004]->((aO n t m bad 20000 [(8802,r),(8801,i)] [] (rD n t r s i j)).set 8801 (.row 3 0 ak ((rD n t r s i j i).set j (l9 t r s i j)))) x=none)/\
    (¬Fw m n t r s/\AV.bool false= .bool false/\uk (dz (aO n t m bad 9000 [] [] (aK t)) [7001,7002,7003,7004] ((aO n t m bad 20000 [(8802,r),(8801,i)] [] (rD n t r s i j)).set 8801 (.row 3 0 ak ((rD n t r s i j i).set j (l9 t r s i j))))) m):=by
   intro hb0
   rw[Ab,up,hset]
   have:=sv (n:=n) (t:=t) (bad:=bad) (M:=aO n t m bad 20000 [(8802,r),(8801,i)] [] (rD n t r s i (j+1))) hm (fun k hk=>nC rfl (by omega) (by omega) (by
    simp only[Es]
    rw[pb (by omega),pb (by omega)])) (by simp[aO,aY,cR,ac.ofL]) (by simp[aO,aY,cR,ac.ofL]) (by simp[aO,aY,cR,ac.ofL]) (by simp[aO,aY,cR,ac.ofL])
   exact⟨this.1,hb0,rfl,this.2⟩
  have hbad:¬ct (l9 t r s i j)->¬Fw m n t r s:=fun h hh=>h (hh i hlt hir j hj1)
  have next:∀q,q<j+1->ct (l9 t r s i j)->ct (l9 t r s i q):=fun q hq hv=>by
   by_cases e:q=j
   ·subst e;exact hv
   ·exact hb2 q (by omega)
  refine aI ?_
  conv=>whnf
  refine ai ?_ ?_<;>(intro g;conv=>whnf)
  ·have hv1:(og n t r s i i).getD (s+1) 0=l9 t r s i j:=by
    rw[hci]
    unfold l9
    rw[if_pos (by omega)]
    rfl
   refine eQ (u':=.rel 7004 i 0) (by omega) (by rw[tN]) ?_
   conv=>whnf
   refine eQ (u':=.rel 8801 j 0) (by omega) (by rw[li,tN]) ?_
   conv=>whnf
   refine an (l9 t r s i j) (by rw[hv1];rfl) ?_
   conv=>whnf
   refine eQ (u':=.rel 7004 i 0) (by omega) (by rw[tN]) ?_
   conv=>whnf
   refine eQ (u':=.rel 8801 j 0) (by omega) (by rw[li,tN]) ?_
   conv=>whnf
   refine ai ?_ ?_<;>(intro g2;conv=>whnf)
   ·rw[hget] at g2
    have he:=hend (hbad fun h=>by unfold ct at h;omega)
    exact⟨he.1, .inr he.2⟩
   rw[hget] at g2
   refine eQ (u':=.rel 7004 i 0) (by omega) (by rw[tN]) ?_
   conv=>whnf
   refine eQ (u':=.rel 8801 j 0) (by omega) (by rw[li,tN]) ?_
   conv=>whnf
   refine ai ?_ ?_<;>(intro g3;conv=>whnf)
   ·rw[hget] at g3
    have he:=hend (hbad fun h=>by unfold ct at h;omega)
    exact⟨he.1, .inr he.2⟩
   rw[hget] at g3
   refine aI ?_
   conv=>whnf
   refine⟨j+1,?_,⟨by omega,fun q hq=>next q hq (by unfold ct;omega)⟩,by dsimp only;omega⟩
   dsimp only
   rw[Ab,up,hset]
   exact mY f2 f2 [(8802, .old 8802),(8801, .old 8801)] hX2 (aa)
  ·have hcl:(rD n t r s i j i).getD j 0=cl t i j:=by rw[Ab,kK hj1 (Nat.lt_irrefl _)];rfl
   have hol:(rD n t r s i j r).getD j 0=cl t r j:=by rw[Q1 hir];rfl
   have hkl:(og n t r s i i).getD (s+1) 0=cl t i (s+1):=by rw[hci];rfl
   have hv2:((aK t r).getD (s+1) 0*(rD n t r s i j i).getD j 0-(og n t r s i i).getD (s+1) 0*(rD n t r s i j r).getD j 0).tdiv t.den=l9 t r s i j:=by
    rw[hcl,hol,hkl]
    unfold l9
    rw[if_neg (by omega)]
    rfl
   have b1:=Jo (a:=(aK t r).getD (s+1) 0) (b:=(rD n t r s i j i).getD j 0) (ht.cb r (s+1) hr (by omega)) (by rw[hcl];exact ht.cb i j hlt hj1)
   have b2:=Jo (a:=(og n t r s i i).getD (s+1) 0) (b:=(rD n t r s i j r).getD j 0) (by rw[hkl];exact ht.cb i (s+1) hlt (by omega)) (by rw[hol];exact ht.cb r j hr hj1)
   have b3:=Jc ((aK t r).getD (s+1) 0*(rD n t r s i j i).getD j 0-(og n t r s i i).getD (s+1) 0*(rD n t r s i j r).getD j 0) t.den (m:=2305843009213693952) (by omega)
   have hd0:=ht.dp
   first|refine dI ?_|refine lQ (by decide+kernel) ?_
   conv=>whnf
   refine eQ (u':=.rel 7004 i 0) (by omega) (by rw[tN]) ?_
   conv=>whnf
   refine eQ (u':=.rel 7004 i 0) (by omega) (by rw[tN]) ?_
   conv=>whnf
   refine eQ (u':=.rel 8801 j 0) (by omega) (by rw[li,tN]) ?_
   conv=>whnf
   refine aI ?_
   conv=>whnf
   refine eQ (u':=.rel 8802 j 0) (by omega) (by rw[tN]) ?_
   conv=>whnf
   refine aI ?_
   conv=>whnf
   refine aI ?_
   conv=>whnf
   refine yj (by omega) (by omega) ?_
   conv=>whnf
   refine eQ (u':=.rel 8801 j 0) (by omega) (by rw[li,tN]) ?_
   conv=>whnf
   refine an (l9 t r s i j) (by rw[hv2];rfl) ?_
   conv=>whnf
   refine eQ (u':=.rel 7004 i 0) (by omega) (by rw[tN]) ?_
   conv=>whnf
   refine eQ (u':=.rel 8801 j 0) (by omega) (by rw[li,tN]) ?_
   conv=>whnf
   refine ai ?_ ?_<;>(intro g2;conv=>whnf)
   ·rw[hget] at g2
    have he:=hend (hbad fun h=>by unfold ct at h;omega)
    exact⟨he.1, .inr he.2⟩
   rw[hget] at g2
   refine eQ (u':=.rel 7004 i 0) (by omega) (by rw[tN]) ?_
   conv=>whnf
   refine eQ (u':=.rel 8801 j 0) (by omega) (by rw[li,tN]) ?_
   conv=>whnf
   refine ai ?_ ?_<;>(intro g3;conv=>whnf)
   ·rw[hget] at g3
    have he:=hend (hbad fun h=>by unfold ct at h;omega)
    exact⟨he.1, .inr he.2⟩
   rw[hget] at g3
   refine aI ?_
   conv=>whnf
   refine⟨j+1,?_,⟨by omega,fun q hq=>next q hq (by unfold ct;omega)⟩,by dsimp only;omega⟩
   dsimp only
   rw[Ab,up,hset]
   exact mY f2 f2 [(8802, .old 8802),(8801, .old 8801)] hX2 (aa)
def v9 (l:List Int):List AV:=[.sl 0 ak l]
def gq (n:Nat) (t:b7) (bad:Int):List AV:=[.int .i64 n, .int .i64 t.den, .sl 0 ak t.bas, .sl 0 ak t.fre, .sl [] v9 t.cel, .int .i64 bad]
section
variable {S F:ah} {ρ:aB} {M:ac} {w:World}
theorem Ac {ℓ:Nat} {B:aU} {b:eT} (h1:M ℓ=some B) (h2:ρ ℓ=some b) (h3:Ge B=true) (h4:B.live b):ci S ρ M w b.blk=w.heap[b.blk]?:=by
 unfold ci
 rw[if_pos ⟨ℓ,B,b,h1,h2,h3,h4,rfl⟩]
theorem ul (hM:az S F ρ M w) {ℓ n sz:Nat} {t:TypeId} {l:List Int} (hl:M ℓ=some (.row t (0:Int) ak l)) {v:Value} (h:RV S ρ v (.row ℓ n sz)):RP (ci S ρ M w) v (.sl 0 ak l):=by
 have:=rQ hM h
 have e:wI M (.row ℓ n sz)= .sl 0 ak l:=by simp only[wI,hl]
 rw[e] at this
 exact this.sl_inv
theorem Jq (hM:az S F ρ M w) {ℓ n sz:Nat} {t ti:TypeId} {g:Nat->List AV} {c:List (List Int)} {q:Nat} {lab:Nat->Nat} (hl:M ℓ=some (.hdr t g c.length)) (hg:∀k,k<c.length->g k=[.row (lab k) q 1])
  (hrow:∀k,k<c.length->M (lab k)=some (.row ti (0:Int) ak (c.getD k []))) {v:Value} (h:RV S ρ v (.row ℓ n sz)):RP (ci S ρ M w) v (.sl [] v9 c):=by
 obtain⟨b,hb,hn,hs,hz,rfl⟩:=h.row_inv
 obtain⟨b',hb',l,hlm,hgv,hlen,hszs,hcase⟩:=hM.blk _ _ hl
 rw[hb] at hb';cases hb'
 rcases hcase with ⟨hnil,rfl,hcap⟩|⟨hnil,hcap,vs,hheap,hsize,hcell,hS,hF⟩
 ·have hc0:c=[]:=List.eq_nil_of_length_eq_zero (by simpa using hlm.symm)
  subst hc0
  have hl0:b.len=0:=by simpa using hlen
  have e:b.hdr= .slice none ([]:List (List Int)).length 0:=by simp[eT.hdr,hnil,hl0,hcap]
  rw[e]
  exact .sl [] v9 [] none 0 0 (fun _ _=>undef) (by simp) (by simp) (by simp) (by simp) (by simp) (by simp)
 ·have hlc:c.length=l.length:=by omega
  have e:b.hdr= .slice (some ⟨b.blk,0,none⟩) c.length b.cap:=by simp[eT.hdr,hnil,hlen,hlc]
  rw[e]
  have hone:∀i,i<c.length->∃x,l.getD i []=[x]/\RV S ρ x (.row (lab i) q 1):=by
   intro i hi
   have h1:=hgv i hi
   rw[hg i hi] at h1
   obtain⟨x,xs,e1,h2,h3⟩:=h1.cons_inv
   rw[h3.nil_inv] at e1
   exact⟨x,e1,h2⟩
  have hbs:∀i,i<c.length->b.sz=1:=by
   intro i hi
   obtain⟨x,hx,_⟩:=hone i hi
   have:=(hszs _ (List.getElem_mem (show i<l.length by omega))).1
   have e2:l.getD i []=l[i]'(by omega):=by rw[gD,gL (by omega)];rfl
   rw[<-e2,hx] at this
   simpa[aP] using this.symm
  have hl1:ci S ρ M w b.blk=some (.cells vs t (0,0)):=by rw[Ac hl hb rfl hnil];exact hheap
  have hval:∀i,i<c.length->∃x,vs[i]? =some x/\RV S ρ x (.row (lab i) q 1):=by
   intro i hi
   obtain⟨x,hx,hr⟩:=hone i hi
   have e2:l[i]? =some [x]:=by
    rw[<-hx,gD,gL (by omega)];rfl
   obtain⟨v,hv,hv2⟩:=hcell i [x] 0 (.val x) e2 rfl
   cases hv2
   rw[hbs i hi,Nat.mul_one,Nat.add_zero] at hv
   exact⟨x,hv,hr⟩
  refine .sl [] v9 c (some ⟨b.blk,0,none⟩) b.cap 1 (fun i _=>vs.getD i undef) (by omega) (fun a _=>rfl) (fun a _=>rfl) (fun i j hi hj=>⟨_,rfl,?_⟩) (by simp) (fun i a j u hi hu=>?_)
  ·obtain⟨x,hx,_⟩:=hval i hi
   have hj0:j=0:=by omega
   subst hj0
   rw[Addr.add_mk]
   simp only[ah.cell,hl1]
   simp[hx]
  ·have hil:=(List.getElem?_eq_some_iff.1 hi).1
   obtain⟨x,hx,hr⟩:=hval i hil
   have hj0:j=0:=by
    have:=(List.getElem?_eq_some_iff.1 hu).1
    simp[v9] at this;omega
   subst hj0
   simp[v9] at hu
   subst hu
   have ha:c.getD i []=a:=by rw[gD,hi];rfl
   have:=ul hM (hrow i hil) hr
   rw[ha] at this
   simp[hx]
   exact this
theorem Ad (hM:az S F ρ M w) {n m:Nat} {t:b7} {bad:Int} {lab:Nat->Nat} (hT:mZ M n m t bad lab) (hm:t.cel.length=m) {v:Value} (h:RV S ρ v (.ptr 7001 0)):RP (ci S ρ M w) v (.pd (gq n t bad)):=by
 obtain⟨b,hb,rfl⟩:=h.ptr_inv
 obtain⟨b',hb',vs,hheap,hvs,hS,hF⟩:=hM.blk _ _ hT.box
 rw[hb] at hb';cases hb'
 have hl1:ci S ρ M w b.blk=some (.cells vs 206 (0,0)):=by rw[Ac hT.box hb rfl trivial];exact hheap
 have hlen:=hvs.1
 simp only[Array.length_toList,List.length_cons,List.length_nil] at hlen
 have hle:=mB (S:=S) (F:=F) hM
 refine .pd _ _ (fun j=>vs.getD j undef) (fun j hj=>?_) (fun j u hu=>?_)
 ·rw[Addr.add_mk,Nat.zero_add]
  have:j<vs.size:=by simp[gq] at hj;omega
  simp only[ah.cell,hl1]
  simp[this]
 ·have get:∀{u0:AV},[AV.int .i64 n, .int .i64 t.den, .row 7002 t.bas.length 1, .row 7003 t.fre.length 1, .row 7004 m 1, .int .i64 bad][j]? =some u0->RV S ρ (vs.getD j undef) u0:=by
   intro u0 h0
   obtain⟨v,hv,hr⟩:=hvs.2 j u0 h0
   have hv':vs[j]? =some v:=by simpa using hv
   simpa[hv'] using hr
  obtain⟨g,hg1,hg2⟩:=hT.hdr
  match j,hu with
  |0,hu=>simp[gq] at hu;subst hu;rw[(get rfl).int_inv];exact .int _ _
  |1,hu=>simp[gq] at hu;subst hu;rw[(get rfl).int_inv];exact .int _ _
  |2,hu=>simp[gq] at hu;subst hu;exact ul hM hT.bas (get rfl)
  |3,hu=>simp[gq] at hu;subst hu;exact ul hM hT.fre (get rfl)
  |4,hu=>
   simp[gq] at hu;subst hu
   subst hm
   exact Jq hM hg1 hg2 (fun k hk=>hT.row k hk) (get rfl)
  |5,hu=>simp[gq] at hu;subst hu;rw[(get rfl).int_inv];exact .int _ _
  |j+6,hu=>simp[gq] at hu
end
theorem Q2 (t:b7) (k:Nat):-1<=ja t k/\ja t k<k:=sq t k
theorem Jr (n m:Nat) (t:b7) (bad:Int) (ht:oF n m t) (hm:m<=100000) (hn:n<=100000):ab Tryz.prog 214 [.pd (gq n t bad)] (fun u=>u= .int .i64 (ja t m)):=by
 have hb:=ht.bl
 have hc:=ht.cm
 refine ab.intro ae ag Tryz.func214 rfl (by decide) ?_;(conv=>whnf)
 refine a8.loopF ae ag (fun k:Nat=>k<=m) (fun k=>[(10, .int .i64 (k:Int)),(3, .int .i64 (ja t k))]) (fun _=>[]) (fun k=>m-k) 0 (Nat.zero_le _) ?_;conv=>whnf
 refine⟨sI,?_⟩
 rintro k hk
 have hl:=Q2 t k
 have hup:ja t (k+1)=if cl t k 0<0/\(ja t k<0\/t.bas.getD k 0<t.bas.getD (ja t k).toNat 0) then(k:Int) else ja t k:=rfl
 conv=>whnf
 refine ai ?_ ?_<;>(intro h1;conv=>whnf)
 ·have hlt:k<m:=by omega
  have hcn:=ht.cn k hlt
  first|refine dP ?_|refine dI ?_
  conv=>whnf
  refine nI ?_
  rw[tN]
  conv=>whnf
  refine nI ?_
  conv=>whnf
  refine ai ?_ ?_<;>(intro h2;conv=>whnf)
  ·have e2:cl t k 0<0:=h2
   refine ai ?_ ?_<;>(intro h3;conv=>whnf)
   ·rw[if_pos ⟨e2, .inl h3⟩] at hup
    repeat' ((first|refine nI ?_|refine aI ?_|refine uI ?_|refine vI ?_|refine dI ?_|refine dR ?_|refine dP ?_|refine ar rfl ?_|refine pI _ rfl ?_|refine an _ rfl ?_|refine tI ?_|refine fI ?_|refine ai (fun _=>?_) (fun _=>?_))<;>conv=>whnf)
    exact⟨k+1,by dsimp only;rw[hup];exact sI,by omega,by dsimp only;omega⟩
   ·refine nI ?_
    rw[tN]
    conv=>whnf
    refine nI ?_
    conv=>whnf
    refine ai ?_ ?_<;>(intro h4;conv=>whnf)
    ·rw[if_pos ⟨e2, .inr h4⟩] at hup
     repeat' ((first|refine nI ?_|refine aI ?_|refine uI ?_|refine vI ?_|refine dI ?_|refine dR ?_|refine dP ?_|refine ar rfl ?_|refine pI _ rfl ?_|refine an _ rfl ?_|refine tI ?_|refine fI ?_|refine ai (fun _=>?_) (fun _=>?_))<;>conv=>whnf)
     exact⟨k+1,by dsimp only;rw[hup];exact sI,by omega,by dsimp only;omega⟩
    ·rw[if_neg (fun h=>h.2.elim h3 h4)] at hup
     repeat' ((first|refine nI ?_|refine aI ?_|refine uI ?_|refine vI ?_|refine dI ?_|refine dR ?_|refine dP ?_|refine ar rfl ?_|refine pI _ rfl ?_|refine an _ rfl ?_|refine tI ?_|refine fI ?_|refine ai (fun _=>?_) (fun _=>?_))<;>conv=>whnf)
     exact⟨k+1,by dsimp only;rw[hup];exact sI,by omega,by dsimp only;omega⟩
  ·have e2:¬cl t k 0<0:=h2
   rw[if_neg (fun h=>e2 h.1)] at hup
   repeat' ((first|refine nI ?_|refine aI ?_|refine uI ?_|refine vI ?_|refine dI ?_|refine dR ?_|refine dP ?_|refine ar rfl ?_|refine pI _ rfl ?_|refine an _ rfl ?_|refine tI ?_|refine fI ?_|refine ai (fun _=>?_) (fun _=>?_))<;>conv=>whnf)
   exact⟨k+1,by dsimp only;rw[hup];exact sI,by omega,by dsimp only;omega⟩
 ·obtain rfl:k=m:=by omega
  exact⟨rfl,rfl⟩
end
section
set_option maxRecDepth 100000
set_option maxHeartbeats 32000000
theorem Fl (n m:Nat) (t:b7) (bad r:Int) (ht:oF n m t) (hm:m<=100000) (hn:n<=100000) (hr:0<=r/\r<m):ab Tryz.prog 215 [.pd (gq n t bad), .int .i64 r] (fun u=>u= .int .i64 (qf t r.toNat n)):=by
 have hb:=ht.fl
 have hc:=ht.cm
 have hcn:=ht.cn r.toNat (by omega)
 refine ab.intro ae ag Tryz.func215 rfl (by decide) ?_;(conv=>whnf)
 refine a8.loopF ae ag (fun k:Nat=>k<=n) (fun k=>[(12, .int .i64 (k:Int)),(5, .int .i64 (qf t r.toNat k))]) (fun _=>[]) (fun k=>n-k) 0 (Nat.zero_le _) ?_;conv=>whnf
 refine⟨sI,?_⟩
 rintro k hk
 have hl:=sr t r.toNat k
 have hup:qf t r.toNat (k+1)=if 0<cl t r.toNat (k+1)/\(qf t r.toNat k<0\/t.fre.getD k 0<t.fre.getD (qf t r.toNat k).toNat 0) then(k:Int) else qf t r.toNat k:=rfl
 conv=>whnf
 refine ai ?_ ?_<;>(intro h1;conv=>whnf)
 ·have hlt:k<n:=by omega
  have ek:((k:Int)+1).toNat=k+1:=by omega
  first|refine dP ?_|refine dI ?_
  conv=>whnf
  refine nI ?_
  conv=>whnf
  refine aI ?_
  conv=>whnf
  refine nI ?_
  rw[ek]
  conv=>whnf
  refine ai ?_ ?_<;>(intro h2;conv=>whnf)
  ·have e2:0<cl t r.toNat (k+1):=h2
   refine ai ?_ ?_<;>(intro h3;conv=>whnf)
   ·rw[if_pos ⟨e2, .inl h3⟩] at hup
    repeat' ((first|refine nI ?_|refine aI ?_|refine uI ?_|refine vI ?_|refine dI ?_|refine dR ?_|refine dP ?_|refine ar rfl ?_|refine pI _ rfl ?_|refine an _ rfl ?_|refine tI ?_|refine fI ?_|refine ai (fun _=>?_) (fun _=>?_))<;>conv=>whnf)
    exact⟨k+1,by dsimp only;rw[hup];exact sI,by omega,by dsimp only;omega⟩
   ·refine nI ?_
    rw[tN]
    conv=>whnf
    refine nI ?_
    conv=>whnf
    refine ai ?_ ?_<;>(intro h4;conv=>whnf)
    ·rw[if_pos ⟨e2, .inr h4⟩] at hup
     repeat' ((first|refine nI ?_|refine aI ?_|refine uI ?_|refine vI ?_|refine dI ?_|refine dR ?_|refine dP ?_|refine ar rfl ?_|refine pI _ rfl ?_|refine an _ rfl ?_|refine tI ?_|refine fI ?_|refine ai (fun _=>?_) (fun _=>?_))<;>conv=>whnf)
     exact⟨k+1,by dsimp only;rw[hup];exact sI,by omega,by dsimp only;omega⟩
    ·rw[if_neg (fun h=>h.2.elim h3 h4)] at hup
     repeat' ((first|refine nI ?_|refine aI ?_|refine uI ?_|refine vI ?_|refine dI ?_|refine dR ?_|refine dP ?_|refine ar rfl ?_|refine pI _ rfl ?_|refine an _ rfl ?_|refine tI ?_|refine fI ?_|refine ai (fun _=>?_) (fun _=>?_))<;>conv=>whnf)
     exact⟨k+1,by dsimp only;rw[hup];exact sI,by omega,by dsimp only;omega⟩
  ·have e2:¬0<cl t r.toNat (k+1):=h2
   rw[if_neg (fun h=>e2 h.1)] at hup
   repeat' ((first|refine nI ?_|refine aI ?_|refine uI ?_|refine vI ?_|refine dI ?_|refine dR ?_|refine dP ?_|refine ar rfl ?_|refine pI _ rfl ?_|refine an _ rfl ?_|refine tI ?_|refine fI ?_|refine ai (fun _=>?_) (fun _=>?_))<;>conv=>whnf)
   exact⟨k+1,by dsimp only;rw[hup];exact sI,by omega,by dsimp only;omega⟩
 ·obtain rfl:k=n:=by omega
  exact⟨rfl,rfl⟩
structure Js (m:Nat) (t:b7):Prop where
 dp:0<t.den/\t.den<=1073741824
 cb:∀i,i<m->-1073741824<=cl t i 0/\cl t i 0<=1073741824
theorem wa (n m:Nat) (t:b7) (bad:Int) (ht:oF n m t) (hB:Js m t) (hm:m<=100000) (hn:n<=100000):ab Tryz.prog 134 [.pd (gq n t bad)] (fun u=>u= .tup [.int .i64 (ca n t m).1, .int .i64 (ca n t m).2]):=by
 have hb:=ht.bl
 have hc:=ht.cm
 have hd:=hB.dp
 refine ab.intro ae ag Tryz.func134 rfl (by decide) ?_;(conv=>whnf)
 refine a8.loopF ae ag (fun k:Nat=>k<=m) (fun k=>[(13, .int .i64 (k:Int)),(4, .int .i64 (ca n t k).1),(5, .int .i64 (ca n t k).2)]) (fun _=>[]) (fun k=>m-k) 0 (Nat.zero_le _) ?_;conv=>whnf
 refine⟨sI,?_⟩
 rintro k hk
 have hup:ca n t (k+1)=if t.bas.getD k 0<n/\(cl t k 0).tmod t.den≠0/\((ca n t k).1<0\/t.bas.getD k 0<(ca n t k).1) then(t.bas.getD k 0,(cl t k 0).tdiv t.den) else ca n t k:=rfl
 conv=>whnf
 refine ai ?_ ?_<;>(intro h1;conv=>whnf)
 ·have hlt:k<m:=by omega
  have hcn:=ht.cn k hlt
  have hcb:=hB.cb k hlt
  have hcb':-1073741824<=(t.cel.getD k []).getD (Int.toNat 0) 0/\(t.cel.getD k []).getD (Int.toNat 0) 0<=1073741824:=hcb
  refine nI ?_
  rw[tN]
  conv=>whnf
  refine dI ?_
  conv=>whnf
  refine ai ?_ ?_<;>(intro h2;conv=>whnf)
  ·refine nI ?_
   rw[tN]
   conv=>whnf
   refine nI ?_
   conv=>whnf
   refine nI ?_
   conv=>whnf
   refine ai ?_ ?_<;>(intro h3;conv=>whnf)
   ·have e3:(cl t k 0).tmod t.den≠0:=h3
    have hq:-1073741824<=((t.cel.getD k []).getD (Int.toNat 0) 0).tdiv t.den/\((t.cel.getD k []).getD (Int.toNat 0) 0).tdiv t.den<=1073741824:=by
     have:=Int.natAbs_tdiv_le_natAbs ((t.cel.getD k []).getD (Int.toNat 0) 0) t.den
     omega
    have put:∀(h5:(ca n t k).1<0\/t.bas.getD k 0<(ca n t k).1),ca n t (k+1)=(t.bas.getD k 0,(cl t k 0).tdiv t.den):=fun h5=>by rw[hup,if_pos ⟨h2,e3,h5⟩]
    refine ai ?_ ?_<;>(intro h4;conv=>whnf)
    ·have e1:=put (.inl h4)
     refine dI ?_
     conv=>whnf
     refine nI ?_
     rw[tN]
     conv=>whnf
     refine nI ?_
     conv=>whnf
     refine yj (by omega) (by omega) ?_
     conv=>whnf
     repeat' ((first|refine nI ?_|refine aI ?_|refine uI ?_|refine vI ?_|refine dI ?_|refine dR ?_|refine dP ?_|refine ar rfl ?_|refine pI _ rfl ?_|refine an _ rfl ?_|refine tI ?_|refine fI ?_|refine ai (fun _=>?_) (fun _=>?_))<;>conv=>whnf)
     exact⟨k+1,by dsimp only;rw[e1];exact sI,by omega,by dsimp only;omega⟩
    ·refine ai ?_ ?_<;>(intro h5;conv=>whnf)
     ·have e1:=put (.inr h5)
      refine dI ?_
      conv=>whnf
      refine nI ?_
      rw[tN]
      conv=>whnf
      refine nI ?_
      conv=>whnf
      refine yj (by omega) (by omega) ?_
      conv=>whnf
      repeat' ((first|refine nI ?_|refine aI ?_|refine uI ?_|refine vI ?_|refine dI ?_|refine dR ?_|refine dP ?_|refine ar rfl ?_|refine pI _ rfl ?_|refine an _ rfl ?_|refine tI ?_|refine fI ?_|refine ai (fun _=>?_) (fun _=>?_))<;>conv=>whnf)
      exact⟨k+1,by dsimp only;rw[e1];exact sI,by omega,by dsimp only;omega⟩
     ·rw[if_neg (fun h=>h.2.2.elim h4 h5)] at hup
      repeat' ((first|refine nI ?_|refine aI ?_|refine uI ?_|refine vI ?_|refine dI ?_|refine dR ?_|refine dP ?_|refine ar rfl ?_|refine pI _ rfl ?_|refine an _ rfl ?_|refine tI ?_|refine fI ?_|refine ai (fun _=>?_) (fun _=>?_))<;>conv=>whnf)
      exact⟨k+1,by dsimp only;rw[hup];exact sI,by omega,by dsimp only;omega⟩
   ·rw[if_neg (fun h=>h3 h.2.1)] at hup
    repeat' ((first|refine nI ?_|refine aI ?_|refine uI ?_|refine vI ?_|refine dI ?_|refine dR ?_|refine dP ?_|refine ar rfl ?_|refine pI _ rfl ?_|refine an _ rfl ?_|refine tI ?_|refine fI ?_|refine ai (fun _=>?_) (fun _=>?_))<;>conv=>whnf)
    exact⟨k+1,by dsimp only;rw[hup];exact sI,by omega,by dsimp only;omega⟩
  ·rw[if_neg (fun h=>h2 h.1)] at hup
   repeat' ((first|refine nI ?_|refine aI ?_|refine uI ?_|refine vI ?_|refine dI ?_|refine dR ?_|refine dP ?_|refine ar rfl ?_|refine pI _ rfl ?_|refine an _ rfl ?_|refine tI ?_|refine fI ?_|refine ai (fun _=>?_) (fun _=>?_))<;>conv=>whnf)
   exact⟨k+1,by dsimp only;rw[hup];exact sI,by omega,by dsimp only;omega⟩
 ·obtain rfl:k=m:=by omega
  exact⟨rfl,rfl⟩
theorem Jt (n m:Nat) (t:b7) (bad:Int) (ht:oF n m t) (hB:Js m t) (hm:m<=100000) (hn:n<=1000) (hbs:∀i,i<m->0<=t.bas.getD i 0):ab Tryz.prog 136 [.pd (gq n t bad)] (fun u=>u= .sl 0 ak (lZ n t m)):=by
 have hb:=ht.bl
 have hc:=ht.cm
 have hd:=hB.dp
 refine ab.intro ae ag Tryz.func136 rfl (by decide) ?_;(conv=>whnf)
 refine Cd 0 ak 0 rfl (by dsimp only;omega) ?_
 rw[tN]
 conv=>whnf
 refine a8.loopF ae ag (fun k:Nat=>k<=m) (fun k=>[(16, .int .i64 (k:Int))]) (fun k=>[(10, .row 3 0 ak (lZ n t k))]) (fun k=>m-k) 0 (Nat.zero_le _) ?_;conv=>whnf
 refine⟨sI,?_⟩
 rintro k hk
 have hup:lZ n t (k+1)=if t.bas.getD k 0<n then(lZ n t k).set (t.bas.getD k 0).toNat ((cl t k 0).tdiv t.den) else lZ n t k:=rfl
 have hpl:=jT n t k
 conv=>whnf
 refine ai ?_ ?_<;>(intro h1;conv=>whnf)
 ·have hlt:k<m:=by omega
  have hcn:=ht.cn k hlt
  have hcb:=hB.cb k hlt
  have hcb':-1073741824<=(t.cel.getD k []).getD (Int.toNat 0) 0/\(t.cel.getD k []).getD (Int.toNat 0) 0<=1073741824:=hcb
  have hq:-1073741824<=((t.cel.getD k []).getD (Int.toNat 0) 0).tdiv t.den/\((t.cel.getD k []).getD (Int.toNat 0) 0).tdiv t.den<=1073741824:=by
   have:=Int.natAbs_tdiv_le_natAbs ((t.cel.getD k []).getD (Int.toNat 0) 0) t.den
   omega
  have hb0:=hbs k hlt
  refine nI ?_
  rw[tN]
  conv=>whnf
  refine ai ?_ ?_<;>(intro h2;conv=>whnf)
  ·rw[if_pos h2] at hup
   refine dI ?_
   conv=>whnf
   refine nI ?_
   rw[tN]
   conv=>whnf
   refine nI ?_
   conv=>whnf
   refine yj (by omega) (by omega) ?_
   conv=>whnf
   refine nI ?_
   conv=>whnf
   refine an ((cl t k 0).tdiv t.den) rfl ?_
   conv=>whnf
   repeat' ((first|refine nI ?_|refine aI ?_|refine uI ?_|refine vI ?_|refine dI ?_|refine dR ?_|refine dP ?_|refine ar rfl ?_|refine pI _ rfl ?_|refine an _ rfl ?_|refine tI ?_|refine fI ?_|refine ai (fun _=>?_) (fun _=>?_))<;>conv=>whnf)
   exact⟨k+1,by dsimp only;rw[hup];exact sI,by omega,by dsimp only;omega⟩
  ·rw[if_neg h2] at hup
   repeat' ((first|refine nI ?_|refine aI ?_|refine uI ?_|refine vI ?_|refine dI ?_|refine dR ?_|refine dP ?_|refine ar rfl ?_|refine pI _ rfl ?_|refine an _ rfl ?_|refine tI ?_|refine fI ?_|refine ai (fun _=>?_) (fun _=>?_))<;>conv=>whnf)
   exact⟨k+1,by dsimp only;rw[hup];exact sI,by omega,by dsimp only;omega⟩
 ·obtain rfl:k=m:=by omega
  exact⟨rfl,rfl⟩
def Q3 (A B:List Int):List (Nat×aU):=[(7001, .box 208 [.row 7002 A.length 1, .row 7003 B.length 1, .int .i64 1]),(7002, .row 3 0 ak A),(7003, .row 3 0 ak B)]
def Sp (A B:List Int):List (Nat×aU):=[(7001, .box 208 [.row 7004 A.length 1, .row 7005 B.length 1, .int .i64 1]),(7002, .dead),(7003, .dead),(7004, .row 3 0 ak A),(7005, .row 3 0 ak B)]
def DP (n:Nat) (l:List (Int×Int)) (v k:Int):List (Int×Int):=if(n:Int)<=v/\0<k then l++[(v-n,k)] else l
def Fm (l:List (Int×Int)):List Int:=l.map (·.1)
def Ae (l:List (Int×Int)):List Int:=l.map (·.2)
def S8:aV:=[(7001, .old 7001),(7002, .old 7002),(7003, .old 7003),(7004, .old 25),(7005, .old 31)]
def S9:aV:=[(7001, .old 7001),(7002, .old 7002),(7003, .old 7003),(7004, .old 7002),(7005, .old 7003)]
theorem Pq (n:Nat) (t:b7) (bad:Int) (l:List (Int×Int)) (v k:Int) (hl:l.length<=100000) (hn:n<=1000) (hv:0<=v/\v<=1000000):aj Tryz.prog 217 [.int .i64 v, .int .i64 k, .pd [.pd (gq n t bad)], .ptr 7001 0] (ac.ofL (Q3 (Fm l) (Ae l)))
  (fun u M=>u= .tup []/\M=ac.ofL (Sp (Fm (DP n l v k)) (Ae (DP n l v k)))):=by
 refine aj.renorm 400 (R:=fun u M=>u= .tup []/\(bD S9 400 M (Sp (Fm (DP n l v k)) (Ae (DP n l v k)))\/bD S8 400 M (Sp (Fm (DP n l v k)) (Ae (DP n l v k))))) ?_ ?_
 ·refine aj.intro ae ag (Q3 (Fm l) (Ae l)) Tryz.func217 rfl (by decide) ?_
  conv=>whnf
  refine ai ?_ ?_<;>(intro h1;conv=>whnf)
  ·refine ai ?_ ?_<;>(intro h2;conv=>whnf)
   ·have e:DP n l v k=l++[(v-n,k)]:=if_pos ⟨h1,h2⟩
    have e1:Fm (DP n l v k)=Fm l++[v-n]:=by rw[e];simp[Fm]
    have e2:Ae (DP n l v k)=Ae l++[k]:=by rw[e];simp[Ae]
    have l1:(Fm l).length<=100000:=by simp[Fm];exact hl
    have l2:(Ae l).length<=100000:=by simp[Ae];exact hl
    rw[e1,e2]
    refine lP (by decide+kernel) ?_
    conv=>whnf
    refine aI ?_
    conv=>whnf
    refine dn ?_
    conv=>whnf
    refine di [v-n] rfl lI ?_
    conv=>whnf
    refine di [k] rfl lI ?_
    conv=>whnf
    exact⟨rfl, .inr (aa)⟩
   ·have e:DP n l v k=l:=if_neg (fun h=>h2 h.2)
    rw[e]
    exact⟨rfl, .inl (aa)⟩
  ·have e:DP n l v k=l:=if_neg (fun h=>h1 h.1)
   rw[e]
   exact⟨rfl, .inl (aa)⟩
 ·rintro u M' ⟨rfl,hM|hM⟩
  ·exact⟨_,_, .tup [],rfl,hM,trivial,rfl,rfl⟩
  ·exact⟨_,_, .tup [],rfl,hM,trivial,rfl,rfl⟩
def PP (A B:List Int):List (Nat×aU):=[(2, .box 208 [.nilsl, .nilsl, .int .i64 0]),(4, .box 208 [.row 6004 A.length 1, .row 6005 B.length 1, .int .i64 1]),(6004, .row 3 0 ak A),(6005, .row 3 0 ak B)]
def SK (A B:List Int):List (Nat×aU):=[(4, .box 208 [.row 6104 A.length 1, .row 6105 B.length 1, .int .i64 1]),(6004, .dead),(6005, .dead),(6104, .row 3 0 ak A),(6105, .row 3 0 ak B)]
def Ta (A B:List Int):List (Nat×aU):=[(4, .box 208 [.row 6004 A.length 1, .row 6005 B.length 1, .int .i64 1]),(6004, .row 3 0 ak A),(6005, .row 3 0 ak B)]
def oG (n:Nat) (t:b7) (bad k:Nat):List Int:=Fm (cN n t bad k)
def ax (n:Nat) (t:b7) (bad k:Nat):List Int:=Ae (cN n t bad k)
theorem Ju (n:Nat) (t:b7) (bad k:Nat):DP n (cN n t bad k) (t.fre.getD k 0) (0-(t.cel.getD bad []).getD (k+1) 0)=cN n t bad (k+1):=by rw[Int.zero_sub];rfl
theorem nD (l:List (Int×Int)):(Ae l).length=l.length:=by simp[Ae]
theorem DQ (l:List (Int×Int)):(Fm l).length=l.length:=by simp[Fm]
theorem jU (l:List (Int×Int)) (k:Nat):(Ae l).getD k 0=(l.getD k (0,0)).2:=by
 unfold Ae
 rw[gD,gD,List.getElem?_map]
 cases l[k]?<;>rfl
theorem sx (n:Nat) (t:b7) (bad:Nat) (hd:0<t.den/\t.den<=1073741824) (hcb:∀j,j<n+1->ct (cl t bad j)):∀k,k<=n->∀a∈cN n t bad k,0<a.2/\a.2<=1073741824
 |0,_,a,ha=>by
  rw[cN,List.mem_singleton] at ha
  subst ha
  unfold Jg
  split<;>exact hd
 |k+1,hk,a,ha=>by
  have hc:=hcb (k+1) (by omega)
  unfold ct at hc
  rw[cN] at ha
  split at ha
  ·rename_i h
   rcases List.mem_append.1 ha with h1|h1
   ·exact sx n t bad hd hcb k (by omega) a h1
   ·rw[List.mem_singleton] at h1
    subst h1
    dsimp only
    omega
  ·exact sx n t bad hd hcb k (by omega) a ha
theorem MV {l:List (Int×Int)} (h:∀a∈l,0<a.2/\a.2<=1073741824):∀k,k<=l.length->0<=gn l k/\gn l k<=1073741824
 |0,_=>by rw[gn];omega
 |k+1,hk=>by
  have h1:=h _ (tv (l:=l) (0,0) (show k<l.length by omega))
  rw[gn]
  have:=Int.gcd_le_natAbs_right (gn l k) (show(l.getD k (0,0)).2≠0 by omega)
  omega
def Tb (n:Nat) (t:b7) (bad:Nat) (u:AV):Prop:=(∃d,Ar n t bad=some d/\u= .tup [.agg (vP d), .bool true])\/(Ar n t bad=none/\((∃d,u= .tup [.agg (vP d), .bool false])\/u= .tup [.agg [.nilsl, .nilsl, .int .i64 0], .bool false]))
theorem sy (n:Nat) (t:b7) (bad:Nat):∀k,(cN n t bad k).length<=k+1
 |0=>by simp[cN]
 |k+1=>by
  have:=sy n t bad k
  rw[cN];split
  ·simp;omega
  ·omega
theorem DR (n m:Nat) (t:b7) (bad:Nat) (ht:oF n m t) (hB:Js m t) (hm:m<=10000) (hn:n<=1000) (hbad:bad<m) (hbs:∀i,i<m->0<=t.bas.getD i 0/\t.bas.getD i 0<=100000) (hfs:∀i,i<n->0<=t.fre.getD i 0/\t.fre.getD i 0<=100000)
  (hcb:∀j,j<n+1->ct (cl t bad j)):ab Tryz.prog 132 [.pd (gq n t bad)] (Tb n t bad):=by
 have hb:=ht.bl
 have hf:=ht.fl
 have hc:=ht.cm
 have hd:=hB.dp
 have hcn:=ht.cn bad hbad
 have hbb:=hbs bad hbad
 refine ab.intro ae ag Tryz.func132 rfl (by decide) ?_;(conv=>whnf)
 refine ar rfl ?_
 conv=>whnf
 refine dI ?_
 conv=>whnf
 refine nI ?_
 rw[tN]
 conv=>whnf
 refine ai ?_ ?_<;>(intro h1;conv=>whnf)
 ·have hz:cN n t bad 0=[(-1-t.bas.getD bad 0,t.den)]:=by rw[cN,Jg,if_pos h1]
  have z1:oG n t bad 0=[-1-t.bas.getD bad 0]:=by rw[oG,hz];rfl
  have z2:ax n t bad 0=[t.den]:=by rw[ax,hz];rfl
  refine aI ?_
  conv=>whnf
  refine bp (by show 1*8<=140737488355328;omega) ?_
  conv=>whnf
  refine lP (by decide+kernel) ?_
  conv=>whnf
  refine dn ?_
  conv=>whnf
  refine bp (by show 1*8<=140737488355328;omega) ?_
  conv=>whnf
  refine a8.loopF ae ag (fun k:Nat=>k<=n) (fun k=>[(59, .int .i64 (k:Int)),(35, .top),(36, .top),(44, .top),(45, .top),(31, .top)]) (fun k=>PP (oG n t bad k) (ax n t bad k)) (fun k=>n-k) 0 (Nat.zero_le _) ?_;conv=>whnf
  refine⟨by rw[z1,z2];exact bd.by_ [(2, .old 2),(4, .old 4),(6004, .old 36),(6005, .old 45)] _ 400 rfl (aa) (aa),?_⟩
  rintro k hk
  have hkl:=sy n t bad k
  conv=>whnf
  refine ai ?_ ?_<;>(intro g1;conv=>whnf)
  ·have hlt:k<n:=by omega
   have ek:((k:Int)+1).toNat=k+1:=by omega
   have hck:-1073741824<=(t.cel.getD bad []).getD (k+1) 0/\(t.cel.getD bad []).getD (k+1) 0<=1073741824:=hcb (k+1) (by omega)
   have hfk:=hfs k hlt
   refine nI ?_
   rw[tN]
   conv=>whnf
   refine tf .any [81] (by decide+kernel) ?_
   conv=>whnf
   refine nI ?_
   rw[tN]
   conv=>whnf
   refine aI ?_
   conv=>whnf
   refine nI ?_
   rw[ek]
   conv=>whnf
   refine aI ?_
   conv=>whnf
   refine aj.call [(7001, .old 4),(7002, .old 6004),(7003, .old 6005)] (Q3 (oG n t bad k) (ax n t bad k)) 400 rfl (aa) (aa) (Pq n t bad (cN n t bad k) (t.fre.getD k 0) (0-(t.cel.getD bad []).getD (k+1) 0) (by omega) hn (by omega)) ?_
   rintro u M' ⟨rfl,rfl⟩
   rw[Ju]
   refine⟨[(4, .old 7001),(6004, .old 7002),(6005, .old 7003),(6104, .old 7004),(6105, .old 7005)],SK (oG n t bad (k+1)) (ax n t bad (k+1)), .tup [],rfl,(aa),trivial,?_⟩
   conv=>whnf
   repeat' ((first|refine nI ?_|refine aI ?_|refine tI ?_|refine fI ?_|fail);conv=>whnf)
   exact⟨k+1,bd.by_ [(2, .old 2),(4, .old 4),(6004, .old 6104),(6005, .old 6105)] _ 400 rfl (aa) (aa),by omega,by dsimp only;omega⟩
  ·obtain rfl:n=k:=by omega
   have hlA:(oG n t bad n).length=(cN n t bad n).length:=DQ _
   have hlB:(ax n t bad n).length=(cN n t bad n).length:=nD _
   have hrng:=sx n t bad hd hcb n (Nat.le_refl _)
   have hhd:=p7 n t bad n
   refine a8.loopF ae ag (fun k:Nat=>k<=(ax n t bad n).length) (fun k=>[(86, .int .i64 (k:Int)),(9, .int .i64 (gn (cN n t bad n) k))]) (fun _=>PP (oG n t bad n) (ax n t bad n)) (fun k=>(ax n t bad n).length-k) 0 (Nat.zero_le _) ?_;conv=>whnf
   refine⟨sI,?_⟩
   rintro k hk
   have hg:=MV hrng k (by omega)
   have hm:∀i,i<(ax n t bad n).length->0<(ax n t bad n).getD i 0/\(ax n t bad n).getD i 0<=1073741824:=fun i hi=>by
    have e:(ax n t bad n).getD i 0=((cN n t bad n).getD i (0,0)).2:=jU _ _
    rw[e]
    exact hrng _ (tv (0,0) (by omega))
   conv=>whnf
   refine ai ?_ ?_<;>(intro q1;conv=>whnf)
   ·have hlt:k<(ax n t bad n).length:=by omega
    have hmk:=hm k hlt
    have hG:=Pf (gn (cN n t bad n) k) ((ax n t bad n).getD k 0) (by omega) (by omega)
    have e:(Int.gcd (gn (cN n t bad n) k) ((ax n t bad n).getD k 0):Int)=gn (cN n t bad n) (k+1):=by
     have e2:(ax n t bad n).getD k 0=((cN n t bad n).getD k (0,0)).2:=jU _ _
     rw[gn,e2]
    rw[e] at hG
    refine nI ?_
    rw[tN]
    conv=>whnf
    (refine oP (hG) ?_;conv=>whnf)
    repeat' ((first|refine nI ?_|refine aI ?_|refine uI ?_|refine vI ?_|refine dI ?_|refine dR ?_|refine dP ?_|refine ar rfl ?_|refine pI _ rfl ?_|refine an _ rfl ?_|refine tI ?_|refine fI ?_|refine ai (fun _=>?_) (fun _=>?_))<;>conv=>whnf)
    exact⟨k+1,sI,by dsimp only;omega,by dsimp only;omega⟩
   ·obtain rfl:(ax n t bad n).length=k:=by omega
    have hg0:0<gn (cN n t bad n) (ax n t bad n).length:=ss (by rw[hhd.2];unfold Jg;split<;>exact hd.1) _ (by omega)
    have hquo:∀i,i<(ax n t bad n).length->0<=((ax n t bad n).getD i 0).tdiv (gn (cN n t bad n) (ax n t bad n).length)/\((ax n t bad n).getD i 0).tdiv (gn (cN n t bad n) (ax n t bad n).length)<=1073741824:=fun i hi=>by
     have h3:=hm i hi
     have h4:=Int.natAbs_tdiv_le_natAbs ((ax n t bad n).getD i 0) (gn (cN n t bad n) (ax n t bad n).length)
     have h5:=Int.tdiv_nonneg (a:=(ax n t bad n).getD i 0) (b:=gn (cN n t bad n) (ax n t bad n).length) (by omega) (by omega)
     omega
    refine a8.loopF ae ag (fun j:Nat=>j<=(ax n t bad n).length/\∀i,i<j->((ax n t bad n).getD i 0).tdiv (gn (cN n t bad n) (ax n t bad n).length)<=65536) (fun j=>[(97, .int .i64 (j:Int))]) (fun j=>PP (oG n t bad n) (c9 (ax n t bad n).length (ax n t bad n) (fun i=>((ax n t bad n).getD i 0).tdiv (gn (cN n t bad n) (ax n t bad n).length)) j)) (fun j=>(ax n t bad n).length-j) 0 ⟨Nat.zero_le _,fun j hj=>absurd hj (Nat.not_lt_zero _)⟩ ?_;conv=>whnf
    refine⟨?_,?_⟩
    ·show bd _ _ _ _ _
     rw[i9 _ rfl]
     exact sI
    rintro j ⟨hj,ha⟩
    have lM:=eN (ax n t bad n).length (ax n t bad n) (fun i=>((ax n t bad n).getD i 0).tdiv (gn (cN n t bad n) (ax n t bad n).length)) j
    conv=>whnf
    refine ai ?_ ?_<;>(intro q2;conv=>whnf)
    ·have hlt:j<(ax n t bad n).length:=by omega
     have hqj:=hquo j hlt
     have hset:(c9 (ax n t bad n).length (ax n t bad n) (fun i=>((ax n t bad n).getD i 0).tdiv (gn (cN n t bad n) (ax n t bad n).length)) j).set j (((ax n t bad n).getD j 0).tdiv (gn (cN n t bad n) (ax n t bad n).length))=c9 (ax n t bad n).length (ax n t bad n) (fun i=>((ax n t bad n).getD i 0).tdiv (gn (cN n t bad n) (ax n t bad n).length)) (j+1):=ny hlt
     have hat:(c9 (ax n t bad n).length (ax n t bad n) (fun i=>((ax n t bad n).getD i 0).tdiv (gn (cN n t bad n) (ax n t bad n).length)) (j+1)).getD j 0=((ax n t bad n).getD j 0).tdiv (gn (cN n t bad n) (ax n t bad n).length):=xZ hlt (by omega)
     have lM2:=eN (ax n t bad n).length (ax n t bad n) (fun i=>((ax n t bad n).getD i 0).tdiv (gn (cN n t bad n) (ax n t bad n).length)) (j+1)
     refine nI ?_
     rw[tN]
     conv=>whnf
     rw[kK hlt (Nat.lt_irrefl _)]
     refine yj (by omega) (by omega) ?_
     conv=>whnf
     refine nI ?_
     conv=>whnf
     refine an (((ax n t bad n).getD j 0).tdiv (gn (cN n t bad n) (ax n t bad n).length)) rfl ?_
     rw[tN,hset]
     conv=>whnf
     refine nI ?_
     rw[tN]
     conv=>whnf
     rw[hat]
     refine ai ?_ ?_<;>(intro q3;conv=>whnf)
     ·refine⟨.inr ⟨?_, .inr rfl⟩,rfl⟩
      unfold Ar
      exact if_pos (.inl ⟨j,by omega,by rw[p8 n t bad (by omega)];rw[ax,jU,nD] at q3;exact q3⟩)
     ·repeat' ((first|refine nI ?_|refine aI ?_|refine uI ?_|refine vI ?_|refine dI ?_|refine dR ?_|refine dP ?_|refine ar rfl ?_|refine pI _ rfl ?_|refine an _ rfl ?_|refine tI ?_|refine fI ?_|refine ai (fun _=>?_) (fun _=>?_))<;>conv=>whnf)
      exact⟨j+1,sI,⟨by omega,fun i hi=>by
       by_cases e:i=j
       ·subst e;omega
       ·exact ha i (by omega)⟩,by dsimp only;omega⟩
    ·obtain rfl:(ax n t bad n).length=j:=by omega
     have hno:¬∃j,j<(cN n t bad n).length/\65536<(vZ n t bad).mult.getD j 0:=by
      rintro⟨j,h3,h4⟩
      have h5:=ha j (by omega)
      rw[p8 n t bad h3] at h4
      rw[ax,jU,nD] at h5
      omega
     have hmul:c9 (ax n t bad n).length (ax n t bad n) (fun i=>((ax n t bad n).getD i 0).tdiv (gn (cN n t bad n) (ax n t bad n).length)) (ax n t bad n).length=(vZ n t bad).mult:=by
      rw[kL,qV (fun x=>x.tdiv (gn (cN n t bad n) (ax n t bad n).length)) rfl]
      unfold vZ
      dsimp only
      rw[hlB]
      unfold ax Ae
      rw[List.map_map]
      rfl
     refine CA [(2,2),(4,4),(117,4)] (by decide+kernel) ?_
     conv=>whnf
     refine ai ?_ ?_<;>(intro q3;conv=>whnf)
     ·refine⟨.inl ⟨vZ n t bad,?_,?_⟩,rfl⟩
      ·unfold Ar
       exact if_neg (fun h=>h.elim hno (fun h=>by omega))
      ·rw[hmul]
       rfl
     ·refine⟨.inr ⟨?_, .inl ⟨⟨_,_,_⟩,rfl⟩⟩,rfl⟩
      unfold Ar
      exact if_pos (.inr (by omega))
 ·refine aj.call [(7001, .old 4),(7002, .nil 1),(7003, .nil 1)] (Q3 [] []) 400 rfl (aa) (aa) (Pq n t bad [] (t.bas.getD bad 0) t.den (by simp) hn (by omega)) ?_
  rintro u M' ⟨rfl,rfl⟩
  have e:DP n [] (t.bas.getD bad 0) t.den=cN n t bad 0:=by rw[DP,if_pos ⟨by omega,hd.1⟩,cN,Jg,if_neg h1];rfl
  rw[e]
  refine⟨[(4, .old 7001),(6004, .old 7004),(6005, .old 7005)],Ta (oG n t bad 0) (ax n t bad 0), .tup [],rfl,(aa),trivial,?_⟩
  conv=>whnf
  refine a8.loopF ae ag (fun k:Nat=>k<=n) (fun k=>[(59, .int .i64 (k:Int)),(31, .top)]) (fun k=>PP (oG n t bad k) (ax n t bad k)) (fun k=>n-k) 0 (Nat.zero_le _) ?_;conv=>whnf
  refine⟨bd.by_ [(2, .old 2),(4, .old 4),(6004, .old 6004),(6005, .old 6005)] _ 400 rfl (aa) (aa),?_⟩
  rintro k hk
  have hkl:=sy n t bad k
  conv=>whnf
  refine ai ?_ ?_<;>(intro g1;conv=>whnf)
  ·have hlt:k<n:=by omega
   have ek:((k:Int)+1).toNat=k+1:=by omega
   have hck:-1073741824<=(t.cel.getD bad []).getD (k+1) 0/\(t.cel.getD bad []).getD (k+1) 0<=1073741824:=hcb (k+1) (by omega)
   have hfk:=hfs k hlt
   refine nI ?_
   rw[tN]
   conv=>whnf
   refine tf .any [81] (by decide+kernel) ?_
   conv=>whnf
   refine nI ?_
   rw[tN]
   conv=>whnf
   refine aI ?_
   conv=>whnf
   refine nI ?_
   rw[ek]
   conv=>whnf
   refine aI ?_
   conv=>whnf
   refine aj.call [(7001, .old 4),(7002, .old 6004),(7003, .old 6005)] (Q3 (oG n t bad k) (ax n t bad k)) 400 rfl (aa) (aa) (Pq n t bad (cN n t bad k) (t.fre.getD k 0) (0-(t.cel.getD bad []).getD (k+1) 0) (by omega) hn (by omega)) ?_
   rintro u M' ⟨rfl,rfl⟩
   rw[Ju]
   refine⟨[(4, .old 7001),(6004, .old 7002),(6005, .old 7003),(6104, .old 7004),(6105, .old 7005)],SK (oG n t bad (k+1)) (ax n t bad (k+1)), .tup [],rfl,(aa),trivial,?_⟩
   conv=>whnf
   repeat' ((first|refine nI ?_|refine aI ?_|refine tI ?_|refine fI ?_|fail);conv=>whnf)
   exact⟨k+1,bd.by_ [(2, .old 2),(4, .old 4),(6004, .old 6104),(6005, .old 6105)] _ 400 rfl (aa) (aa),by omega,by dsimp only;omega⟩
  ·obtain rfl:n=k:=by omega
   have hlA:(oG n t bad n).length=(cN n t bad n).length:=DQ _
   have hlB:(ax n t bad n).length=(cN n t bad n).length:=nD _
   have hrng:=sx n t bad hd hcb n (Nat.le_refl _)
   have hhd:=p7 n t bad n
   refine a8.loopF ae ag (fun k:Nat=>k<=(ax n t bad n).length) (fun k=>[(86, .int .i64 (k:Int)),(9, .int .i64 (gn (cN n t bad n) k))]) (fun _=>PP (oG n t bad n) (ax n t bad n)) (fun k=>(ax n t bad n).length-k) 0 (Nat.zero_le _) ?_;conv=>whnf
   refine⟨sI,?_⟩
   rintro k hk
   have hg:=MV hrng k (by omega)
   have hm:∀i,i<(ax n t bad n).length->0<(ax n t bad n).getD i 0/\(ax n t bad n).getD i 0<=1073741824:=fun i hi=>by
    have e:(ax n t bad n).getD i 0=((cN n t bad n).getD i (0,0)).2:=jU _ _
    rw[e]
    exact hrng _ (tv (0,0) (by omega))
   conv=>whnf
   refine ai ?_ ?_<;>(intro q1;conv=>whnf)
   ·have hlt:k<(ax n t bad n).length:=by omega
    have hmk:=hm k hlt
    have hG:=Pf (gn (cN n t bad n) k) ((ax n t bad n).getD k 0) (by omega) (by omega)
    have e:(Int.gcd (gn (cN n t bad n) k) ((ax n t bad n).getD k 0):Int)=gn (cN n t bad n) (k+1):=by
     have e2:(ax n t bad n).getD k 0=((cN n t bad n).getD k (0,0)).2:=jU _ _
     rw[gn,e2]
    rw[e] at hG
    refine nI ?_
    rw[tN]
    conv=>whnf
    (refine oP (hG) ?_;conv=>whnf)
    repeat' ((first|refine nI ?_|refine aI ?_|refine uI ?_|refine vI ?_|refine dI ?_|refine dR ?_|refine dP ?_|refine ar rfl ?_|refine pI _ rfl ?_|refine an _ rfl ?_|refine tI ?_|refine fI ?_|refine ai (fun _=>?_) (fun _=>?_))<;>conv=>whnf)
    exact⟨k+1,sI,by dsimp only;omega,by dsimp only;omega⟩
   ·obtain rfl:(ax n t bad n).length=k:=by omega
    have hg0:0<gn (cN n t bad n) (ax n t bad n).length:=ss (by rw[hhd.2];unfold Jg;split<;>exact hd.1) _ (by omega)
    have hquo:∀i,i<(ax n t bad n).length->0<=((ax n t bad n).getD i 0).tdiv (gn (cN n t bad n) (ax n t bad n).length)/\((ax n t bad n).getD i 0).tdiv (gn (cN n t bad n) (ax n t bad n).length)<=1073741824:=fun i hi=>by
     have h3:=hm i hi
     have h4:=Int.natAbs_tdiv_le_natAbs ((ax n t bad n).getD i 0) (gn (cN n t bad n) (ax n t bad n).length)
     have h5:=Int.tdiv_nonneg (a:=(ax n t bad n).getD i 0) (b:=gn (cN n t bad n) (ax n t bad n).length) (by omega) (by omega)
     omega
    refine a8.loopF ae ag (fun j:Nat=>j<=(ax n t bad n).length/\∀i,i<j->((ax n t bad n).getD i 0).tdiv (gn (cN n t bad n) (ax n t bad n).length)<=65536) (fun j=>[(97, .int .i64 (j:Int))]) (fun j=>PP (oG n t bad n) (c9 (ax n t bad n).length (ax n t bad n) (fun i=>((ax n t bad n).getD i 0).tdiv (gn (cN n t bad n) (ax n t bad n).length)) j)) (fun j=>(ax n t bad n).length-j) 0 ⟨Nat.zero_le _,fun j hj=>absurd hj (Nat.not_lt_zero _)⟩ ?_;conv=>whnf
    refine⟨?_,?_⟩
    ·show bd _ _ _ _ _
     rw[i9 _ rfl]
     exact sI
    rintro j ⟨hj,ha⟩
    have lM:=eN (ax n t bad n).length (ax n t bad n) (fun i=>((ax n t bad n).getD i 0).tdiv (gn (cN n t bad n) (ax n t bad n).length)) j
    conv=>whnf
    refine ai ?_ ?_<;>(intro q2;conv=>whnf)
    ·have hlt:j<(ax n t bad n).length:=by omega
     have hqj:=hquo j hlt
     have hset:(c9 (ax n t bad n).length (ax n t bad n) (fun i=>((ax n t bad n).getD i 0).tdiv (gn (cN n t bad n) (ax n t bad n).length)) j).set j (((ax n t bad n).getD j 0).tdiv (gn (cN n t bad n) (ax n t bad n).length))=c9 (ax n t bad n).length (ax n t bad n) (fun i=>((ax n t bad n).getD i 0).tdiv (gn (cN n t bad n) (ax n t bad n).length)) (j+1):=ny hlt
     have hat:(c9 (ax n t bad n).length (ax n t bad n) (fun i=>((ax n t bad n).getD i 0).tdiv (gn (cN n t bad n) (ax n t bad n).length)) (j+1)).getD j 0=((ax n t bad n).getD j 0).tdiv (gn (cN n t bad n) (ax n t bad n).length):=xZ hlt (by omega)
     have lM2:=eN (ax n t bad n).length (ax n t bad n) (fun i=>((ax n t bad n).getD i 0).tdiv (gn (cN n t bad n) (ax n t bad n).length)) (j+1)
     refine nI ?_
     rw[tN]
     conv=>whnf
     rw[kK hlt (Nat.lt_irrefl _)]
     refine yj (by omega) (by omega) ?_
     conv=>whnf
     refine nI ?_
     conv=>whnf
     refine an (((ax n t bad n).getD j 0).tdiv (gn (cN n t bad n) (ax n t bad n).length)) rfl ?_
     rw[tN,hset]
     conv=>whnf
     refine nI ?_
     rw[tN]
     conv=>whnf
     rw[hat]
     refine ai ?_ ?_<;>(intro q3;conv=>whnf)
     ·refine⟨.inr ⟨?_, .inr rfl⟩,rfl⟩
      unfold Ar
      exact if_pos (.inl ⟨j,by omega,by rw[p8 n t bad (by omega)];rw[ax,jU,nD] at q3;exact q3⟩)
     ·repeat' ((first|refine nI ?_|refine aI ?_|refine uI ?_|refine vI ?_|refine dI ?_|refine dR ?_|refine dP ?_|refine ar rfl ?_|refine pI _ rfl ?_|refine an _ rfl ?_|refine tI ?_|refine fI ?_|refine ai (fun _=>?_) (fun _=>?_))<;>conv=>whnf)
      exact⟨j+1,sI,⟨by omega,fun i hi=>by
       by_cases e:i=j
       ·subst e;omega
       ·exact ha i (by omega)⟩,by dsimp only;omega⟩
    ·obtain rfl:(ax n t bad n).length=j:=by omega
     have hno:¬∃j,j<(cN n t bad n).length/\65536<(vZ n t bad).mult.getD j 0:=by
      rintro⟨j,h3,h4⟩
      have h5:=ha j (by omega)
      rw[p8 n t bad h3] at h4
      rw[ax,jU,nD] at h5
      omega
     have hmul:c9 (ax n t bad n).length (ax n t bad n) (fun i=>((ax n t bad n).getD i 0).tdiv (gn (cN n t bad n) (ax n t bad n).length)) (ax n t bad n).length=(vZ n t bad).mult:=by
      rw[kL,qV (fun x=>x.tdiv (gn (cN n t bad n) (ax n t bad n).length)) rfl]
      unfold vZ
      dsimp only
      rw[hlB]
      unfold ax Ae
      rw[List.map_map]
      rfl
     refine CA [(2,2),(4,4),(117,4)] (by decide+kernel) ?_
     conv=>whnf
     refine ai ?_ ?_<;>(intro q3;conv=>whnf)
     ·refine⟨.inl ⟨vZ n t bad,?_,?_⟩,rfl⟩
      ·unfold Ar
       exact if_neg (fun h=>h.elim hno (fun h=>by omega))
      ·rw[hmul]
       rfl
     ·refine⟨.inr ⟨?_, .inl ⟨⟨_,_,_⟩,rfl⟩⟩,rfl⟩
      unfold Ar
      exact if_pos (.inr (by omega))
theorem oF.pv {n m:Nat} {t:b7} {r s:Nat} (ht:oF n m t) (hr:r<m) (hs:s<n) (hp:0<cl t r (s+1)) (hpv:Fw m n t r s):oF n m (so m n t r s):=by
 have h1:=ht.cb r (s+1) hr (by omega)
 unfold ct at h1
 refine⟨by simp[so,ht.bl],by simp[so,ht.fl],by simp[so],fun i hi=>?_,⟨hp,h1.2⟩,fun i j hi hj=>?_⟩
 ·unfold so;dsimp only;rw[am [] (by simpa using hi)];simp
 ·have e:cl (so m n t r s) i j=if i=r then(if j=s+1 then t.den else-cl t r j) else l9 t r s i j:=MU hi hj
  rw[e]
  split
  ·split
   ·have:=ht.dp;unfold ct;omega
   ·have:=ht.cb r j hr hj;unfold ct at*;omega
  ·rename_i h;exact hpv i hi h j hj
theorem qb {n m:Nat} {t:b7} {bad:Int} (p:Nat) (hp:9000<=p):mZ (aO n t m bad p [] [] (aK t)) n m t bad (fun k=>p+k):=
 ⟨rfl,rfl,rfl,⟨_,rfl,fun k _=>rfl⟩,fun k hk=>db (a:=[]) rfl (iX hp) hk,fun k k' _ _ h=>Nat.add_left_cancel h,fun k _=>.inr (by omega)⟩
theorem nE {M:ac} {n m:Nat} {t:b7} {bad:Int} {lab:Nat->Nat} (hT:mZ M n m t bad lab) (hm:t.cel.length=m):∀S F ρ w vs,az S F ρ M w->ba S ρ vs [.ptr 7001 0]->ib (ci S ρ M w) vs [.pd (gq n t bad)]:=by
 intro S F ρ w vs hM hv
 obtain⟨v,vs',rfl,h1,h2⟩:=hv.cons_inv
 rw[h2.nil_inv]
 exact ib.cons (Ad hM hT hm h1) (ib.nil _)
theorem Fn {M:ac} {n m:Nat} {t:b7} {bad r:Int} {lab:Nat->Nat} (hT:mZ M n m t bad lab) (hm:t.cel.length=m):∀S F ρ w vs,az S F ρ M w->ba S ρ vs [.ptr 7001 0, .int .i64 r]->ib (ci S ρ M w) vs [.pd (gq n t bad), .int .i64 r]:=by
 intro S F ρ w vs hM hv
 obtain⟨v,vs',rfl,h1,h2⟩:=hv.cons_inv
 obtain⟨v2,vs2,rfl,h3,h4⟩:=h2.cons_inv
 rw[h4.nil_inv,h3.int_inv]
 exact ib.cons (Ad hM hT hm h1) (ib.cons (.int _ _) (ib.nil _))
def DS (m:Nat) (c:Nat->List Int):ac:=fun x=>match Nat.ble 20000 x&&Nat.blt x (20000+m) with
 |true=>some .dead
 |false=>ij 3 (i4 30000 m []) c x
def x8 (m:Nat) (lab:Nat->Nat) (x:Nat):Option Nat:=match Nat.ble 20000 x&&Nat.blt x (20000+m) with
 |true=>some (x-11000)
 |false=>(i4 30000 m [] x).map lab
theorem oh {m x:Nat}:(Nat.ble 20000 x&&Nat.blt x (20000+m))=true↔20000<=x/\x<20000+m:=by
 rw[Bool.and_eq_true,Nat.ble_eq]
 simp only[Nat.blt,Nat.ble_eq]
 omega
theorem m0 {x:Nat} (h:7005<=x):al c6 x=none:=kP rfl h
theorem qX {n m:Nat} {t:b7} {bad:Int} {lab:Nat->Nat} {M':ac} (hT:mZ M' n m t bad lab) (hh:uk M' m) (hm:m<=10000):cp (bU c6 (x8 m lab)) M' (aY (cR n t m bad 30000 []) (DS m (aK t))):=by
 have hbig:∀{x o},x8 m lab x=some o->20000<=x/\((x<20000+m/\o=x-11000/\DS m (aK t) x=some .dead)\/(30000<=x/\x<30000+m/\o=lab (x-30000)/\DS m (aK t) x=some (.row 3 0 ak (aK t (x-30000))))):=by
  intro x o hx
  unfold x8 at hx
  unfold DS
  cases hb:(Nat.ble 20000 x&&Nat.blt x (20000+m)) with
  |true=>
   rw[hb] at hx
   have:=oh.1 hb
   cases hx
   exact⟨this.1, .inl ⟨this.2,rfl,rfl⟩⟩
  |false=>
   rw[hb] at hx
   dsimp only at hx⊢
   cases hs:i4 30000 m [] x with
   |none=>rw[hs] at hx;cases hx
   |some k=>
    rw[hs] at hx
    obtain⟨h1,h2⟩:=bV (a:=[]) trivial hs
    have h2:30000+k=x:=h2
    cases hx
    unfold ij
    rw[hs]
    have e:x-30000=k:=by omega
    rw[e]
    exact⟨by omega, .inr ⟨by omega,by omega,rfl,rfl⟩⟩
 have hN:∀{x B'},DS m (aK t) x=some B'->∃o,x8 m lab x=some o:=by
  intro x B' hB
  unfold DS at hB
  unfold x8
  cases hb:(Nat.ble 20000 x&&Nat.blt x (20000+m)) with
  |true=>exact⟨_,rfl⟩
  |false=>
   rw[hb] at hB
   dsimp only at hB⊢
   unfold ij at hB
   cases hs:i4 30000 m [] x with
   |none=>rw[hs] at hB;cases hB
   |some k=>exact⟨_,rfl⟩
 refine gK c6 (cR n t m bad 30000 []) (DS m (aK t)) (x8 m lab) 400 rfl ⟨?_,?_,?_,trivial,trivial⟩ (fun ℓ t0 g m' hmem=>?_) ⟨fun x B' hB=>?_,fun x o hx=>?_,fun x y o hx hy h1 h2=>?_,fun x o k hx h1 hk=>?_⟩
 ·show jx c6 400 (M' 7001) _
  rw[hT.box]
  repeat' (first|exact True.intro|exact rfl|(refine And.intro ?_ ?_)|((conv=>whnf);omega)|((conv=>whnf);simp only[List.length_append,List.length_cons,List.length_nil];done)|((conv=>whnf);simp only[List.length_append,List.length_cons,List.length_nil];omega))
 ·show jx c6 400 (M' 7002) _
  rw[hT.bas]
  repeat' (first|exact True.intro|exact rfl|(refine And.intro ?_ ?_)|((conv=>whnf);omega)|((conv=>whnf);simp only[List.length_append,List.length_cons,List.length_nil];done)|((conv=>whnf);simp only[List.length_append,List.length_cons,List.length_nil];omega))
 ·show jx c6 400 (M' 7003) _
  rw[hT.fre]
  repeat' (first|exact True.intro|exact rfl|(refine And.intro ?_ ?_)|((conv=>whnf);omega)|((conv=>whnf);simp only[List.length_append,List.length_cons,List.length_nil];done)|((conv=>whnf);simp only[List.length_append,List.length_cons,List.length_nil];omega))
 ·unfold cR at hmem
  simp only[List.mem_cons,Prod.mk.injEq,List.not_mem_nil,or_false] at hmem
  rcases hmem with ⟨_,h⟩|⟨_,h⟩|⟨_,h⟩|⟨rfl,h⟩
  ·cases h
  ·cases h
  ·cases h
  ·injection h with h1 h2 h3
   subst h1 h2
   have h3':=h3.symm
   subst h3'
   obtain⟨g0,g1,g2⟩:=hT.hdr
   refine⟨g0,g1,fun i hi=>?_⟩
   rw[g2 i hi]
   refine eI.one (kj.row (f9 (m0 (by show 7005<=30000+i;omega)) ?_))
   show x8 m lab (30000+i)=some (lab i)
   unfold x8
   have hb:(Nat.ble 20000 (30000+i)&&Nat.blt (30000+i) (20000+m))=false:=by
    cases hb:(Nat.ble 20000 (30000+i)&&Nat.blt (30000+i) (20000+m)) with
    |false=>rfl
    |true=>have:=oh.1 hb;omega
   rw[hb]
   dsimp only
   have:=lj (p:=30000) (m:=m) (a:=[]) trivial hi
   rw[show eW 30000 [] i=30000+i from rfl] at this
   rw[this]
   rfl
 ·obtain⟨o,ho⟩:=hN hB
  obtain⟨h1,h2⟩:=hbig ho
  refine⟨m0 (by omega),dZ (L:=cR n t m bad 30000 []) rfl (by omega),o,?_⟩
  rcases h2 with ⟨h3,rfl,h4⟩|⟨h3,h4,rfl,h5⟩
  ·rw[h4] at hB
   cases hB
   refine⟨.dead,ho,?_, .inl rfl⟩
   have:=hh.2.2.2.2 (x-20000) (by omega)
   rw[show 9000+(x-20000)=x-11000 by omega] at this
   exact this
  ·rw[h5] at hB
   cases hB
   exact⟨_,ho,hT.row _ (by omega), .inr ⟨rfl,rfl⟩⟩
 ·obtain⟨_,h2⟩:=hbig hx
  rcases h2 with ⟨_,_,h4⟩|⟨_,_,_,h4⟩<;>rw[h4]<;>simp
 ·obtain⟨_,hx2⟩:=hbig hx
  obtain⟨_,hy2⟩:=hbig hy
  rcases hx2 with ⟨_,_,h4⟩|⟨a1,a2,a3,_⟩
  ·exact absurd h4 h1
  rcases hy2 with ⟨_,_,h4⟩|⟨b1,b2,b3,_⟩
  ·exact absurd h4 h2
  have:=hT.inj (x-30000) (y-30000) (by omega) (by omega) (a3.symm.trans b3)
  omega
 ·obtain⟨_,hx2⟩:=hbig hx
  rcases hx2 with ⟨_,_,h4⟩|⟨a1,a2,a3,_⟩
  ·exact absurd h4 h1
  have hf:=hT.far (x-30000) (by omega)
  have:=fx (lm:=c6) rfl hk
  have hk2:7001<=o:=by
   have hmem:=aQ hk
   unfold c6 at hmem
   simp only[List.mem_cons,Prod.mk.injEq,List.not_mem_nil,or_false,LM.old.injEq] at hmem
   omega
  omega
end
end Go.Proofs.YtekmminpfhacpaaGreatDoor
