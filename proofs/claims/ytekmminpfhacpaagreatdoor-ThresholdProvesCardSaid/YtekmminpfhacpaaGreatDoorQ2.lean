import Derived.Test.YtekmminpfhacpaaGreatDoorG6
import Derived.Test.YtekmminpfhacpaaGreatDoorQ1
set_option linter.unusedVariables false
set_option linter.unusedSimpArgs false
namespace Go.Proofs.YtekmminpfhacpaaGreatDoor
section
set_option maxRecDepth 100000
set_option maxHeartbeats 32000000
def dg (n:Nat) (t:cz) (m:Nat) (bad:Int) (p:Nat) (a:List (Nat×Nat)):List (Nat×bf):=
 [(7001, .box 206 [.int .i64 n, .int .i64 t.den, .row 7002 t.bas.length 1, .row 7003 t.fre.length 1, .row 7004 m 1, .int .i64 bad]),(7002, .row 3 0 al t.bas),(7003, .row 3 0 al t.fre),
  (7004, .hdr 24 (fun k=>[.row (fm p a k) (n+1) 1]) m)]
def aY (n:Nat) (t:cz) (m:Nat) (bad:Int) (p:Nat) (a:List (Nat×Nat)) (E:List (Nat×bf)) (c:Nat->List Int):ag:=bh (dg n t m bad p a++E) (iA 3 (jj p m a) c)
def dk:bc:=[(7001, .old 7001),(7002, .old 7002),(7003, .old 7003),(7004, .old 7004)]
def pQ (L:List (Nat×bf)):Bool:=L.all fun q=>Nat.blt q.1 7005
def xP (lm:bc):Bool:=lm.all fun q=>Nat.blt q.1 7005&&(match q.2 with| .old o=>Nat.blt o 7005| .nil _=>true)
def M5:List (Nat×bf)->Prop
 |[]=>True
 |(_, .hdr _ _ _)::_=>False
 |_::r=>M5 r
theorem xQ {E:List (Nat×bf)}:M5 E->∀ℓ t g m',(ℓ,bf.hdr t g m')∈E->False:=by
 induction E with
 |nil=>intro _ _ _ _ _ h;cases h
 |cons x r ih=>
  obtain⟨k,B⟩:=x
  intro h ℓ t g m' hm
  rcases List.mem_cons.1 hm with e|h2
  ·injection e with e1 e2
   subst e2
   exact h
  ·cases B<;>first|exact h.elim|exact ih h ℓ t g m' h2
theorem fQ {lm:bc} (h:xP lm=true) {y o:Nat} (hy:aq lm y=some (.old o)):o<7005:=by
 have:=List.all_eq_true.1 h _ (bd hy)
 rw[Bool.and_eq_true] at this
 have:=this.2
 simp[Nat.blt] at this
 omega
theorem kK {lm:bc} (h:xP lm=true) {x:Nat} (hx:7005<=x):aq lm x=none:=by
 refine LG (p:=7005) ?_ hx
 rw[List.all_eq_true]
 intro q hq
 have:=List.all_eq_true.1 h q hq
 rw[Bool.and_eq_true] at this
 exact this.1
def oy (p m:Nat) (a:List (Nat×Nat)):Prop:=LD p m a/\9000<=p/\∀q∈a,8000<=q.1
theorem jd {p m:Nat} (h:9000<=p):oy p m []:=⟨trivial,h,fun q hq=>by cases hq⟩
theorem z4 {p m r:Nat} (h:9000<=p) (hr:r<m):oy p m [(8802,r)]:=by
 refine⟨⟨by omega,hr,(fun q hq=>by cases hq),trivial⟩,h,fun q hq=>?_⟩
 rcases List.mem_cons.1 hq with rfl|hq
 ·exact(by decide:8000<=8802)
 ·cases hq
theorem Qn {p m r i:Nat} (h:9000<=p) (hr:r<m) (hi:i<m) (hir:i≠r):oy p m [(8802,r),(8801,i)]:=by
 refine⟨⟨by omega,hr,fun q hq=>?_,by omega,hi,(fun q hq=>by cases hq),trivial⟩,h,fun q hq=>?_⟩
 ·rcases List.mem_cons.1 hq with rfl|hq
  ·exact⟨(by decide:8801≠8802),hir⟩
  ·cases hq
 ·rcases List.mem_cons.1 hq with rfl|hq
  ·exact(by decide:8000<=8802)
  ·rcases List.mem_cons.1 hq with rfl|hq
   ·exact(by decide:8000<=8801)
   ·cases hq
theorem oy.big {p m:Nat} {a:List (Nat×Nat)} (h:oy p m a) (k:Nat):8000<=fm p a k:=by
 rcases LE (k:=k) h.1 with h1|⟨q,h1,h2,_⟩
 ·have:=h.2.1;omega
 ·rw[<-h2];exact h.2.2 q h1
theorem oy.key {p m:Nat} {a:List (Nat×Nat)} (h:oy p m a) {x k:Nat} (hx:jj p m a x=some k):8000<=x:=by
 rcases Jg hx with h1|⟨q,h1,h2⟩
 ·have:=h.2.1;omega
 ·rw[<-h2];exact h.2.2 q h1
theorem ej {L:List (Nat×bf)} (h:pQ L=true) {x:Nat} (hx:7005<=x):ag.ofL L x=none:=Jh h hx
theorem kL {n:Nat} {t:cz} {m:Nat} {bad:Int} {p:Nat} {a:List (Nat×Nat)} {E:List (Nat×bf)} (hE:pQ E=true):pQ (dg n t m bad p a++E)=true:=by
 unfold pQ at*
 rw[List.all_append,hE]
 rfl
theorem dw {n:Nat} {t:cz} {m:Nat} {bad:Int} {p:Nat} {a:List (Nat×Nat)} {E:List (Nat×bf)} {c:Nat->List Int} (hE:pQ E=true) (ha:oy p m a) {k:Nat} (hk:k<m):
  aY n t m bad p a E c (fm p a k)=some (.row 3 0 al (c k)):=by
 unfold aY bh
 rw[ej (kL hE) (by have:=ha.big k;omega)]
 dsimp only
 unfold iA
 rw[lh ha.1 hk]
theorem jD {M:ag} {n m:Nat} {t:cz} {bad:Int} {p:Nat} {a:List (Nat×Nat)} {E:List (Nat×bf)} {c:Nat->List Int} (lmE:bc) (lab:Nat->Nat) (hw:oy p m a) (hE:pQ E=true) (hlE:xP lmE=true) (hEh:M5 E)
  (hs:(fA (dk++lmE) (dg n t m bad p a++E)&&eG (dg n t m bad p a++E) (dk++lmE))=true) (hm:ql (dk++lmE) 400 M (dg n t m bad p a++E))
  (hg:∃g,M 7004=some (.hdr 24 g m)/\∀k,k<m->g k=[.row (lab k) (n+1) 1]) (hrow:∀k,k<m->M (lab k)=some (.row 3 0 al (c k)))
  (hlab:∀k k',k<m->k'<m->lab k=lab k'->k=k') (hfar:∀k,k<m->∀y,aq (dk++lmE) y≠some (.old (lab k))):
  cH (cw (dk++lmE) fun x=>(jj p m a x).map lab) M (aY n t m bad p a E c):=by
 have hlow:xP (dk++lmE)=true:=by
  unfold xP at*
  rw[List.all_append,hlE]
  rfl
 refine tq (dk++lmE) (dg n t m bad p a++E) 400 7004 24 3 (n+1) m c (jj p m a) lab (fm p a) hs hm (fun ℓ t0 g m' hmem=>?_) rfl hg hrow (fun x k hx=>?_) (fun x y k hx hy=>?_) (fun k hk=>lh hw.1 hk) hlab (fun k hk y hy=>absurd hy (hfar k hk y))
 ·rcases List.mem_append.1 hmem with h|h
  ·unfold dg at h
   simp only[List.mem_cons,Prod.mk.injEq,List.not_mem_nil,or_false] at h
   rcases h with ⟨_,h⟩|⟨_,h⟩|⟨_,h⟩|⟨h1,h⟩
   ·cases h
   ·cases h
   ·cases h
   ·injection h with e1 e2 e3
    subst e1;subst e2;subst e3
    exact⟨h1,rfl,rfl,fun k _=>rfl⟩
  ·exact(xQ hEh _ _ _ _ h).elim
 ·have:=hw.key hx
  exact⟨(cx hw.1 hx).1,kK hlow (by omega),ej (kL hE) (by omega)⟩
 ·rw[<-(cx hw.1 hx).2,(cx hw.1 hy).2]
theorem xR {M:ag} {fr fr':List AV} {D:List Nat} {n m:Nat} {t:cz} {bad:Int} {p:Nat} {a:List (Nat×Nat)} {E:List (Nat×bf)} {c:Nat->List Int} (lmE lmF:bc) (lab:Nat->Nat) (hw:oy p m a) (hE:pQ E=true) (hlE:xP lmE=true) (hEh:M5 E)
  (hs:(fA (dk++lmE) (dg n t m bad p a++E)&&eG (dg n t m bad p a++E) (dk++lmE))=true) (hm:ql (dk++lmE) 400 M (dg n t m bad p a++E))
  (hg:∃g,M 7004=some (.hdr 24 g m)/\∀k,k<m->g k=[.row (lab k) (n+1) 1]) (hrow:∀k,k<m->M (lab k)=some (.row 3 0 al (c k)))
  (hlab:∀k k',k<m->k'<m->lab k=lab k'->k=k') (hfar:∀k,k<m->∀y,aq (dk++lmE) y≠some (.old (lab k)))
  (hD:∀d∈D,aq (dk++lmE) d=some (.old d)) (hlF:∀k y,aq lmF k=some y->cw (dk++lmE) (fun x=>(jj p m a x).map lab) k=some y) (hf:i3 lmF 400 fr fr'):aH D fr M fr' (aY n t m bad p a E c):=
 aH.gen _ (jD lmE lab hw hE hlE hEh hs hm hg hrow hlab hfar) (fun d h=>cE d _ (hD d h)) (eW.by_ 400 hlF hf)
theorem Ki {n m:Nat} {t:cz} {bad:Int} {p:Nat} {a:List (Nat×Nat)} {E:List (Nat×bf)} {c:Nat->List Int} (hE:pQ E=true) (ha:oy p m a) {i:Nat} (hi:i<m) (l:List Int):
  (aY n t m bad p a E c).set (fm p a i) (.row 3 0 al l)=aY n t m bad p a E (fun k=>if k=i then l else c k):=by
 funext x
 by_cases e:x=fm p a i
 ·subst e
  rw[ag.set_eq,dw hE ha hi,if_pos rfl]
 ·rw[ag.set_ne _ _ e]
  unfold aY bh
  cases hL:ag.ofL (dg n t m bad p a++E) x with
  |some B=>rfl
  |none=>
   dsimp only
   unfold iA
   cases hσ:jj p m a x with
   |none=>rfl
   |some k=>
    have h1:=cx ha.1 hσ
    have:k≠i:=fun h=>e (by rw[<-h1.2,h])
    dsimp only
    rw[if_neg this]
theorem rr {k:Nat} {y:LM} {b:bc}:∀{a:bc},aq a k=some y->aq (a++b) k=some y
 |(k1,z1)::a,h=>by
  rw[List.cons_append,aq]
  rw[aq] at h
  split
  ·rename_i hb;rw[hb] at h;exact h
  ·rename_i hb;rw[hb] at h;exact rr h
theorem HO {u:AV} {k:AV->Prop} (h:k u):gX u k:=by rw[b7];exact h
theorem Kj {fr:List AV} {d:Option Tmp} {u:AV} {k:List AV->Prop} (h:k (cA fr d u)):mf fr d u k:=by rw[fj];exact h
theorem BT {P:Program} {tt:TT} {all r:List Oper} {fr:List AV} {M:ag} {K:List AV->ag->Prop} {t ty:TypeId} {ps:String} {af:Array Edge} {a b:Operand} {ℓ j:Nat} {v:Int} {rt:TypeId} {l:List Int} {i:TI}
  (ha:cY fr a= .rel ℓ j 0) (hb:cY fr b= .int .i64 v) (ht:tt.find t=some i) (hi:i.size=1) (hM:M ℓ=some (.row rt (0:Int) al l)) (hk:cF P tt none all r fr (M.set ℓ (.row rt 0 al (l.set j v))) K):
  cF P tt none all ({dst:=none,op:=.store t a b,type:=ty,pos:=ps,after:=af,guard:=none}::r) fr M K:=by
 simp only[cF]
 rw[be]
 simp only[gv,aG,List.map_cons,List.map_nil,ha,hb,aZ,sK,d5,bM,ht,hi,eD,hM,cA]
 exact ak v rfl hk
theorem BU {P:Program} {tt:TT} {all r:List Oper} {fr:List AV} {M:ag} {K:List AV->ag->Prop} {t ty:TypeId} {ps:String} {af:Array Edge} {a b:Operand} {ℓ j:Nat} {x:AV} {cs:List AV} {rt:TypeId} {g:Nat->List AV} {m:Nat} {i:TI}
  (g':Nat->List AV) (ha:cY fr a= .rel ℓ j 0) (hb:cY fr b=x) (hc:bM x=some cs) (ht:tt.find t=some i) (hM:M ℓ=some (.hdr rt g m)) (h1:Nat.beq cs.length i.size=true) (h2:allOne cs=true) (h3:Nat.ble (0+cs.length) (g j).length=true)
  (hg:(fun k=>match Nat.beq k j with|true=>eR (g j) 0 cs|false=>g k)=g') (hk:cF P tt none all r fr (M.set ℓ (.hdr rt g' m)) K):
  cF P tt none all ({dst:=none,op:=.store t a b,type:=ty,pos:=ps,after:=af,guard:=none}::r) fr M K:=by
 simp only[cF]
 rw[be]
 simp only[gv,aG,List.map_cons,List.map_nil,ha,hb,aZ,sK,hc,ht,hM,h1,h2,h3,cA]
 subst hg
 exact hk
theorem fe {c:Prop} {u u':AV} {K:AV->Prop} (h:c) (e:u=u') (hk:gX u' K):iv c (gX u K):=by subst e;exact bg h hk
theorem nu {n m:Nat} {t:cz} {bad:Int} {p:Nat} {a:List (Nat×Nat)} {E:List (Nat×bf)} {c:Nat->List Int} (hE:pQ E=true) {x:Nat} (h1:7005<=x) (h2:x<p) (h3:Ed a x=none):aY n t m bad p a E c x=none:=by
 unfold aY bh
 rw[ej (kL hE) h1]
 dsimp only
 unfold iA jj
 rw[h3]
 have:Nat.ble p x=false:=by
  cases h:Nat.ble p x with
  |false=>rfl
  |true=>have:=Nat.le_of_ble_eq_true h;omega
 rw[this]
 rfl
theorem pR {n m:Nat} {t:cz} {bad:Int} {p:Nat} {c:Nat->List Int} {x:Nat} (h:aY n t m bad p [] [] c x≠none):x∈[7001,7002,7003,7004]\/∃k,k<m/\x=p+k:=by
 unfold aY bh at h
 cases hL:ag.ofL (dg n t m bad p []++[]) x with
 |some B=>
  left
  have:=fR hL
  rw[List.append_nil] at this
  unfold dg at this
  simp only[List.mem_cons,Prod.mk.injEq,List.not_mem_nil,or_false] at this⊢
  rcases this with ⟨h,_⟩|⟨h,_⟩|⟨h,_⟩|⟨h,_⟩<;>simp[h]
 |none=>
  right
  rw[hL] at h
  dsimp only at h
  unfold iA at h
  cases hσ:jj p m [] x with
  |none=>rw[hσ] at h;exact absurd rfl h
  |some k=>
   have:=cx (a:=[]) trivial hσ
   exact⟨k,this.1,this.2.symm⟩
theorem M6 {P:Program} {tt:TT} {D:List Nat} {c:Code} {fr:List AV} {M M':ag} {Q:dY} (hs:aH D fr M fr M') (h:bX P tt D c fr M' Q):Cy P tt D c fr M Q:=LH hs h
theorem HP {n m:Nat} {t:cz} {bad:Int} {r:Nat} {c:Nat->List Int} (hr:r<m) {M:ag} {fr fr':List AV} {l:List Int} (h1:ql (dk++[(141, .old 141)]) 400 M (dg n t m bad 20000 [(8802,r)]++[(141, .row 3 0 al l)])) (h2:∃g,M 7004=some (.hdr 24 g m)/\∀k,k<m->g k=[.row (fm 20000 [(8802,r)] k) (n+1) 1])
  (h3:∀k,k<m->M (fm 20000 [(8802,r)] k)=some (.row 3 0 al (c k))) (h4:i3 (dk++[(141, .old 141),(8802, .old 8802)]) 400 fr fr'):
  aH [7001,7002,7003,7004] fr M fr' (aY n t m bad 20000 [(8802,r)] [(141, .row 3 0 al l)] c):=by
 have f1:=z4 (p:=20000) (m:=m) (by decide) hr
 have lr:fm 20000 [(8802,r)] r=8802:=by rw[fm,Nat.beq_refl]
 have e1:∀k k',k<m->k'<m->fm 20000 [(8802,r)] k=fm 20000 [(8802,r)] k'->k=k':=fun k k' h h' e=>pg f1.1 h h' e
 have e2:∀k,k<m->∀y,aq (dk++[(141, .old 141)]) y≠some (.old (fm 20000 [(8802,r)] k)):=by
  intro k hk y hy
  have:=fQ (lm:=dk++[(141, .old 141)]) rfl hy
  have:=f1.big k
  omega
 have e3:∀d∈[7001,7002,7003,7004],aq (dk++[(141, .old 141)]) d=some (.old d):=by
  intro d hd
  simp only[List.mem_cons,List.not_mem_nil,or_false] at hd
  rcases hd with rfl|rfl|rfl|rfl<;>rfl
 have e4:∀q∈[(141,LM.old 141),(8802,LM.old 8802)],cw (dk++[(141, .old 141)]) (fun x=>(jj 20000 m [(8802,r)] x).map (fm 20000 [(8802,r)])) q.1=some q.2:=by
  intro q hq
  simp only[List.mem_cons,List.not_mem_nil,or_false] at hq
  rcases hq with rfl|rfl
  ·exact cE _ _ rfl
  ·refine gw rfl ?_
   show(some r).map (fm 20000 [(8802,r)])=some 8802
   rw[Option.map_some,lr]
 have e5:∀k y,aq (dk++[(141, .old 141),(8802, .old 8802)]) k=some y->cw (dk++[(141, .old 141)]) (fun x=>(jj 20000 m [(8802,r)] x).map (fm 20000 [(8802,r)])) k=some y:=
  tp (fun k y h=>cE k y (rr h)) e4
 have g1:pQ [(141,bf.row 3 0 al l)]=true:=rfl
 have g2:xP [(141,LM.old 141)]=true:=rfl
 have g3:M5 [(141,bf.row 3 0 al l)]:=trivial
 have g4:(fA (dk++[(141, .old 141)]) (dg n t m bad 20000 [(8802,r)]++[(141, .row 3 0 al l)])&&eG (dg n t m bad 20000 [(8802,r)]++[(141, .row 3 0 al l)]) (dk++[(141, .old 141)]))=true:=rfl
 have q1:=xR (M:=M) (fr:=fr) (fr':=fr') (D:=[7001,7002,7003,7004]) (n:=n) (m:=m) (t:=t) (bad:=bad) (p:=20000) (a:=[(8802,r)]) (E:=[(141, .row 3 0 al l)]) (c:=c) [(141, .old 141)] (dk++[(141, .old 141),(8802, .old 8802)]) (fm 20000 [(8802,r)]) f1 g1 g2 g3
 have q2:=q1 g4
 have q3:=q2 h1
 have q4:=q3 h2 h3 e1
 have q5:=q4 e2 e3
 have q6:=q5 e5
 exact q6 h4
theorem mQ {n m:Nat} {t:cz} {bad:Int} {p:Nat} {a a':List (Nat×Nat)} {c:Nat->List Int} {fr fr':List AV} (ha:oy p m a) (ha':oy p m a') (lmX:bc) (hX:∀q∈lmX,cw (dk++[]) (fun x=>(jj p m a' x).map (fm p a)) q.1=some q.2)
  (hf:i3 (dk++lmX) 400 fr fr'):aH [7001,7002,7003,7004] fr (aY n t m bad p a [] c) fr' (aY n t m bad p a' [] c):=by
 refine xR (lmE:=[]) (dk++lmX) (fm p a) ha' rfl rfl trivial rfl (aa) ⟨_,rfl,fun k _=>rfl⟩ (fun k hk=>dw rfl ha hk) (fun k k' h h' e=>pg ha.1 h h' e)
  (fun k hk y hy=>by have:=fQ (lm:=dk++[]) rfl hy;have:=ha.big k;omega) (fun d hd=>?_) (tp (fun k y h=>cE k y (by rw[List.append_nil];exact h)) hX) hf
 simp only[List.mem_cons,List.not_mem_nil,or_false] at hd
 rcases hd with rfl|rfl|rfl|rfl<;>rfl
set_option maxHeartbeats 64000000
structure oz (n m:Nat) (t:cz):Prop where
 bl:t.bas.length=m
 fl:t.fre.length=n
 cm:t.cel.length=m
 cn:∀i,i<m->(t.cel.getD i []).length=n+1
 dp:0<t.den/\t.den<=1073741824
 cb:∀i j,i<m->j<n+1->cM (cl t i j)
def aR (t:cz) (k:Nat):List Int:=t.cel.getD k []
structure mR (M:ag) (n m:Nat) (t:cz) (bad:Int) (lab:Nat->Nat):Prop where
 box:M 7001=some (.box 206 [.int .i64 n, .int .i64 t.den, .row 7002 t.bas.length 1, .row 7003 t.fre.length 1, .row 7004 m 1, .int .i64 bad])
 bas:M 7002=some (.row 3 0 al t.bas)
 fre:M 7003=some (.row 3 0 al t.fre)
 hdr:∃g,M 7004=some (.hdr 24 g m)/\∀k,k<m->g k=[.row (lab k) (n+1) 1]
 row:∀k,k<m->M (lab k)=some (.row 3 0 al (aR t k))
 inj:∀k k',k<m->k'<m->lab k=lab k'->k=k'
 far:∀k,k<m->lab k<7001\/7005<=lab k
def uo (M:ag) (m:Nat):Prop:=M 7001≠none/\M 7002≠none/\M 7003≠none/\M 7004≠none/\∀k,k<m->M (9000+k)=some .dead
def nY (n:Nat) (t:cz) (r s i:Nat) (k:Nat):List Int:=if k<i/\k≠r then(List.range (n+1)).map (l4 t r s k) else aR t k
theorem HQ (n:Nat) (t:cz) (r s:Nat):nY n t r s 0=aR t:=by
 funext k
 unfold nY
 rw[if_neg (by omega)]
theorem HR (n:Nat) (t:cz) (r s i:Nat):nY n t r s i r=aR t r:=by
 unfold nY
 rw[if_neg (by omega)]
theorem OY (n:Nat) (t:cz) (r s i:Nat):nY n t r s i i=aR t i:=by
 unfold nY
 rw[if_neg (by omega)]
theorem HS (n:Nat) (t:cz) (r s:Nat):nY n t r s (r+1)=nY n t r s r:=by
 funext k
 unfold nY
 by_cases h:k<r/\k≠r
 ·rw[if_pos h,if_pos (by omega)]
 ·rw[if_neg h,if_neg (by omega)]
def rz (n:Nat) (t:cz) (r s i j:Nat) (k:Nat):List Int:=if k=i then cW (n+1) (aR t i) (l4 t r s i) j else nY n t r s i k
theorem z5 (n:Nat) (t:cz) (r s i j:Nat):rz n t r s i j i=cW (n+1) (aR t i) (l4 t r s i) j:=if_pos rfl
theorem OZ {n:Nat} {t:cz} {r s i j:Nat} (h:i≠r):rz n t r s i j r=aR t r:=by
 unfold rz
 rw[if_neg (fun e=>h e.symm),HR]
theorem xS {n:Nat} {c:List Int} {f:Nat->Int} {i j:Nat} (h:i<n) (hj:i<j):(cW n c f j).getD i 0=f i:=by
 rw[ap 0 (by rw[dU];exact h)]
 simp only[cW,List.getElem_map,List.getElem_range]
 rw[if_pos hj]
theorem HT {a b:Int} (ha:cM a) (hb:cM b):-1152921504606846976<=a*b/\a*b<=1152921504606846976:=by
 unfold cM at ha hb
 have h1:(a*b).natAbs<=1073741824*1073741824:=by
  rw[Int.natAbs_mul]
  exact Nat.mul_le_mul (by omega) (by omega)
 omega
theorem sq {n m:Nat} {t:cz} {bad:Int} {M:ag} (hm:m<=10000) (h0:∀k,k<m->M (9000+k)=none) (h1:M 7001≠none) (h2:M 7002≠none) (h3:M 7003≠none) (h4:M 7004≠none):
  (∀x,aY n t m bad 9000 [] [] (aR t) x≠none->x∉[7001,7002,7003,7004]->M x=none)/\uo (dZ (aY n t m bad 9000 [] [] (aR t)) [7001,7002,7003,7004] M) m:=by
 have hd:∀x,x∈[7001,7002,7003,7004]->dZ (aY n t m bad 9000 [] [] (aR t)) [7001,7002,7003,7004] M x=M x:=fun x h=>tn h
 refine⟨fun x hx hxD=>?_,?_,?_,?_,?_,fun k hk=>?_⟩
 ·rcases pR hx with h|⟨k,hk,rfl⟩
  ·exact absurd h hxD
  ·exact h0 k hk
 ·rw[hd _ (by simp)];exact h1
 ·rw[hd _ (by simp)];exact h2
 ·rw[hd _ (by simp)];exact h3
 ·rw[hd _ (by simp)];exact h4
 ·refine nc ?_ (by simp only[List.mem_cons,List.not_mem_nil,or_false];omega)
  have:=dw (n:=n) (t:=t) (m:=m) (bad:=bad) (E:=[]) (c:=aR t) rfl (jd (p:=9000) (by decide)) hk
  rw[show fm 9000 [] k=9000+k from rfl] at this
  rw[this];simp
theorem HU {n m:Nat} {t:cz} {bad:Int} {r s:Nat} {M:ag} (ht:oz n m t) (hm:m<=10000) (hr:r<m) (hs:s<n) (hpv:Fi m n t r s)
  (f1:M 7001=some (.box 206 [.int .i64 n, .int .i64 (cl t r (s+1)), .row 7002 t.bas.length 1, .row 7003 t.fre.length 1, .row 7004 m 1, .int .i64 bad])) (f2:M 7002=some (.row 3 0 al (t.bas.set r (t.fre.getD s 0)))) (f3:M 7003=some (.row 3 0 al (t.fre.set s (t.bas.getD r 0))))
  (f4:∃g,M 7004=some (.hdr 24 g m)/\g r=[.row 141 (n+1) 1]/\∀k,k<m->k≠r->g k=[.row (20000+k) (n+1) 1]) (f5:M 141=some (.row 3 0 al ((cW (n+1) (List.replicate (n+1) 0) (fun j=>0-cl t r j) (n+1)).set (s+1) t.den)))
  (f6:∀k,k<m->k≠r->M (20000+k)=some (.row 3 0 al (nY n t r s m k))) (f0:∀k,k<m->M (9000+k)=none):
  (∀x,aY n t m bad 9000 [] [] (aR t) x≠none->x∉[7001,7002,7003,7004]->M x=none)/\(Fi m n t r s/\AV.bool true= .bool true/\uo (dZ (aY n t m bad 9000 [] [] (aR t)) [7001,7002,7003,7004] M) m/\
   ∃lab,mR (dZ (aY n t m bad 9000 [] [] (aR t)) [7001,7002,7003,7004] M) n m (sj m n t r s) bad lab/\∀k,k<m->lab k<9000\/9000+m<=lab k):=by
 obtain⟨e1,e2⟩:=sq (n:=n) (t:=t) (bad:=bad) hm f0 (by rw[f1];simp) (by rw[f2];simp) (by rw[f3];simp) (by obtain⟨g,h,_⟩:=f4;rw[h];simp)
 have hd:∀x,x∈[7001,7002,7003,7004]->dZ (aY n t m bad 9000 [] [] (aR t)) [7001,7002,7003,7004] M x=M x:=fun x h=>tn h
 have hnew:∀x,(x<7001\/9000+m<=x)->dZ (aY n t m bad 9000 [] [] (aR t)) [7001,7002,7003,7004] M x=M x:=by
  intro x hx
  refine vy ?_
  cases h:aY n t m bad 9000 [] [] (aR t) x with
  |none=>rfl
  |some B=>
   rcases pR (by rw[h];simp) with h2|⟨k,hk,rfl⟩
   ·simp only[List.mem_cons,List.not_mem_nil,or_false] at h2;omega
   ·omega
 have hcel:∀k,k<m->aR (sj m n t r s) k=(List.range (n+1)).map fun j=>if k=r then(if j=s+1 then t.den else-cl t r j) else l4 t r s k j:=by
  intro k hk
  show((List.range m).map fun i=>(List.range (n+1)).map fun j=>if i=r then(if j=s+1 then t.den else-cl t r j) else l4 t r s i j).getD k []=_
  rw[ap [] (by simpa using hk)]
  simp
 have hline:(cW (n+1) (List.replicate (n+1) 0) (fun j=>0-cl t r j) (n+1)).set (s+1) t.den=aR (sj m n t r s) r:=by
  rw[hcel r hr,iH]
  apply List.ext_getElem
  ·simp
  ·intro j h1 h2
   rw[List.getElem_set]
   simp only[List.getElem_map,List.getElem_range]
   by_cases e:s+1=j
   ·rw[if_pos e,if_pos trivial,if_pos e.symm]
   ·rw[if_neg e,if_pos trivial,if_neg (fun h=>e h.symm),Int.zero_sub]
 have hrow:∀k,k<m->k≠r->nY n t r s m k=aR (sj m n t r s) k:=by
  intro k hk hkr
  unfold nY
  rw[if_pos ⟨hk,hkr⟩,hcel k hk]
  congr 1
  funext j
  rw[if_neg hkr]
 refine⟨e1,hpv,rfl,e2,fun k=>if k=r then 141 else 20000+k,⟨?_,?_,?_,?_,fun k hk=>?_,fun k k' hk hk' h=>?_,fun k hk=>?_⟩,fun k hk=>?_⟩
 ·rw[hd _ (by simp),f1]
  simp only[sj,List.length_set]
 ·rw[hd _ (by simp),f2]
  rfl
 ·rw[hd _ (by simp),f3]
  rfl
 ·obtain⟨g,g1,g2,g3⟩:=f4
  refine⟨g,by rw[hd _ (by simp),g1],fun k hk=>?_⟩
  by_cases e:k=r
  ·rw[if_pos e,e,g2]
  ·rw[if_neg e,g3 k hk e]
 ·by_cases e:k=r
  ·subst e
   rw[if_pos rfl,hnew _ (.inl (by omega)),f5,hline]
  ·rw[if_neg e,hnew _ (.inr (by omega)),f6 k hk e,hrow k hk e]
 ·by_cases e:k=r
  ·rw[if_pos e] at h
   by_cases e':k'=r
   ·rw[e,e']
   ·rw[if_neg e'] at h;omega
  ·rw[if_neg e] at h
   by_cases e':k'=r
   ·rw[if_pos e'] at h;omega
   ·rw[if_neg e'] at h;omega
 ·by_cases e:k=r<;>simp only[e,if_true,if_false]<;>omega
 ·by_cases e:k=r<;>simp only[e,if_true,if_false]<;>omega
theorem Kk {a b c:Prop} (h:a/\b):a/\(b\/c):=⟨h.1, .inl h.2⟩
theorem M7 (n m:Nat) (t:cz) (bad:Int) (r s:Nat) (ht:oz n m t) (hn:n<=1000) (hm:m<=10000) (hr:r<m) (hs:s<n) (hp:cl t r (s+1)≠0):
  aj Tryz.prog 216 [.ptr 7001 0, .int .i64 (r:Int), .int .i64 (s:Int)] (aY n t m bad 9000 [] [] (aR t))
   (fun u M'=>(Fi m n t r s/\u= .bool true/\uo M' m/\∃lab,mR M' n m (sj m n t r s) bad lab/\∀k,k<m->lab k<9000\/9000+m<=lab k)\/(¬Fi m n t r s/\u= .bool false/\uo M' m)):=by
 have hb:=ht.bl
 have hf:=ht.fl
 have hc:=ht.cm
 refine aj.introG (args':=[.ptr 7001 0, .int .i64 (r:Int), .int .i64 (s:Int)]) (M1:=aY n t m bad 20000 [(8802,r)] [] (aR t)) ab ac (cw (dk++[]) fun x=>(jj 20000 m [(8802,r)] x).map (fm 9000 [])) [7001,7002,7003,7004]
  (jD (M:=aY n t m bad 9000 [] [] (aR t)) [] (fm 9000 []) (z4 (by decide) hr) rfl rfl trivial rfl (aa) ⟨_,rfl,fun k _=>rfl⟩ (fun k hk=>dw rfl (jd (by decide)) hk) (fun k k' h h' e=>pg (jd (p:=9000) (by decide)).1 h h' e)
   (fun k hk y hy=>by have:=fQ (lm:=dk++[]) rfl hy;have:=(jd (p:=9000) (m:=m) (by decide)).big k;omega))
  (fun d hd=>cE d _ (by
   simp only[List.mem_cons,List.not_mem_nil,or_false] at hd
   rcases hd with rfl|rfl|rfl|rfl<;>rfl))
  (eW.by_ (lm:=dk) 400 cE (aa)) Tryz.func216 rfl (by decide) ?_
 have lr:fm 20000 [(8802,r)] r=8802:=by rw[fm,Nat.beq_refl]
 have hrl:(aR t r).length=n+1:=ht.cn r hr
 have es:((s:Int)+1).toNat=s+1:=by omega
 conv=>whnf
 refine nI ?_
 rw[tN]
 conv=>whnf
 refine aI ?_
 conv=>whnf
 refine nI ?_
 rw[lr,es]
 conv=>whnf
 refine nI ?_
 rw[tN]
 conv=>whnf
 rw[lr]
 have hX1:∀{a':List (Nat×Nat)},Ed a' 8802=some r->∀q∈[(8802,LM.old 8802)],cw (dk++[]) (fun x=>(jj 20000 m a' x).map (fm 20000 [(8802,r)])) q.1=some q.2:=by
  intro a' h q hq
  simp only[List.mem_cons,List.not_mem_nil,or_false] at hq
  subst hq
  refine gw rfl ?_
  dsimp only
  unfold jj
  rw[h]
  dsimp only[Option.map_some]
  rw[lr]
 refine aJ.loopM ab ac (fun i:Nat=>i<=m/\∀q,q<i->q≠r->∀j,j<n+1->cM (l4 t r s q j)) (fun i=>[(37, .int .i64 (i:Int))]) (fun i=>aY n t m bad 20000 [(8802,r)] [] (nY n t r s i)) (fun i=>m-i) 0 ⟨Nat.zero_le _,fun q hq=>absurd hq (Nat.not_lt_zero _)⟩ ?_
 conv=>whnf
 refine⟨?_,?_⟩
 ·show aH _ _ _ _ _
  rw[HQ]
  exact mQ (z4 (by decide) hr) (z4 (by decide) hr) [(8802, .old 8802)] (hX1 rfl) (aa)
 rintro i ⟨hi,ha⟩
 by_cases hlt:i<m
 case neg=>
  refine ju ?_
  conv=>whnf
  refine fI ?_
  conv=>whnf
  refine x7 0 al 0 rfl (by dsimp only;omega) ?_
  rw[tN]
  conv=>whnf
  obtain rfl:i=m:=by omega
  have f1:=z4 (p:=20000) (m:=i) (by decide) hr
  have hcr:nY n t r s i r=aR t r:=HR n t r s i
  refine aJ.loopM ab ac (fun j:Nat=>j<=n+1) (fun j=>[(144, .int .i64 (j:Int))]) (fun j=>aY n t i bad 20000 [(8802,r)] [(141, .row 3 0 al (cW (n+1) (List.replicate (n+1) 0) (fun j=>0-cl t r j) j))] (nY n t r s i)) (fun j=>n+1-j) 0 (Nat.zero_le _) ?_
  conv=>whnf
  have hsub:∀{M:ag} {fr fr':List AV} {l:List Int},ql (dk++[(141, .old 141)]) 400 M (dg n t i bad 20000 [(8802,r)]++[(141, .row 3 0 al l)])->(∃g,M 7004=some (.hdr 24 g i)/\∀k,k<i->g k=[.row (fm 20000 [(8802,r)] k) (n+1) 1])->
    (∀k,k<i->M (fm 20000 [(8802,r)] k)=some (.row 3 0 al (nY n t r s i k)))->i3 (dk++[(141, .old 141),(8802, .old 8802)]) 400 fr fr'->
    aH [7001,7002,7003,7004] fr M fr' (aY n t i bad 20000 [(8802,r)] [(141, .row 3 0 al l)] (nY n t r s i)):=by
   intro M fr fr' l h1 h2 h3 h4
   exact HP hr h1 h2 h3 h4
  have hset:∀{B:bf} {E:List (Nat×bf)},pQ E=true->∀k,k<i->((aY n t i bad 20000 [(8802,r)] E (nY n t r s i)).set 141 B) (fm 20000 [(8802,r)] k)=some (.row 3 0 al (nY n t r s i k)):=by
   intro B E hE k hk
   have:=f1.big k
   rw[ag.set_ne _ _ (by omega)]
   exact dw hE f1 hk
  refine⟨?_,?_⟩
  ·show aH _ _ _ _ _
   rw[gc _ (by simp)]
   exact hsub (aa) ⟨_,rfl,fun k _=>rfl⟩ (hset rfl) (aa)
  rintro j hj
  have lM:=dU (n+1) (List.replicate (n+1) 0) (fun j=>0-cl t r j) j
  by_cases hj1:j<n+1
  ·refine ju ?_
   conv=>whnf
   refine tI ?_
   conv=>whnf
   have hol:(nY n t r s i r).getD j 0=cl t r j:=by rw[hcr];rfl
   have bj:cM ((nY n t r s i r).getD j 0):=by rw[hol];exact ht.cb r j hr hj1
   unfold cM at bj
   refine fe (u':=.rel 8802 j 0) (by omega) (by rw[tN]) ?_
   conv=>whnf
   refine aI ?_
   conv=>whnf
   refine fe (u':=.rel 141 j 0) (by omega) (by rw[tN]) ?_
   conv=>whnf
   refine ak (0-cl t r j) (by rw[hol];rfl) ?_
   conv=>whnf
   refine aI ?_
   conv=>whnf
   refine⟨j+1,?_,by omega,by dsimp only;omega⟩
   dsimp only
   rw[j9 (f:=fun j=>0-cl t r j) hj1]
   exact hsub (aa) ⟨_,rfl,fun k _=>rfl⟩ (hset rfl) (aa)
  ·obtain rfl:j=n+1:=by omega
   generalize hL0:cW (n+1) (List.replicate (n+1) 0) (fun j=>0-cl t r j) (n+1)=L0 at lM⊢
   refine ju ?_
   conv=>whnf
   refine fI ?_
   conv=>whnf
   refine aI ?_
   conv=>whnf
   refine fe (u':=.rel 141 (s+1) 0) (by omega) (by rw[es]) ?_
   refine HO ?_
   refine Kj ?_
   refine BT rfl rfl rfl rfl rfl ?_
   conv=>whnf
   refine fe (u':=.rel 7004 r 0) (by omega) (by rw[tN]) ?_
   refine HO ?_
   refine Kj ?_
   refine BU (fun k=>match Nat.beq k r with|true=>[.row 141 (n+1) 1]|false=>[.row (fm 20000 [(8802,r)] k) (n+1) 1]) rfl rfl rfl rfl rfl rfl rfl rfl (by funext k;cases Nat.beq k r<;>rfl) ?_
   conv=>whnf
   first|refine dI ?_|refine eI (by decide+kernel) ?_|refine dR ?_
   conv=>whnf
   refine fe (u':=.rel 7003 s 0) (by omega) (by rw[tN]) ?_
   conv=>whnf
   refine fe (u':=.rel 7002 r 0) (by omega) (by rw[tN]) ?_
   conv=>whnf
   refine fe (u':=.rel 7002 r 0) (by omega) (by rw[tN]) ?_
   conv=>whnf
   refine ak (t.fre.getD s 0) rfl ?_
   conv=>whnf
   refine fe (u':=.rel 7003 s 0) (by omega) (by rw[tN]) ?_
   conv=>whnf
   refine ak (t.bas.getD r 0) rfl ?_
   conv=>whnf
   have hlb:∀k,k≠r->fm 20000 [(8802,r)] k=20000+k:=fun k hk=>pf (by rw[Ff,o9 (fun e=>hk e.symm)];rfl)
   refine Kk (HU ht hm hr hs (fun q hq hqr j hj=>ha q hq hqr j hj) rfl rfl rfl ⟨_,rfl,?_,fun k hk hkr=>?_⟩ ?_ (fun k hk hkr=>?_) (fun k hk=>?_))
   ·rw[Nat.beq_refl]
   ·rw[o9 hkr,hlb k hkr]
   ·rw[hL0];rfl
   ·rw[ag.set_ne _ _ (by omega),ag.set_ne _ _ (by omega),ag.set_ne _ _ (by omega),ag.set_ne _ _ (by omega),ag.set_ne _ _ (by omega),<-hlb k hkr]
    exact dw rfl f1 hk
   ·rw[ag.set_ne _ _ (by omega),ag.set_ne _ _ (by omega),ag.set_ne _ _ (by omega),ag.set_ne _ _ (by omega),ag.set_ne _ _ (by omega)]
    exact nu rfl (by omega) (by omega) (by simp only[Ed];rw[o9 (by omega)])
 by_cases hir:i=r
 ·subst hir
  conv=>whnf
  refine ju ?_
  conv=>whnf
  refine tI ?_
  conv=>whnf
  refine cO rfl ?_
  conv=>whnf
  refine aI ?_
  conv=>whnf
  refine⟨i+1,?_,⟨by omega,fun q hq hqr=>ha q (by omega) hqr⟩,by dsimp only;omega⟩
  dsimp only
  rw[HS]
  exact mQ (z4 (by decide) hr) (z4 (by decide) hr) [(8802, .old 8802)] (hX1 rfl) (aa)
 ·have f1:=z4 (p:=20000) (m:=m) (by decide) hr
  have f2:=Qn (p:=20000) (m:=m) (by decide) hr hlt hir
  have li:fm 20000 [(8802,r),(8801,i)] i=8801:=by rw[fm,o9 (fun e=>hir e.symm)];dsimp only;rw[fm,Nat.beq_refl]
  have lr2:fm 20000 [(8802,r),(8801,i)] r=8802:=by rw[fm,Nat.beq_refl]
  have hil:(aR t i).length=n+1:=ht.cn i hlt
  have hci:nY n t r s i i=aR t i:=OY n t r s i
  have hcr:nY n t r s i r=aR t r:=HR n t r s i
  have hX2:∀q∈[(8802,LM.old 8802),(8801,LM.old 8801)],cw (dk++[]) (fun x=>(jj 20000 m [(8802,r),(8801,i)] x).map (fm 20000 [(8802,r),(8801,i)])) q.1=some q.2:=by
   intro q hq
   simp only[List.mem_cons,List.not_mem_nil,or_false] at hq
   rcases hq with rfl|rfl
   ·refine gw rfl ?_
    show(some r).map (fm 20000 [(8802,r),(8801,i)])=some 8802
    rw[Option.map_some,lr2]
   ·refine gw rfl ?_
    show(some i).map (fm 20000 [(8802,r),(8801,i)])=some 8801
    rw[Option.map_some,li]
  have hX3:∀q∈[(8802,LM.old 8802)],cw (dk++[]) (fun x=>(jj 20000 m [(8802,r)] x).map (fm 20000 [(8802,r),(8801,i)])) q.1=some q.2:=by
   intro q hq
   simp only[List.mem_cons,List.not_mem_nil,or_false] at hq
   subst hq
   refine gw rfl ?_
   show(some r).map (fm 20000 [(8802,r),(8801,i)])=some 8802
   rw[Option.map_some,lr2]
  conv=>whnf
  refine M6 (mQ f1 f2 [(8802, .old 8802)] (hX1 rfl) (aa)) ?_
  conv=>whnf
  refine tI ?_
  conv=>whnf
  refine fI ?_
  conv=>whnf
  refine nI ?_
  rw[tN]
  conv=>whnf
  refine aI ?_
  conv=>whnf
  refine nI ?_
  rw[li,es]
  conv=>whnf
  refine nI ?_
  rw[tN]
  conv=>whnf
  rw[li]
  refine aJ.loopM ab ac (fun j:Nat=>j<=n+1/\∀y,y<j->cM (l4 t r s i y)) (fun j=>[(62, .int .i64 (j:Int))]) (fun j=>aY n t m bad 20000 [(8802,r),(8801,i)] [] (rz n t r s i j)) (fun j=>n+1-j) 0 ⟨Nat.zero_le _,fun q hq=>absurd hq (Nat.not_lt_zero _)⟩ ?_
  conv=>whnf
  refine⟨?_,?_⟩
  ·show aH _ _ _ _ _
   have e:rz n t r s i 0=nY n t r s i:=by
    funext k
    unfold rz
    by_cases e:k=i
    ·subst e;rw[if_pos rfl,gc _ hil,hci]
    ·rw[if_neg e]
   rw[e]
   exact mQ f2 f2 [(8802, .old 8802),(8801, .old 8801)] hX2 (aa)
  rintro j ⟨hj,hb2⟩
  have hset:(aY n t m bad 20000 [(8802,r),(8801,i)] [] (rz n t r s i j)).set 8801 (.row 3 0 al (cW (n+1) (aR t i) (l4 t r s i) (j+1)))=
    aY n t m bad 20000 [(8802,r),(8801,i)] [] (rz n t r s i (j+1)):=by
   have e:=Ki (n:=n) (t:=t) (bad:=bad) (E:=[]) (c:=rz n t r s i j) rfl f2 hlt (cW (n+1) (aR t i) (l4 t r s i) (j+1))
   rw[li] at e
   rw[e]
   congr 1
   funext k
   unfold rz
   by_cases h:k=i
   ·rw[if_pos h,if_pos h]
   ·rw[if_neg h,if_neg h,if_neg h]
  have lM:=dU (n+1) (aR t i) (l4 t r s i) j
  by_cases hj1:j<n+1
  case neg=>
   refine ju ?_
   conv=>whnf
   refine fI ?_
   conv=>whnf
   refine aI ?_
   conv=>whnf
   refine⟨i+1,?_,⟨by omega,fun q hq hqr=>?_⟩,by dsimp only;omega⟩
   ·obtain rfl:j=n+1:=by omega
    dsimp only
    have e:rz n t r s i (n+1)=nY n t r s (i+1):=by
     funext k
     unfold rz nY
     by_cases h:k=i
     ·subst h
      rw[if_pos rfl,if_pos ⟨by omega,hir⟩,iH]
     ·rw[if_neg h]
      by_cases h2:k<i/\k≠r
      ·rw[if_pos h2,if_pos (by omega)]
      ·rw[if_neg h2,if_neg (by omega)]
    rw[e]
    exact mQ f2 f1 [(8802, .old 8802)] hX3 (aa)
   ·by_cases e:q=i
    ·subst e;exact fun y hy=>hb2 y (by omega)
    ·exact ha q (by omega) hqr
  refine ju ?_
  conv=>whnf
  refine tI ?_
  conv=>whnf
  have up:(cW (n+1) (aR t i) (l4 t r s i) j).set j (l4 t r s i j)=cW (n+1) (aR t i) (l4 t r s i) (j+1):=j9 hj1
  have at_j:(cW (n+1) (aR t i) (l4 t r s i) (j+1)).getD j 0=l4 t r s i j:=xS hj1 (Nat.lt_succ_self j)
  have lM2:=dU (n+1) (aR t i) (l4 t r s i) (j+1)
  have hget:((rz n t r s i j i).set j (l4 t r s i j)).getD j 0=l4 t r s i j:=by rw[z5,up,at_j]
  have hend:¬Fi m n t r s->(∀x,aY n t m bad 9000 [] [] (aR t) x≠none->x∉[7001,7002,7003,7004]->((aY n t m bad 20000 [(8802,r),(8801,i)] [] (rz n t r s i j)).set 8801 (.row 3 0 al ((rz n t r s i j i).set j (l4 t r s i j)))) x=none)/\
    (¬Fi m n t r s/\AV.bool false= .bool false/\uo (dZ (aY n t m bad 9000 [] [] (aR t)) [7001,7002,7003,7004] ((aY n t m bad 20000 [(8802,r),(8801,i)] [] (rz n t r s i j)).set 8801 (.row 3 0 al ((rz n t r s i j i).set j (l4 t r s i j))))) m):=by
   intro hb0
   rw[z5,up,hset]
   have:=sq (n:=n) (t:=t) (bad:=bad) (M:=aY n t m bad 20000 [(8802,r),(8801,i)] [] (rz n t r s i (j+1))) hm (fun k hk=>nu rfl (by omega) (by omega) (by
    simp only[Ed]
    rw[o9 (by omega),o9 (by omega)])) (by simp[aY,bh,dg,ag.ofL]) (by simp[aY,bh,dg,ag.ofL]) (by simp[aY,bh,dg,ag.ofL]) (by simp[aY,bh,dg,ag.ofL])
   exact⟨this.1,hb0,rfl,this.2⟩
  have hbad:¬cM (l4 t r s i j)->¬Fi m n t r s:=fun h hh=>h (hh i hlt hir j hj1)
  have next:∀q,q<j+1->cM (l4 t r s i j)->cM (l4 t r s i q):=fun q hq hv=>by
   by_cases e:q=j
   ·subst e;exact hv
   ·exact hb2 q (by omega)
  refine aI ?_
  conv=>whnf
  refine ae ?_ ?_<;>(intro g;conv=>whnf)
  ·have hv1:(nY n t r s i i).getD (s+1) 0=l4 t r s i j:=by
    rw[hci]
    unfold l4
    rw[if_pos (by omega)]
    rfl
   refine fe (u':=.rel 7004 i 0) (by omega) (by rw[tN]) ?_
   conv=>whnf
   refine fe (u':=.rel 8801 j 0) (by omega) (by rw[li,tN]) ?_
   conv=>whnf
   refine ak (l4 t r s i j) (by rw[hv1];rfl) ?_
   conv=>whnf
   refine fe (u':=.rel 7004 i 0) (by omega) (by rw[tN]) ?_
   conv=>whnf
   refine fe (u':=.rel 8801 j 0) (by omega) (by rw[li,tN]) ?_
   conv=>whnf
   refine ae ?_ ?_<;>(intro g2;conv=>whnf)
   ·rw[hget] at g2
    have he:=hend (hbad fun h=>by unfold cM at h;omega)
    exact⟨he.1, .inr he.2⟩
   rw[hget] at g2
   refine fe (u':=.rel 7004 i 0) (by omega) (by rw[tN]) ?_
   conv=>whnf
   refine fe (u':=.rel 8801 j 0) (by omega) (by rw[li,tN]) ?_
   conv=>whnf
   refine ae ?_ ?_<;>(intro g3;conv=>whnf)
   ·rw[hget] at g3
    have he:=hend (hbad fun h=>by unfold cM at h;omega)
    exact⟨he.1, .inr he.2⟩
   rw[hget] at g3
   refine aI ?_
   conv=>whnf
   refine⟨j+1,?_,⟨by omega,fun q hq=>next q hq (by unfold cM;omega)⟩,by dsimp only;omega⟩
   dsimp only
   rw[z5,up,hset]
   exact mQ f2 f2 [(8802, .old 8802),(8801, .old 8801)] hX2 (aa)
  ·have hcl:(rz n t r s i j i).getD j 0=cl t i j:=by rw[z5,gG hj1 (Nat.lt_irrefl _)];rfl
   have hol:(rz n t r s i j r).getD j 0=cl t r j:=by rw[OZ hir];rfl
   have hkl:(nY n t r s i i).getD (s+1) 0=cl t i (s+1):=by rw[hci];rfl
   have hv2:((aR t r).getD (s+1) 0*(rz n t r s i j i).getD j 0-(nY n t r s i i).getD (s+1) 0*(rz n t r s i j r).getD j 0).tdiv t.den=l4 t r s i j:=by
    rw[hcl,hol,hkl]
    unfold l4
    rw[if_neg (by omega)]
    rfl
   have b1:=HT (a:=(aR t r).getD (s+1) 0) (b:=(rz n t r s i j i).getD j 0) (ht.cb r (s+1) hr (by omega)) (by rw[hcl];exact ht.cb i j hlt hj1)
   have b2:=HT (a:=(nY n t r s i i).getD (s+1) 0) (b:=(rz n t r s i j r).getD j 0) (by rw[hkl];exact ht.cb i (s+1) hlt (by omega)) (by rw[hol];exact ht.cb r j hr hj1)
   have b3:=BN ((aR t r).getD (s+1) 0*(rz n t r s i j i).getD j 0-(nY n t r s i i).getD (s+1) 0*(rz n t r s i j r).getD j 0) t.den (m:=2305843009213693952) (by omega)
   have hd0:=ht.dp
   first|refine dI ?_|refine eI (by decide+kernel) ?_
   conv=>whnf
   refine fe (u':=.rel 7004 i 0) (by omega) (by rw[tN]) ?_
   conv=>whnf
   refine fe (u':=.rel 7004 i 0) (by omega) (by rw[tN]) ?_
   conv=>whnf
   refine fe (u':=.rel 8801 j 0) (by omega) (by rw[li,tN]) ?_
   conv=>whnf
   refine aI ?_
   conv=>whnf
   refine fe (u':=.rel 8802 j 0) (by omega) (by rw[tN]) ?_
   conv=>whnf
   refine aI ?_
   conv=>whnf
   refine aI ?_
   conv=>whnf
   refine nK (by omega) (by omega) ?_
   conv=>whnf
   refine fe (u':=.rel 8801 j 0) (by omega) (by rw[li,tN]) ?_
   conv=>whnf
   refine ak (l4 t r s i j) (by rw[hv2];rfl) ?_
   conv=>whnf
   refine fe (u':=.rel 7004 i 0) (by omega) (by rw[tN]) ?_
   conv=>whnf
   refine fe (u':=.rel 8801 j 0) (by omega) (by rw[li,tN]) ?_
   conv=>whnf
   refine ae ?_ ?_<;>(intro g2;conv=>whnf)
   ·rw[hget] at g2
    have he:=hend (hbad fun h=>by unfold cM at h;omega)
    exact⟨he.1, .inr he.2⟩
   rw[hget] at g2
   refine fe (u':=.rel 7004 i 0) (by omega) (by rw[tN]) ?_
   conv=>whnf
   refine fe (u':=.rel 8801 j 0) (by omega) (by rw[li,tN]) ?_
   conv=>whnf
   refine ae ?_ ?_<;>(intro g3;conv=>whnf)
   ·rw[hget] at g3
    have he:=hend (hbad fun h=>by unfold cM at h;omega)
    exact⟨he.1, .inr he.2⟩
   rw[hget] at g3
   refine aI ?_
   conv=>whnf
   refine⟨j+1,?_,⟨by omega,fun q hq=>next q hq (by unfold cM;omega)⟩,by dsimp only;omega⟩
   dsimp only
   rw[z5,up,hset]
   exact mQ f2 f2 [(8802, .old 8802),(8801, .old 8801)] hX2 (aa)
def wm (l:List Int):List AV:=[.sl 0 al l]
def gM (n:Nat) (t:cz) (bad:Int):List AV:=[.int .i64 n, .int .i64 t.den, .sl 0 al t.bas, .sl 0 al t.fre, .sl [] wm t.cel, .int .i64 bad]
section
variable {S F:ai} {ρ:aE} {M:ag} {w:World}
theorem z6 {ℓ:Nat} {B:bf} {b:fh} (h1:M ℓ=some B) (h2:ρ ℓ=some b) (h3:F4 B=true) (h4:B.live b):cG S ρ M w b.blk=w.heap[b.blk]?:=by
 unfold cG
 rw[if_pos ⟨ℓ,B,b,h1,h2,h3,h4,rfl⟩]
theorem uq (hM:aD S F ρ M w) {ℓ n sz:Nat} {t:TypeId} {l:List Int} (hl:M ℓ=some (.row t (0:Int) al l)) {v:Value} (h:RV S ρ v (.row ℓ n sz)):RP (cG S ρ M w) v (.sl 0 al l):=by
 have:=rO hM h
 have e:wV M (.row ℓ n sz)= .sl 0 al l:=by simp only[wV,hl]
 rw[e] at this
 exact this.sl_inv
theorem HV (hM:aD S F ρ M w) {ℓ n sz:Nat} {t ti:TypeId} {g:Nat->List AV} {c:List (List Int)} {q:Nat} {lab:Nat->Nat} (hl:M ℓ=some (.hdr t g c.length)) (hg:∀k,k<c.length->g k=[.row (lab k) q 1])
  (hrow:∀k,k<c.length->M (lab k)=some (.row ti (0:Int) al (c.getD k []))) {v:Value} (h:RV S ρ v (.row ℓ n sz)):RP (cG S ρ M w) v (.sl [] wm c):=by
 obtain⟨b,hb,hn,hs,hz,rfl⟩:=h.row_inv
 obtain⟨b',hb',l,hlm,hgv,hlen,hszs,hcase⟩:=hM.blk _ _ hl
 rw[hb] at hb';cases hb'
 rcases hcase with ⟨hnil,rfl,hcap⟩|⟨hnil,hcap,vs,hheap,hsize,hcell,hS,hF⟩
 ·have hc0:c=[]:=List.eq_nil_of_length_eq_zero (by simpa using hlm.symm)
  subst hc0
  have hl0:b.len=0:=by simpa using hlen
  have e:b.hdr= .slice none ([]:List (List Int)).length 0:=by simp[fh.hdr,hnil,hl0,hcap]
  rw[e]
  exact .sl [] wm [] none 0 0 (fun _ _=>undef) (by simp) (by simp) (by simp) (by simp) (by simp) (by simp)
 ·have hlc:c.length=l.length:=by omega
  have e:b.hdr= .slice (some ⟨b.blk,0,none⟩) c.length b.cap:=by simp[fh.hdr,hnil,hlen,hlc]
  rw[e]
  have hone:∀i,i<c.length->∃x,l.getD i []=[x]/\RV S ρ x (.row (lab i) q 1):=by
   intro i hi
   have h1:=hgv i hi
   rw[hg i hi] at h1
   obtain⟨x,xs,e1,h2,h3⟩:=h1.cons_inv
   rw[h3.nil_inv] at e1
   exact⟨x,e1,h2⟩
  have hbs:∀i,i<c.length->b.sz=1:=by
   intro i hi
   obtain⟨x,hx,_⟩:=hone i hi
   have:=(hszs _ (List.getElem_mem (show i<l.length by omega))).1
   have e2:l.getD i []=l[i]'(by omega):=by rw[gD,gL (by omega)];rfl
   rw[<-e2,hx] at this
   simpa[ba] using this.symm
  have hl1:cG S ρ M w b.blk=some (.cells vs t (0,0)):=by rw[z6 hl hb rfl hnil];exact hheap
  have hval:∀i,i<c.length->∃x,vs[i]? =some x/\RV S ρ x (.row (lab i) q 1):=by
   intro i hi
   obtain⟨x,hx,hr⟩:=hone i hi
   have e2:l[i]? =some [x]:=by
    rw[<-hx,gD,gL (by omega)];rfl
   obtain⟨v,hv,hv2⟩:=hcell i [x] 0 (.val x) e2 rfl
   cases hv2
   rw[hbs i hi,Nat.mul_one,Nat.add_zero] at hv
   exact⟨x,hv,hr⟩
  refine .sl [] wm c (some ⟨b.blk,0,none⟩) b.cap 1 (fun i _=>vs.getD i undef) (by omega) (fun a _=>rfl) (fun a _=>rfl) (fun i j hi hj=>⟨_,rfl,?_⟩) (by simp) (fun i a j u hi hu=>?_)
  ·obtain⟨x,hx,_⟩:=hval i hi
   have hj0:j=0:=by omega
   subst hj0
   rw[Addr.add_mk]
   simp only[ai.cell,hl1]
   simp[hx]
  ·have hil:=(List.getElem?_eq_some_iff.1 hi).1
   obtain⟨x,hx,hr⟩:=hval i hil
   have hj0:j=0:=by
    have:=(List.getElem?_eq_some_iff.1 hu).1
    simp[wm] at this;omega
   subst hj0
   simp[wm] at hu
   subst hu
   have ha:c.getD i []=a:=by rw[gD,hi];rfl
   have:=uq hM (hrow i hil) hr
   rw[ha] at this
   simp[hx]
   exact this
theorem z7 (hM:aD S F ρ M w) {n m:Nat} {t:cz} {bad:Int} {lab:Nat->Nat} (hT:mR M n m t bad lab) (hm:t.cel.length=m) {v:Value} (h:RV S ρ v (.ptr 7001 0)):RP (cG S ρ M w) v (.pd (gM n t bad)):=by
 obtain⟨b,hb,rfl⟩:=h.ptr_inv
 obtain⟨b',hb',vs,hheap,hvs,hS,hF⟩:=hM.blk _ _ hT.box
 rw[hb] at hb';cases hb'
 have hl1:cG S ρ M w b.blk=some (.cells vs 206 (0,0)):=by rw[z6 hT.box hb rfl trivial];exact hheap
 have hlen:=hvs.1
 simp only[Array.length_toList,List.length_cons,List.length_nil] at hlen
 have hle:=mv (S:=S) (F:=F) hM
 refine .pd _ _ (fun j=>vs.getD j undef) (fun j hj=>?_) (fun j u hu=>?_)
 ·rw[Addr.add_mk,Nat.zero_add]
  have:j<vs.size:=by simp[gM] at hj;omega
  simp only[ai.cell,hl1]
  simp[this]
 ·have get:∀{u0:AV},[AV.int .i64 n, .int .i64 t.den, .row 7002 t.bas.length 1, .row 7003 t.fre.length 1, .row 7004 m 1, .int .i64 bad][j]? =some u0->RV S ρ (vs.getD j undef) u0:=by
   intro u0 h0
   obtain⟨v,hv,hr⟩:=hvs.2 j u0 h0
   have hv':vs[j]? =some v:=by simpa using hv
   simpa[hv'] using hr
  obtain⟨g,hg1,hg2⟩:=hT.hdr
  match j,hu with
  |0,hu=>simp[gM] at hu;subst hu;rw[(get rfl).int_inv];exact .int _ _
  |1,hu=>simp[gM] at hu;subst hu;rw[(get rfl).int_inv];exact .int _ _
  |2,hu=>simp[gM] at hu;subst hu;exact uq hM hT.bas (get rfl)
  |3,hu=>simp[gM] at hu;subst hu;exact uq hM hT.fre (get rfl)
  |4,hu=>
   simp[gM] at hu;subst hu
   subst hm
   exact HV hM hg1 hg2 (fun k hk=>hT.row k hk) (get rfl)
  |5,hu=>simp[gM] at hu;subst hu;rw[(get rfl).int_inv];exact .int _ _
  |j+6,hu=>simp[gM] at hu
end
theorem O0 (t:cz) (k:Nat):-1<=jm t k/\jm t k<k:=sk t k
theorem HW (n m:Nat) (t:cz) (bad:Int) (ht:oz n m t) (hm:m<=100000) (hn:n<=100000):ah Tryz.prog 214 [.pd (gM n t bad)] (fun u=>u= .int .i64 (jm t m)):=by
 have hb:=ht.bl
 have hc:=ht.cm
 refine ah.intro ab ac Tryz.func214 rfl (by decide) ?_;(conv=>whnf)
 refine aJ.loopF ab ac (fun k:Nat=>k<=m) (fun k=>[(10, .int .i64 (k:Int)),(3, .int .i64 (jm t k))]) (fun _=>[]) (fun k=>m-k) 0 (Nat.zero_le _) ?_;conv=>whnf
 refine⟨sI,?_⟩
 rintro k hk
 have hl:=O0 t k
 have hup:jm t (k+1)=if cl t k 0<0/\(jm t k<0\/t.bas.getD k 0<t.bas.getD (jm t k).toNat 0) then(k:Int) else jm t k:=rfl
 conv=>whnf
 refine ae ?_ ?_<;>(intro h1;conv=>whnf)
 ·have hlt:k<m:=by omega
  have hcn:=ht.cn k hlt
  first|refine dP ?_|refine dI ?_
  conv=>whnf
  refine nI ?_
  rw[tN]
  conv=>whnf
  refine nI ?_
  conv=>whnf
  refine ae ?_ ?_<;>(intro h2;conv=>whnf)
  ·have e2:cl t k 0<0:=h2
   refine ae ?_ ?_<;>(intro h3;conv=>whnf)
   ·rw[if_pos ⟨e2, .inl h3⟩] at hup
    repeat' ((first|refine nI ?_|refine aI ?_|refine uI ?_|refine vI ?_|refine dI ?_|refine dR ?_|refine dP ?_|refine au rfl ?_|refine pI _ rfl ?_|refine ak _ rfl ?_|refine tI ?_|refine fI ?_|refine ae (fun _=>?_) (fun _=>?_))<;>conv=>whnf)
    exact⟨k+1,by dsimp only;rw[hup];exact sI,by omega,by dsimp only;omega⟩
   ·refine nI ?_
    rw[tN]
    conv=>whnf
    refine nI ?_
    conv=>whnf
    refine ae ?_ ?_<;>(intro h4;conv=>whnf)
    ·rw[if_pos ⟨e2, .inr h4⟩] at hup
     repeat' ((first|refine nI ?_|refine aI ?_|refine uI ?_|refine vI ?_|refine dI ?_|refine dR ?_|refine dP ?_|refine au rfl ?_|refine pI _ rfl ?_|refine ak _ rfl ?_|refine tI ?_|refine fI ?_|refine ae (fun _=>?_) (fun _=>?_))<;>conv=>whnf)
     exact⟨k+1,by dsimp only;rw[hup];exact sI,by omega,by dsimp only;omega⟩
    ·rw[if_neg (fun h=>h.2.elim h3 h4)] at hup
     repeat' ((first|refine nI ?_|refine aI ?_|refine uI ?_|refine vI ?_|refine dI ?_|refine dR ?_|refine dP ?_|refine au rfl ?_|refine pI _ rfl ?_|refine ak _ rfl ?_|refine tI ?_|refine fI ?_|refine ae (fun _=>?_) (fun _=>?_))<;>conv=>whnf)
     exact⟨k+1,by dsimp only;rw[hup];exact sI,by omega,by dsimp only;omega⟩
  ·have e2:¬cl t k 0<0:=h2
   rw[if_neg (fun h=>e2 h.1)] at hup
   repeat' ((first|refine nI ?_|refine aI ?_|refine uI ?_|refine vI ?_|refine dI ?_|refine dR ?_|refine dP ?_|refine au rfl ?_|refine pI _ rfl ?_|refine ak _ rfl ?_|refine tI ?_|refine fI ?_|refine ae (fun _=>?_) (fun _=>?_))<;>conv=>whnf)
   exact⟨k+1,by dsimp only;rw[hup];exact sI,by omega,by dsimp only;omega⟩
 ·obtain rfl:k=m:=by omega
  exact⟨rfl,rfl⟩
end
section
set_option maxRecDepth 100000
set_option maxHeartbeats 32000000
theorem E0 (n m:Nat) (t:cz) (bad r:Int) (ht:oz n m t) (hm:m<=100000) (hn:n<=100000) (hr:0<=r/\r<m):ah Tryz.prog 215 [.pd (gM n t bad), .int .i64 r] (fun u=>u= .int .i64 (p5 t r.toNat n)):=by
 have hb:=ht.fl
 have hc:=ht.cm
 have hcn:=ht.cn r.toNat (by omega)
 refine ah.intro ab ac Tryz.func215 rfl (by decide) ?_;(conv=>whnf)
 refine aJ.loopF ab ac (fun k:Nat=>k<=n) (fun k=>[(12, .int .i64 (k:Int)),(5, .int .i64 (p5 t r.toNat k))]) (fun _=>[]) (fun k=>n-k) 0 (Nat.zero_le _) ?_;conv=>whnf
 refine⟨sI,?_⟩
 rintro k hk
 have hl:=sm t r.toNat k
 have hup:p5 t r.toNat (k+1)=if 0<cl t r.toNat (k+1)/\(p5 t r.toNat k<0\/t.fre.getD k 0<t.fre.getD (p5 t r.toNat k).toNat 0) then(k:Int) else p5 t r.toNat k:=rfl
 conv=>whnf
 refine ae ?_ ?_<;>(intro h1;conv=>whnf)
 ·have hlt:k<n:=by omega
  have ek:((k:Int)+1).toNat=k+1:=by omega
  first|refine dP ?_|refine dI ?_
  conv=>whnf
  refine nI ?_
  conv=>whnf
  refine aI ?_
  conv=>whnf
  refine nI ?_
  rw[ek]
  conv=>whnf
  refine ae ?_ ?_<;>(intro h2;conv=>whnf)
  ·have e2:0<cl t r.toNat (k+1):=h2
   refine ae ?_ ?_<;>(intro h3;conv=>whnf)
   ·rw[if_pos ⟨e2, .inl h3⟩] at hup
    repeat' ((first|refine nI ?_|refine aI ?_|refine uI ?_|refine vI ?_|refine dI ?_|refine dR ?_|refine dP ?_|refine au rfl ?_|refine pI _ rfl ?_|refine ak _ rfl ?_|refine tI ?_|refine fI ?_|refine ae (fun _=>?_) (fun _=>?_))<;>conv=>whnf)
    exact⟨k+1,by dsimp only;rw[hup];exact sI,by omega,by dsimp only;omega⟩
   ·refine nI ?_
    rw[tN]
    conv=>whnf
    refine nI ?_
    conv=>whnf
    refine ae ?_ ?_<;>(intro h4;conv=>whnf)
    ·rw[if_pos ⟨e2, .inr h4⟩] at hup
     repeat' ((first|refine nI ?_|refine aI ?_|refine uI ?_|refine vI ?_|refine dI ?_|refine dR ?_|refine dP ?_|refine au rfl ?_|refine pI _ rfl ?_|refine ak _ rfl ?_|refine tI ?_|refine fI ?_|refine ae (fun _=>?_) (fun _=>?_))<;>conv=>whnf)
     exact⟨k+1,by dsimp only;rw[hup];exact sI,by omega,by dsimp only;omega⟩
    ·rw[if_neg (fun h=>h.2.elim h3 h4)] at hup
     repeat' ((first|refine nI ?_|refine aI ?_|refine uI ?_|refine vI ?_|refine dI ?_|refine dR ?_|refine dP ?_|refine au rfl ?_|refine pI _ rfl ?_|refine ak _ rfl ?_|refine tI ?_|refine fI ?_|refine ae (fun _=>?_) (fun _=>?_))<;>conv=>whnf)
     exact⟨k+1,by dsimp only;rw[hup];exact sI,by omega,by dsimp only;omega⟩
  ·have e2:¬0<cl t r.toNat (k+1):=h2
   rw[if_neg (fun h=>e2 h.1)] at hup
   repeat' ((first|refine nI ?_|refine aI ?_|refine uI ?_|refine vI ?_|refine dI ?_|refine dR ?_|refine dP ?_|refine au rfl ?_|refine pI _ rfl ?_|refine ak _ rfl ?_|refine tI ?_|refine fI ?_|refine ae (fun _=>?_) (fun _=>?_))<;>conv=>whnf)
   exact⟨k+1,by dsimp only;rw[hup];exact sI,by omega,by dsimp only;omega⟩
 ·obtain rfl:k=n:=by omega
  exact⟨rfl,rfl⟩
structure HX (m:Nat) (t:cz):Prop where
 dp:0<t.den/\t.den<=1073741824
 cb:∀i,i<m->-1073741824<=cl t i 0/\cl t i 0<=1073741824
theorem wo (n m:Nat) (t:cz) (bad:Int) (ht:oz n m t) (hB:HX m t) (hm:m<=100000) (hn:n<=100000):ah Tryz.prog 134 [.pd (gM n t bad)] (fun u=>u= .tup [.int .i64 (cC n t m).1, .int .i64 (cC n t m).2]):=by
 have hb:=ht.bl
 have hc:=ht.cm
 have hd:=hB.dp
 refine ah.intro ab ac Tryz.func134 rfl (by decide) ?_;(conv=>whnf)
 refine aJ.loopF ab ac (fun k:Nat=>k<=m) (fun k=>[(13, .int .i64 (k:Int)),(4, .int .i64 (cC n t k).1),(5, .int .i64 (cC n t k).2)]) (fun _=>[]) (fun k=>m-k) 0 (Nat.zero_le _) ?_;conv=>whnf
 refine⟨sI,?_⟩
 rintro k hk
 have hup:cC n t (k+1)=if t.bas.getD k 0<n/\(cl t k 0).tmod t.den≠0/\((cC n t k).1<0\/t.bas.getD k 0<(cC n t k).1) then(t.bas.getD k 0,(cl t k 0).tdiv t.den) else cC n t k:=rfl
 conv=>whnf
 refine ae ?_ ?_<;>(intro h1;conv=>whnf)
 ·have hlt:k<m:=by omega
  have hcn:=ht.cn k hlt
  have hcb:=hB.cb k hlt
  have hcb':-1073741824<=(t.cel.getD k []).getD (Int.toNat 0) 0/\(t.cel.getD k []).getD (Int.toNat 0) 0<=1073741824:=hcb
  refine nI ?_
  rw[tN]
  conv=>whnf
  refine dI ?_
  conv=>whnf
  refine ae ?_ ?_<;>(intro h2;conv=>whnf)
  ·refine nI ?_
   rw[tN]
   conv=>whnf
   refine nI ?_
   conv=>whnf
   refine nI ?_
   conv=>whnf
   refine ae ?_ ?_<;>(intro h3;conv=>whnf)
   ·have e3:(cl t k 0).tmod t.den≠0:=h3
    have hq:-1073741824<=((t.cel.getD k []).getD (Int.toNat 0) 0).tdiv t.den/\((t.cel.getD k []).getD (Int.toNat 0) 0).tdiv t.den<=1073741824:=by
     have:=Int.natAbs_tdiv_le_natAbs ((t.cel.getD k []).getD (Int.toNat 0) 0) t.den
     omega
    have put:∀(h5:(cC n t k).1<0\/t.bas.getD k 0<(cC n t k).1),cC n t (k+1)=(t.bas.getD k 0,(cl t k 0).tdiv t.den):=fun h5=>by rw[hup,if_pos ⟨h2,e3,h5⟩]
    refine ae ?_ ?_<;>(intro h4;conv=>whnf)
    ·have e1:=put (.inl h4)
     refine dI ?_
     conv=>whnf
     refine nI ?_
     rw[tN]
     conv=>whnf
     refine nI ?_
     conv=>whnf
     refine nK (by omega) (by omega) ?_
     conv=>whnf
     repeat' ((first|refine nI ?_|refine aI ?_|refine uI ?_|refine vI ?_|refine dI ?_|refine dR ?_|refine dP ?_|refine au rfl ?_|refine pI _ rfl ?_|refine ak _ rfl ?_|refine tI ?_|refine fI ?_|refine ae (fun _=>?_) (fun _=>?_))<;>conv=>whnf)
     exact⟨k+1,by dsimp only;rw[e1];exact sI,by omega,by dsimp only;omega⟩
    ·refine ae ?_ ?_<;>(intro h5;conv=>whnf)
     ·have e1:=put (.inr h5)
      refine dI ?_
      conv=>whnf
      refine nI ?_
      rw[tN]
      conv=>whnf
      refine nI ?_
      conv=>whnf
      refine nK (by omega) (by omega) ?_
      conv=>whnf
      repeat' ((first|refine nI ?_|refine aI ?_|refine uI ?_|refine vI ?_|refine dI ?_|refine dR ?_|refine dP ?_|refine au rfl ?_|refine pI _ rfl ?_|refine ak _ rfl ?_|refine tI ?_|refine fI ?_|refine ae (fun _=>?_) (fun _=>?_))<;>conv=>whnf)
      exact⟨k+1,by dsimp only;rw[e1];exact sI,by omega,by dsimp only;omega⟩
     ·rw[if_neg (fun h=>h.2.2.elim h4 h5)] at hup
      repeat' ((first|refine nI ?_|refine aI ?_|refine uI ?_|refine vI ?_|refine dI ?_|refine dR ?_|refine dP ?_|refine au rfl ?_|refine pI _ rfl ?_|refine ak _ rfl ?_|refine tI ?_|refine fI ?_|refine ae (fun _=>?_) (fun _=>?_))<;>conv=>whnf)
      exact⟨k+1,by dsimp only;rw[hup];exact sI,by omega,by dsimp only;omega⟩
   ·rw[if_neg (fun h=>h3 h.2.1)] at hup
    repeat' ((first|refine nI ?_|refine aI ?_|refine uI ?_|refine vI ?_|refine dI ?_|refine dR ?_|refine dP ?_|refine au rfl ?_|refine pI _ rfl ?_|refine ak _ rfl ?_|refine tI ?_|refine fI ?_|refine ae (fun _=>?_) (fun _=>?_))<;>conv=>whnf)
    exact⟨k+1,by dsimp only;rw[hup];exact sI,by omega,by dsimp only;omega⟩
  ·rw[if_neg (fun h=>h2 h.1)] at hup
   repeat' ((first|refine nI ?_|refine aI ?_|refine uI ?_|refine vI ?_|refine dI ?_|refine dR ?_|refine dP ?_|refine au rfl ?_|refine pI _ rfl ?_|refine ak _ rfl ?_|refine tI ?_|refine fI ?_|refine ae (fun _=>?_) (fun _=>?_))<;>conv=>whnf)
   exact⟨k+1,by dsimp only;rw[hup];exact sI,by omega,by dsimp only;omega⟩
 ·obtain rfl:k=m:=by omega
  exact⟨rfl,rfl⟩
theorem HY (n m:Nat) (t:cz) (bad:Int) (ht:oz n m t) (hB:HX m t) (hm:m<=100000) (hn:n<=1000) (hbs:∀i,i<m->0<=t.bas.getD i 0):ah Tryz.prog 136 [.pd (gM n t bad)] (fun u=>u= .sl 0 al (lX n t m)):=by
 have hb:=ht.bl
 have hc:=ht.cm
 have hd:=hB.dp
 refine ah.intro ab ac Tryz.func136 rfl (by decide) ?_;(conv=>whnf)
 refine x7 0 al 0 rfl (by dsimp only;omega) ?_
 rw[tN]
 conv=>whnf
 refine aJ.loopF ab ac (fun k:Nat=>k<=m) (fun k=>[(16, .int .i64 (k:Int))]) (fun k=>[(10, .row 3 0 al (lX n t k))]) (fun k=>m-k) 0 (Nat.zero_le _) ?_;conv=>whnf
 refine⟨sI,?_⟩
 rintro k hk
 have hup:lX n t (k+1)=if t.bas.getD k 0<n then(lX n t k).set (t.bas.getD k 0).toNat ((cl t k 0).tdiv t.den) else lX n t k:=rfl
 have hpl:=ka n t k
 conv=>whnf
 refine ae ?_ ?_<;>(intro h1;conv=>whnf)
 ·have hlt:k<m:=by omega
  have hcn:=ht.cn k hlt
  have hcb:=hB.cb k hlt
  have hcb':-1073741824<=(t.cel.getD k []).getD (Int.toNat 0) 0/\(t.cel.getD k []).getD (Int.toNat 0) 0<=1073741824:=hcb
  have hq:-1073741824<=((t.cel.getD k []).getD (Int.toNat 0) 0).tdiv t.den/\((t.cel.getD k []).getD (Int.toNat 0) 0).tdiv t.den<=1073741824:=by
   have:=Int.natAbs_tdiv_le_natAbs ((t.cel.getD k []).getD (Int.toNat 0) 0) t.den
   omega
  have hb0:=hbs k hlt
  refine nI ?_
  rw[tN]
  conv=>whnf
  refine ae ?_ ?_<;>(intro h2;conv=>whnf)
  ·rw[if_pos h2] at hup
   refine dI ?_
   conv=>whnf
   refine nI ?_
   rw[tN]
   conv=>whnf
   refine nI ?_
   conv=>whnf
   refine nK (by omega) (by omega) ?_
   conv=>whnf
   refine nI ?_
   conv=>whnf
   refine ak ((cl t k 0).tdiv t.den) rfl ?_
   conv=>whnf
   repeat' ((first|refine nI ?_|refine aI ?_|refine uI ?_|refine vI ?_|refine dI ?_|refine dR ?_|refine dP ?_|refine au rfl ?_|refine pI _ rfl ?_|refine ak _ rfl ?_|refine tI ?_|refine fI ?_|refine ae (fun _=>?_) (fun _=>?_))<;>conv=>whnf)
   exact⟨k+1,by dsimp only;rw[hup];exact sI,by omega,by dsimp only;omega⟩
  ·rw[if_neg h2] at hup
   repeat' ((first|refine nI ?_|refine aI ?_|refine uI ?_|refine vI ?_|refine dI ?_|refine dR ?_|refine dP ?_|refine au rfl ?_|refine pI _ rfl ?_|refine ak _ rfl ?_|refine tI ?_|refine fI ?_|refine ae (fun _=>?_) (fun _=>?_))<;>conv=>whnf)
   exact⟨k+1,by dsimp only;rw[hup];exact sI,by omega,by dsimp only;omega⟩
 ·obtain rfl:k=m:=by omega
  exact⟨rfl,rfl⟩
def O1 (A B:List Int):List (Nat×bf):=[(7001, .box 208 [.row 7002 A.length 1, .row 7003 B.length 1, .int .i64 1]),(7002, .row 3 0 al A),(7003, .row 3 0 al B)]
def Qo (A B:List Int):List (Nat×bf):=[(7001, .box 208 [.row 7004 A.length 1, .row 7005 B.length 1, .int .i64 1]),(7002, .dead),(7003, .dead),(7004, .row 3 0 al A),(7005, .row 3 0 al B)]
def Dq (n:Nat) (l:List (Int×Int)) (v k:Int):List (Int×Int):=if(n:Int)<=v/\0<k then l++[(v-n,k)] else l
def E4 (l:List (Int×Int)):List Int:=l.map (·.1)
def z8 (l:List (Int×Int)):List Int:=l.map (·.2)
def Q3:bc:=[(7001, .old 7001),(7002, .old 7002),(7003, .old 7003),(7004, .old 25),(7005, .old 31)]
def Q4:bc:=[(7001, .old 7001),(7002, .old 7002),(7003, .old 7003),(7004, .old 7002),(7005, .old 7003)]
theorem M8 (n:Nat) (t:cz) (bad:Int) (l:List (Int×Int)) (v k:Int) (hl:l.length<=100000) (hn:n<=1000) (hv:0<=v/\v<=1000000):aj Tryz.prog 217 [.int .i64 v, .int .i64 k, .pd [.pd (gM n t bad)], .ptr 7001 0] (ag.ofL (O1 (E4 l) (z8 l)))
  (fun u M=>u= .tup []/\M=ag.ofL (Qo (E4 (Dq n l v k)) (z8 (Dq n l v k)))):=by
 refine aj.renorm 400 (R:=fun u M=>u= .tup []/\(bG Q4 400 M (Qo (E4 (Dq n l v k)) (z8 (Dq n l v k)))\/bG Q3 400 M (Qo (E4 (Dq n l v k)) (z8 (Dq n l v k))))) ?_ ?_
 ·refine aj.intro ab ac (O1 (E4 l) (z8 l)) Tryz.func217 rfl (by decide) ?_
  conv=>whnf
  refine ae ?_ ?_<;>(intro h1;conv=>whnf)
  ·refine ae ?_ ?_<;>(intro h2;conv=>whnf)
   ·have e:Dq n l v k=l++[(v-n,k)]:=if_pos ⟨h1,h2⟩
    have e1:E4 (Dq n l v k)=E4 l++[v-n]:=by rw[e];simp[E4]
    have e2:z8 (Dq n l v k)=z8 l++[k]:=by rw[e];simp[z8]
    have l1:(E4 l).length<=100000:=by simp[E4];exact hl
    have l2:(z8 l).length<=100000:=by simp[z8];exact hl
    rw[e1,e2]
    refine iV (by decide+kernel) ?_
    conv=>whnf
    refine aI ?_
    conv=>whnf
    refine bU ?_
    conv=>whnf
    refine bq [v-n] rfl lI ?_
    conv=>whnf
    refine bq [k] rfl lI ?_
    conv=>whnf
    exact⟨rfl, .inr (aa)⟩
   ·have e:Dq n l v k=l:=if_neg (fun h=>h2 h.2)
    rw[e]
    exact⟨rfl, .inl (aa)⟩
  ·have e:Dq n l v k=l:=if_neg (fun h=>h1 h.1)
   rw[e]
   exact⟨rfl, .inl (aa)⟩
 ·rintro u M' ⟨rfl,hM|hM⟩
  ·exact⟨_,_, .tup [],rfl,hM,trivial,rfl,rfl⟩
  ·exact⟨_,_, .tup [],rfl,hM,trivial,rfl,rfl⟩
def NG (A B:List Int):List (Nat×bf):=[(2, .box 208 [.nilsl, .nilsl, .int .i64 0]),(4, .box 208 [.row 6004 A.length 1, .row 6005 B.length 1, .int .i64 1]),(6004, .row 3 0 al A),(6005, .row 3 0 al B)]
def QK (A B:List Int):List (Nat×bf):=[(4, .box 208 [.row 6104 A.length 1, .row 6105 B.length 1, .int .i64 1]),(6004, .dead),(6005, .dead),(6104, .row 3 0 al A),(6105, .row 3 0 al B)]
def Q5 (A B:List Int):List (Nat×bf):=[(4, .box 208 [.row 6004 A.length 1, .row 6005 B.length 1, .int .i64 1]),(6004, .row 3 0 al A),(6005, .row 3 0 al B)]
def oA (n:Nat) (t:cz) (bad k:Nat):List Int:=E4 (de n t bad k)
def aB (n:Nat) (t:cz) (bad k:Nat):List Int:=z8 (de n t bad k)
theorem HZ (n:Nat) (t:cz) (bad k:Nat):Dq n (de n t bad k) (t.fre.getD k 0) (0-(t.cel.getD bad []).getD (k+1) 0)=de n t bad (k+1):=by rw[Int.zero_sub];rfl
theorem nv (l:List (Int×Int)):(z8 l).length=l.length:=by simp[z8]
theorem Dr (l:List (Int×Int)):(E4 l).length=l.length:=by simp[E4]
theorem kb (l:List (Int×Int)) (k:Nat):(z8 l).getD k 0=(l.getD k (0,0)).2:=by
 unfold z8
 rw[gD,gD,List.getElem?_map]
 cases l[k]?<;>rfl
theorem sr (n:Nat) (t:cz) (bad:Nat) (hd:0<t.den/\t.den<=1073741824) (hcb:∀j,j<n+1->cM (cl t bad j)):∀k,k<=n->∀a∈de n t bad k,0<a.2/\a.2<=1073741824
 |0,_,a,ha=>by
  rw[de,List.mem_singleton] at ha
  subst ha
  unfold HL
  split<;>exact hd
 |k+1,hk,a,ha=>by
  have hc:=hcb (k+1) (by omega)
  unfold cM at hc
  rw[de] at ha
  split at ha
  ·rename_i h
   rcases List.mem_append.1 ha with h1|h1
   ·exact sr n t bad hd hcb k (by omega) a h1
   ·rw[List.mem_singleton] at h1
    subst h1
    dsimp only
    omega
  ·exact sr n t bad hd hcb k (by omega) a ha
theorem K4 {l:List (Int×Int)} (h:∀a∈l,0<a.2/\a.2<=1073741824):∀k,k<=l.length->0<=gJ l k/\gJ l k<=1073741824
 |0,_=>by rw[gJ];omega
 |k+1,hk=>by
  have h1:=h _ (qm (l:=l) (0,0) (show k<l.length by omega))
  rw[gJ]
  have:=Int.gcd_le_natAbs_right (gJ l k) (show(l.getD k (0,0)).2≠0 by omega)
  omega
def Q6 (n:Nat) (t:cz) (bad:Nat) (u:AV):Prop:=(∃d,Aq n t bad=some d/\u= .tup [.agg (t3 d), .bool true])\/(Aq n t bad=none/\((∃d,u= .tup [.agg (t3 d), .bool false])\/u= .tup [.agg [.nilsl, .nilsl, .int .i64 0], .bool false]))
theorem su (n:Nat) (t:cz) (bad:Nat):∀k,(de n t bad k).length<=k+1
 |0=>by simp[de]
 |k+1=>by
  have:=su n t bad k
  rw[de];split
  ·simp;omega
  ·omega
theorem Ds (n m:Nat) (t:cz) (bad:Nat) (ht:oz n m t) (hB:HX m t) (hm:m<=10000) (hn:n<=1000) (hbad:bad<m) (hbs:∀i,i<m->0<=t.bas.getD i 0/\t.bas.getD i 0<=100000) (hfs:∀i,i<n->0<=t.fre.getD i 0/\t.fre.getD i 0<=100000)
  (hcb:∀j,j<n+1->cM (cl t bad j)):ah Tryz.prog 132 [.pd (gM n t bad)] (Q6 n t bad):=by
 have hb:=ht.bl
 have hf:=ht.fl
 have hc:=ht.cm
 have hd:=hB.dp
 have hcn:=ht.cn bad hbad
 have hbb:=hbs bad hbad
 refine ah.intro ab ac Tryz.func132 rfl (by decide) ?_;(conv=>whnf)
 refine au rfl ?_
 conv=>whnf
 refine dI ?_
 conv=>whnf
 refine nI ?_
 rw[tN]
 conv=>whnf
 refine ae ?_ ?_<;>(intro h1;conv=>whnf)
 ·have hz:de n t bad 0=[(-1-t.bas.getD bad 0,t.den)]:=by rw[de,HL,if_pos h1]
  have z1:oA n t bad 0=[-1-t.bas.getD bad 0]:=by rw[oA,hz];rfl
  have z2:aB n t bad 0=[t.den]:=by rw[aB,hz];rfl
  refine aI ?_
  conv=>whnf
  refine bg (by show 1*8<=140737488355328;omega) ?_
  conv=>whnf
  refine iV (by decide+kernel) ?_
  conv=>whnf
  refine bU ?_
  conv=>whnf
  refine bg (by show 1*8<=140737488355328;omega) ?_
  conv=>whnf
  refine aJ.loopF ab ac (fun k:Nat=>k<=n) (fun k=>[(59, .int .i64 (k:Int)),(35, .top),(36, .top),(44, .top),(45, .top),(31, .top)]) (fun k=>NG (oA n t bad k) (aB n t bad k)) (fun k=>n-k) 0 (Nat.zero_le _) ?_;conv=>whnf
  refine⟨by rw[z1,z2];exact aH.by_ [(2, .old 2),(4, .old 4),(6004, .old 36),(6005, .old 45)] _ 400 rfl (aa) (aa),?_⟩
  rintro k hk
  have hkl:=su n t bad k
  conv=>whnf
  refine ae ?_ ?_<;>(intro g1;conv=>whnf)
  ·have hlt:k<n:=by omega
   have ek:((k:Int)+1).toNat=k+1:=by omega
   have hck:-1073741824<=(t.cel.getD bad []).getD (k+1) 0/\(t.cel.getD bad []).getD (k+1) 0<=1073741824:=hcb (k+1) (by omega)
   have hfk:=hfs k hlt
   refine nI ?_
   rw[tN]
   conv=>whnf
   refine rc .any [81] (by decide+kernel) ?_
   conv=>whnf
   refine nI ?_
   rw[tN]
   conv=>whnf
   refine aI ?_
   conv=>whnf
   refine nI ?_
   rw[ek]
   conv=>whnf
   refine aI ?_
   conv=>whnf
   refine aj.call [(7001, .old 4),(7002, .old 6004),(7003, .old 6005)] (O1 (oA n t bad k) (aB n t bad k)) 400 rfl (aa) (aa) (M8 n t bad (de n t bad k) (t.fre.getD k 0) (0-(t.cel.getD bad []).getD (k+1) 0) (by omega) hn (by omega)) ?_
   rintro u M' ⟨rfl,rfl⟩
   rw[HZ]
   refine⟨[(4, .old 7001),(6004, .old 7002),(6005, .old 7003),(6104, .old 7004),(6105, .old 7005)],QK (oA n t bad (k+1)) (aB n t bad (k+1)), .tup [],rfl,(aa),trivial,?_⟩
   conv=>whnf
   repeat' ((first|refine nI ?_|refine aI ?_|refine tI ?_|refine fI ?_|fail);conv=>whnf)
   exact⟨k+1,aH.by_ [(2, .old 2),(4, .old 4),(6004, .old 6104),(6005, .old 6105)] _ 400 rfl (aa) (aa),by omega,by dsimp only;omega⟩
  ·obtain rfl:n=k:=by omega
   have hlA:(oA n t bad n).length=(de n t bad n).length:=Dr _
   have hlB:(aB n t bad n).length=(de n t bad n).length:=nv _
   have hrng:=sr n t bad hd hcb n (Nat.le_refl _)
   have hhd:=pO n t bad n
   refine aJ.loopF ab ac (fun k:Nat=>k<=(aB n t bad n).length) (fun k=>[(86, .int .i64 (k:Int)),(9, .int .i64 (gJ (de n t bad n) k))]) (fun _=>NG (oA n t bad n) (aB n t bad n)) (fun k=>(aB n t bad n).length-k) 0 (Nat.zero_le _) ?_;conv=>whnf
   refine⟨sI,?_⟩
   rintro k hk
   have hg:=K4 hrng k (by omega)
   have hm:∀i,i<(aB n t bad n).length->0<(aB n t bad n).getD i 0/\(aB n t bad n).getD i 0<=1073741824:=fun i hi=>by
    have e:(aB n t bad n).getD i 0=((de n t bad n).getD i (0,0)).2:=kb _ _
    rw[e]
    exact hrng _ (qm (0,0) (by omega))
   conv=>whnf
   refine ae ?_ ?_<;>(intro q1;conv=>whnf)
   ·have hlt:k<(aB n t bad n).length:=by omega
    have hmk:=hm k hlt
    have hG:=MP (gJ (de n t bad n) k) ((aB n t bad n).getD k 0) (by omega) (by omega)
    have e:(Int.gcd (gJ (de n t bad n) k) ((aB n t bad n).getD k 0):Int)=gJ (de n t bad n) (k+1):=by
     have e2:(aB n t bad n).getD k 0=((de n t bad n).getD k (0,0)).2:=kb _ _
     rw[gJ,e2]
    rw[e] at hG
    refine nI ?_
    rw[tN]
    conv=>whnf
    (refine oP (hG) ?_;conv=>whnf)
    repeat' ((first|refine nI ?_|refine aI ?_|refine uI ?_|refine vI ?_|refine dI ?_|refine dR ?_|refine dP ?_|refine au rfl ?_|refine pI _ rfl ?_|refine ak _ rfl ?_|refine tI ?_|refine fI ?_|refine ae (fun _=>?_) (fun _=>?_))<;>conv=>whnf)
    exact⟨k+1,sI,by dsimp only;omega,by dsimp only;omega⟩
   ·obtain rfl:(aB n t bad n).length=k:=by omega
    have hg0:0<gJ (de n t bad n) (aB n t bad n).length:=sn (by rw[hhd.2];unfold HL;split<;>exact hd.1) _ (by omega)
    have hquo:∀i,i<(aB n t bad n).length->0<=((aB n t bad n).getD i 0).tdiv (gJ (de n t bad n) (aB n t bad n).length)/\((aB n t bad n).getD i 0).tdiv (gJ (de n t bad n) (aB n t bad n).length)<=1073741824:=fun i hi=>by
     have h3:=hm i hi
     have h4:=Int.natAbs_tdiv_le_natAbs ((aB n t bad n).getD i 0) (gJ (de n t bad n) (aB n t bad n).length)
     have h5:=Int.tdiv_nonneg (a:=(aB n t bad n).getD i 0) (b:=gJ (de n t bad n) (aB n t bad n).length) (by omega) (by omega)
     omega
    refine aJ.loopF ab ac (fun j:Nat=>j<=(aB n t bad n).length/\∀i,i<j->((aB n t bad n).getD i 0).tdiv (gJ (de n t bad n) (aB n t bad n).length)<=65536) (fun j=>[(97, .int .i64 (j:Int))]) (fun j=>NG (oA n t bad n) (cW (aB n t bad n).length (aB n t bad n) (fun i=>((aB n t bad n).getD i 0).tdiv (gJ (de n t bad n) (aB n t bad n).length)) j)) (fun j=>(aB n t bad n).length-j) 0 ⟨Nat.zero_le _,fun j hj=>absurd hj (Nat.not_lt_zero _)⟩ ?_;conv=>whnf
    refine⟨?_,?_⟩
    ·show aH _ _ _ _ _
     rw[gc _ rfl]
     exact sI
    rintro j ⟨hj,ha⟩
    have lM:=dU (aB n t bad n).length (aB n t bad n) (fun i=>((aB n t bad n).getD i 0).tdiv (gJ (de n t bad n) (aB n t bad n).length)) j
    conv=>whnf
    refine ae ?_ ?_<;>(intro q2;conv=>whnf)
    ·have hlt:j<(aB n t bad n).length:=by omega
     have hqj:=hquo j hlt
     have hset:(cW (aB n t bad n).length (aB n t bad n) (fun i=>((aB n t bad n).getD i 0).tdiv (gJ (de n t bad n) (aB n t bad n).length)) j).set j (((aB n t bad n).getD j 0).tdiv (gJ (de n t bad n) (aB n t bad n).length))=cW (aB n t bad n).length (aB n t bad n) (fun i=>((aB n t bad n).getD i 0).tdiv (gJ (de n t bad n) (aB n t bad n).length)) (j+1):=j9 hlt
     have hat:(cW (aB n t bad n).length (aB n t bad n) (fun i=>((aB n t bad n).getD i 0).tdiv (gJ (de n t bad n) (aB n t bad n).length)) (j+1)).getD j 0=((aB n t bad n).getD j 0).tdiv (gJ (de n t bad n) (aB n t bad n).length):=xS hlt (by omega)
     have lM2:=dU (aB n t bad n).length (aB n t bad n) (fun i=>((aB n t bad n).getD i 0).tdiv (gJ (de n t bad n) (aB n t bad n).length)) (j+1)
     refine nI ?_
     rw[tN]
     conv=>whnf
     rw[gG hlt (Nat.lt_irrefl _)]
     refine nK (by omega) (by omega) ?_
     conv=>whnf
     refine nI ?_
     conv=>whnf
     refine ak (((aB n t bad n).getD j 0).tdiv (gJ (de n t bad n) (aB n t bad n).length)) rfl ?_
     rw[tN,hset]
     conv=>whnf
     refine nI ?_
     rw[tN]
     conv=>whnf
     rw[hat]
     refine ae ?_ ?_<;>(intro q3;conv=>whnf)
     ·refine⟨.inr ⟨?_, .inr rfl⟩,rfl⟩
      unfold Aq
      exact if_pos (.inl ⟨j,by omega,by rw[pP n t bad (by omega)];rw[aB,kb,nv] at q3;exact q3⟩)
     ·repeat' ((first|refine nI ?_|refine aI ?_|refine uI ?_|refine vI ?_|refine dI ?_|refine dR ?_|refine dP ?_|refine au rfl ?_|refine pI _ rfl ?_|refine ak _ rfl ?_|refine tI ?_|refine fI ?_|refine ae (fun _=>?_) (fun _=>?_))<;>conv=>whnf)
      exact⟨j+1,sI,⟨by omega,fun i hi=>by
       by_cases e:i=j
       ·subst e;omega
       ·exact ha i (by omega)⟩,by dsimp only;omega⟩
    ·obtain rfl:(aB n t bad n).length=j:=by omega
     have hno:¬∃j,j<(de n t bad n).length/\65536<(we n t bad).mult.getD j 0:=by
      rintro⟨j,h3,h4⟩
      have h5:=ha j (by omega)
      rw[pP n t bad h3] at h4
      rw[aB,kb,nv] at h5
      omega
     have hmul:cW (aB n t bad n).length (aB n t bad n) (fun i=>((aB n t bad n).getD i 0).tdiv (gJ (de n t bad n) (aB n t bad n).length)) (aB n t bad n).length=(we n t bad).mult:=by
      rw[iH,np (fun x=>x.tdiv (gJ (de n t bad n) (aB n t bad n).length)) rfl]
      unfold we
      dsimp only
      rw[hlB]
      unfold aB z8
      rw[List.map_map]
      rfl
     refine Cw [(2,2),(4,4),(117,4)] (by decide+kernel) ?_
     conv=>whnf
     refine ae ?_ ?_<;>(intro q3;conv=>whnf)
     ·refine⟨.inl ⟨we n t bad,?_,?_⟩,rfl⟩
      ·unfold Aq
       exact if_neg (fun h=>h.elim hno (fun h=>by omega))
      ·rw[hmul]
       rfl
     ·refine⟨.inr ⟨?_, .inl ⟨⟨_,_,_⟩,rfl⟩⟩,rfl⟩
      unfold Aq
      exact if_pos (.inr (by omega))
 ·refine aj.call [(7001, .old 4),(7002, .nil 1),(7003, .nil 1)] (O1 [] []) 400 rfl (aa) (aa) (M8 n t bad [] (t.bas.getD bad 0) t.den (by simp) hn (by omega)) ?_
  rintro u M' ⟨rfl,rfl⟩
  have e:Dq n [] (t.bas.getD bad 0) t.den=de n t bad 0:=by rw[Dq,if_pos ⟨by omega,hd.1⟩,de,HL,if_neg h1];rfl
  rw[e]
  refine⟨[(4, .old 7001),(6004, .old 7004),(6005, .old 7005)],Q5 (oA n t bad 0) (aB n t bad 0), .tup [],rfl,(aa),trivial,?_⟩
  conv=>whnf
  refine aJ.loopF ab ac (fun k:Nat=>k<=n) (fun k=>[(59, .int .i64 (k:Int)),(31, .top)]) (fun k=>NG (oA n t bad k) (aB n t bad k)) (fun k=>n-k) 0 (Nat.zero_le _) ?_;conv=>whnf
  refine⟨aH.by_ [(2, .old 2),(4, .old 4),(6004, .old 6004),(6005, .old 6005)] _ 400 rfl (aa) (aa),?_⟩
  rintro k hk
  have hkl:=su n t bad k
  conv=>whnf
  refine ae ?_ ?_<;>(intro g1;conv=>whnf)
  ·have hlt:k<n:=by omega
   have ek:((k:Int)+1).toNat=k+1:=by omega
   have hck:-1073741824<=(t.cel.getD bad []).getD (k+1) 0/\(t.cel.getD bad []).getD (k+1) 0<=1073741824:=hcb (k+1) (by omega)
   have hfk:=hfs k hlt
   refine nI ?_
   rw[tN]
   conv=>whnf
   refine rc .any [81] (by decide+kernel) ?_
   conv=>whnf
   refine nI ?_
   rw[tN]
   conv=>whnf
   refine aI ?_
   conv=>whnf
   refine nI ?_
   rw[ek]
   conv=>whnf
   refine aI ?_
   conv=>whnf
   refine aj.call [(7001, .old 4),(7002, .old 6004),(7003, .old 6005)] (O1 (oA n t bad k) (aB n t bad k)) 400 rfl (aa) (aa) (M8 n t bad (de n t bad k) (t.fre.getD k 0) (0-(t.cel.getD bad []).getD (k+1) 0) (by omega) hn (by omega)) ?_
   rintro u M' ⟨rfl,rfl⟩
   rw[HZ]
   refine⟨[(4, .old 7001),(6004, .old 7002),(6005, .old 7003),(6104, .old 7004),(6105, .old 7005)],QK (oA n t bad (k+1)) (aB n t bad (k+1)), .tup [],rfl,(aa),trivial,?_⟩
   conv=>whnf
   repeat' ((first|refine nI ?_|refine aI ?_|refine tI ?_|refine fI ?_|fail);conv=>whnf)
   exact⟨k+1,aH.by_ [(2, .old 2),(4, .old 4),(6004, .old 6104),(6005, .old 6105)] _ 400 rfl (aa) (aa),by omega,by dsimp only;omega⟩
  ·obtain rfl:n=k:=by omega
   have hlA:(oA n t bad n).length=(de n t bad n).length:=Dr _
   have hlB:(aB n t bad n).length=(de n t bad n).length:=nv _
   have hrng:=sr n t bad hd hcb n (Nat.le_refl _)
   have hhd:=pO n t bad n
   refine aJ.loopF ab ac (fun k:Nat=>k<=(aB n t bad n).length) (fun k=>[(86, .int .i64 (k:Int)),(9, .int .i64 (gJ (de n t bad n) k))]) (fun _=>NG (oA n t bad n) (aB n t bad n)) (fun k=>(aB n t bad n).length-k) 0 (Nat.zero_le _) ?_;conv=>whnf
   refine⟨sI,?_⟩
   rintro k hk
   have hg:=K4 hrng k (by omega)
   have hm:∀i,i<(aB n t bad n).length->0<(aB n t bad n).getD i 0/\(aB n t bad n).getD i 0<=1073741824:=fun i hi=>by
    have e:(aB n t bad n).getD i 0=((de n t bad n).getD i (0,0)).2:=kb _ _
    rw[e]
    exact hrng _ (qm (0,0) (by omega))
   conv=>whnf
   refine ae ?_ ?_<;>(intro q1;conv=>whnf)
   ·have hlt:k<(aB n t bad n).length:=by omega
    have hmk:=hm k hlt
    have hG:=MP (gJ (de n t bad n) k) ((aB n t bad n).getD k 0) (by omega) (by omega)
    have e:(Int.gcd (gJ (de n t bad n) k) ((aB n t bad n).getD k 0):Int)=gJ (de n t bad n) (k+1):=by
     have e2:(aB n t bad n).getD k 0=((de n t bad n).getD k (0,0)).2:=kb _ _
     rw[gJ,e2]
    rw[e] at hG
    refine nI ?_
    rw[tN]
    conv=>whnf
    (refine oP (hG) ?_;conv=>whnf)
    repeat' ((first|refine nI ?_|refine aI ?_|refine uI ?_|refine vI ?_|refine dI ?_|refine dR ?_|refine dP ?_|refine au rfl ?_|refine pI _ rfl ?_|refine ak _ rfl ?_|refine tI ?_|refine fI ?_|refine ae (fun _=>?_) (fun _=>?_))<;>conv=>whnf)
    exact⟨k+1,sI,by dsimp only;omega,by dsimp only;omega⟩
   ·obtain rfl:(aB n t bad n).length=k:=by omega
    have hg0:0<gJ (de n t bad n) (aB n t bad n).length:=sn (by rw[hhd.2];unfold HL;split<;>exact hd.1) _ (by omega)
    have hquo:∀i,i<(aB n t bad n).length->0<=((aB n t bad n).getD i 0).tdiv (gJ (de n t bad n) (aB n t bad n).length)/\((aB n t bad n).getD i 0).tdiv (gJ (de n t bad n) (aB n t bad n).length)<=1073741824:=fun i hi=>by
     have h3:=hm i hi
     have h4:=Int.natAbs_tdiv_le_natAbs ((aB n t bad n).getD i 0) (gJ (de n t bad n) (aB n t bad n).length)
     have h5:=Int.tdiv_nonneg (a:=(aB n t bad n).getD i 0) (b:=gJ (de n t bad n) (aB n t bad n).length) (by omega) (by omega)
     omega
    refine aJ.loopF ab ac (fun j:Nat=>j<=(aB n t bad n).length/\∀i,i<j->((aB n t bad n).getD i 0).tdiv (gJ (de n t bad n) (aB n t bad n).length)<=65536) (fun j=>[(97, .int .i64 (j:Int))]) (fun j=>NG (oA n t bad n) (cW (aB n t bad n).length (aB n t bad n) (fun i=>((aB n t bad n).getD i 0).tdiv (gJ (de n t bad n) (aB n t bad n).length)) j)) (fun j=>(aB n t bad n).length-j) 0 ⟨Nat.zero_le _,fun j hj=>absurd hj (Nat.not_lt_zero _)⟩ ?_;conv=>whnf
    refine⟨?_,?_⟩
    ·show aH _ _ _ _ _
     rw[gc _ rfl]
     exact sI
    rintro j ⟨hj,ha⟩
    have lM:=dU (aB n t bad n).length (aB n t bad n) (fun i=>((aB n t bad n).getD i 0).tdiv (gJ (de n t bad n) (aB n t bad n).length)) j
    conv=>whnf
    refine ae ?_ ?_<;>(intro q2;conv=>whnf)
    ·have hlt:j<(aB n t bad n).length:=by omega
     have hqj:=hquo j hlt
     have hset:(cW (aB n t bad n).length (aB n t bad n) (fun i=>((aB n t bad n).getD i 0).tdiv (gJ (de n t bad n) (aB n t bad n).length)) j).set j (((aB n t bad n).getD j 0).tdiv (gJ (de n t bad n) (aB n t bad n).length))=cW (aB n t bad n).length (aB n t bad n) (fun i=>((aB n t bad n).getD i 0).tdiv (gJ (de n t bad n) (aB n t bad n).length)) (j+1):=j9 hlt
     have hat:(cW (aB n t bad n).length (aB n t bad n) (fun i=>((aB n t bad n).getD i 0).tdiv (gJ (de n t bad n) (aB n t bad n).length)) (j+1)).getD j 0=((aB n t bad n).getD j 0).tdiv (gJ (de n t bad n) (aB n t bad n).length):=xS hlt (by omega)
     have lM2:=dU (aB n t bad n).length (aB n t bad n) (fun i=>((aB n t bad n).getD i 0).tdiv (gJ (de n t bad n) (aB n t bad n).length)) (j+1)
     refine nI ?_
     rw[tN]
     conv=>whnf
     rw[gG hlt (Nat.lt_irrefl _)]
     refine nK (by omega) (by omega) ?_
     conv=>whnf
     refine nI ?_
     conv=>whnf
     refine ak (((aB n t bad n).getD j 0).tdiv (gJ (de n t bad n) (aB n t bad n).length)) rfl ?_
     rw[tN,hset]
     conv=>whnf
     refine nI ?_
     rw[tN]
     conv=>whnf
     rw[hat]
     refine ae ?_ ?_<;>(intro q3;conv=>whnf)
     ·refine⟨.inr ⟨?_, .inr rfl⟩,rfl⟩
      unfold Aq
      exact if_pos (.inl ⟨j,by omega,by rw[pP n t bad (by omega)];rw[aB,kb,nv] at q3;exact q3⟩)
     ·repeat' ((first|refine nI ?_|refine aI ?_|refine uI ?_|refine vI ?_|refine dI ?_|refine dR ?_|refine dP ?_|refine au rfl ?_|refine pI _ rfl ?_|refine ak _ rfl ?_|refine tI ?_|refine fI ?_|refine ae (fun _=>?_) (fun _=>?_))<;>conv=>whnf)
      exact⟨j+1,sI,⟨by omega,fun i hi=>by
       by_cases e:i=j
       ·subst e;omega
       ·exact ha i (by omega)⟩,by dsimp only;omega⟩
    ·obtain rfl:(aB n t bad n).length=j:=by omega
     have hno:¬∃j,j<(de n t bad n).length/\65536<(we n t bad).mult.getD j 0:=by
      rintro⟨j,h3,h4⟩
      have h5:=ha j (by omega)
      rw[pP n t bad h3] at h4
      rw[aB,kb,nv] at h5
      omega
     have hmul:cW (aB n t bad n).length (aB n t bad n) (fun i=>((aB n t bad n).getD i 0).tdiv (gJ (de n t bad n) (aB n t bad n).length)) (aB n t bad n).length=(we n t bad).mult:=by
      rw[iH,np (fun x=>x.tdiv (gJ (de n t bad n) (aB n t bad n).length)) rfl]
      unfold we
      dsimp only
      rw[hlB]
      unfold aB z8
      rw[List.map_map]
      rfl
     refine Cw [(2,2),(4,4),(117,4)] (by decide+kernel) ?_
     conv=>whnf
     refine ae ?_ ?_<;>(intro q3;conv=>whnf)
     ·refine⟨.inl ⟨we n t bad,?_,?_⟩,rfl⟩
      ·unfold Aq
       exact if_neg (fun h=>h.elim hno (fun h=>by omega))
      ·rw[hmul]
       rfl
     ·refine⟨.inr ⟨?_, .inl ⟨⟨_,_,_⟩,rfl⟩⟩,rfl⟩
      unfold Aq
      exact if_pos (.inr (by omega))
theorem oz.pv {n m:Nat} {t:cz} {r s:Nat} (ht:oz n m t) (hr:r<m) (hs:s<n) (hp:0<cl t r (s+1)) (hpv:Fi m n t r s):oz n m (sj m n t r s):=by
 have h1:=ht.cb r (s+1) hr (by omega)
 unfold cM at h1
 refine⟨by simp[sj,ht.bl],by simp[sj,ht.fl],by simp[sj],fun i hi=>?_,⟨hp,h1.2⟩,fun i j hi hj=>?_⟩
 ·unfold sj;dsimp only;rw[ap [] (by simpa using hi)];simp
 ·have e:cl (sj m n t r s) i j=if i=r then(if j=s+1 then t.den else-cl t r j) else l4 t r s i j:=K3 hi hj
  rw[e]
  split
  ·split
   ·have:=ht.dp;unfold cM;omega
   ·have:=ht.cb r j hr hj;unfold cM at*;omega
  ·rename_i h;exact hpv i hi h j hj
theorem pS {n m:Nat} {t:cz} {bad:Int} (p:Nat) (hp:9000<=p):mR (aY n t m bad p [] [] (aR t)) n m t bad (fun k=>p+k):=
 ⟨rfl,rfl,rfl,⟨_,rfl,fun k _=>rfl⟩,fun k hk=>dw (a:=[]) rfl (jd hp) hk,fun k k' _ _ h=>Nat.add_left_cancel h,fun k _=>.inr (by omega)⟩
theorem nw {M:ag} {n m:Nat} {t:cz} {bad:Int} {lab:Nat->Nat} (hT:mR M n m t bad lab) (hm:t.cel.length=m):∀S F ρ w vs,aD S F ρ M w->bk S ρ vs [.ptr 7001 0]->ir (cG S ρ M w) vs [.pd (gM n t bad)]:=by
 intro S F ρ w vs hM hv
 obtain⟨v,vs',rfl,h1,h2⟩:=hv.cons_inv
 rw[h2.nil_inv]
 exact ir.cons (z7 hM hT hm h1) (ir.nil _)
theorem E7 {M:ag} {n m:Nat} {t:cz} {bad r:Int} {lab:Nat->Nat} (hT:mR M n m t bad lab) (hm:t.cel.length=m):∀S F ρ w vs,aD S F ρ M w->bk S ρ vs [.ptr 7001 0, .int .i64 r]->ir (cG S ρ M w) vs [.pd (gM n t bad), .int .i64 r]:=by
 intro S F ρ w vs hM hv
 obtain⟨v,vs',rfl,h1,h2⟩:=hv.cons_inv
 obtain⟨v2,vs2,rfl,h3,h4⟩:=h2.cons_inv
 rw[h4.nil_inv,h3.int_inv]
 exact ir.cons (z7 hM hT hm h1) (ir.cons (.int _ _) (ir.nil _))
def Du (m:Nat) (c:Nat->List Int):ag:=fun x=>match Nat.ble 20000 x&&Nat.blt x (20000+m) with
 |true=>some .dead
 |false=>iA 3 (jj 30000 m []) c x
def yb (m:Nat) (lab:Nat->Nat) (x:Nat):Option Nat:=match Nat.ble 20000 x&&Nat.blt x (20000+m) with
 |true=>some (x-11000)
 |false=>(jj 30000 m [] x).map lab
theorem nZ {m x:Nat}:(Nat.ble 20000 x&&Nat.blt x (20000+m))=true↔20000<=x/\x<20000+m:=by
 rw[Bool.and_eq_true,Nat.ble_eq]
 simp only[Nat.blt,Nat.ble_eq]
 omega
theorem mS {x:Nat} (h:7005<=x):aq dk x=none:=kK rfl h
theorem qO {n m:Nat} {t:cz} {bad:Int} {lab:Nat->Nat} {M':ag} (hT:mR M' n m t bad lab) (hh:uo M' m) (hm:m<=10000):cH (cw dk (yb m lab)) M' (bh (dg n t m bad 30000 []) (Du m (aR t))):=by
 have hbig:∀{x o},yb m lab x=some o->20000<=x/\((x<20000+m/\o=x-11000/\Du m (aR t) x=some .dead)\/(30000<=x/\x<30000+m/\o=lab (x-30000)/\Du m (aR t) x=some (.row 3 0 al (aR t (x-30000))))):=by
  intro x o hx
  unfold yb at hx
  unfold Du
  cases hb:(Nat.ble 20000 x&&Nat.blt x (20000+m)) with
  |true=>
   rw[hb] at hx
   have:=nZ.1 hb
   cases hx
   exact⟨this.1, .inl ⟨this.2,rfl,rfl⟩⟩
  |false=>
   rw[hb] at hx
   dsimp only at hx⊢
   cases hs:jj 30000 m [] x with
   |none=>rw[hs] at hx;cases hx
   |some k=>
    rw[hs] at hx
    obtain⟨h1,h2⟩:=cx (a:=[]) trivial hs
    have h2:30000+k=x:=h2
    cases hx
    unfold iA
    rw[hs]
    have e:x-30000=k:=by omega
    rw[e]
    exact⟨by omega, .inr ⟨by omega,by omega,rfl,rfl⟩⟩
 have hN:∀{x B'},Du m (aR t) x=some B'->∃o,yb m lab x=some o:=by
  intro x B' hB
  unfold Du at hB
  unfold yb
  cases hb:(Nat.ble 20000 x&&Nat.blt x (20000+m)) with
  |true=>exact⟨_,rfl⟩
  |false=>
   rw[hb] at hB
   dsimp only at hB⊢
   unfold iA at hB
   cases hs:jj 30000 m [] x with
   |none=>rw[hs] at hB;cases hB
   |some k=>exact⟨_,rfl⟩
 refine hJ dk (dg n t m bad 30000 []) (Du m (aR t)) (yb m lab) 400 rfl ⟨?_,?_,?_,trivial,trivial⟩ (fun ℓ t0 g m' hmem=>?_) ⟨fun x B' hB=>?_,fun x o hx=>?_,fun x y o hx hy h1 h2=>?_,fun x o k hx h1 hk=>?_⟩
 ·show nB dk 400 (M' 7001) _
  rw[hT.box]
  repeat' (first|exact True.intro|exact rfl|(refine And.intro ?_ ?_)|((conv=>whnf);omega)|((conv=>whnf);simp only[List.length_append,List.length_cons,List.length_nil];done)|((conv=>whnf);simp only[List.length_append,List.length_cons,List.length_nil];omega))
 ·show nB dk 400 (M' 7002) _
  rw[hT.bas]
  repeat' (first|exact True.intro|exact rfl|(refine And.intro ?_ ?_)|((conv=>whnf);omega)|((conv=>whnf);simp only[List.length_append,List.length_cons,List.length_nil];done)|((conv=>whnf);simp only[List.length_append,List.length_cons,List.length_nil];omega))
 ·show nB dk 400 (M' 7003) _
  rw[hT.fre]
  repeat' (first|exact True.intro|exact rfl|(refine And.intro ?_ ?_)|((conv=>whnf);omega)|((conv=>whnf);simp only[List.length_append,List.length_cons,List.length_nil];done)|((conv=>whnf);simp only[List.length_append,List.length_cons,List.length_nil];omega))
 ·unfold dg at hmem
  simp only[List.mem_cons,Prod.mk.injEq,List.not_mem_nil,or_false] at hmem
  rcases hmem with ⟨_,h⟩|⟨_,h⟩|⟨_,h⟩|⟨rfl,h⟩
  ·cases h
  ·cases h
  ·cases h
  ·injection h with h1 h2 h3
   subst h1 h2
   have h3':=h3.symm
   subst h3'
   obtain⟨g0,g1,g2⟩:=hT.hdr
   refine⟨g0,g1,fun i hi=>?_⟩
   rw[g2 i hi]
   refine eW.one (kx.row (gw (mS (by show 7005<=30000+i;omega)) ?_))
   show yb m lab (30000+i)=some (lab i)
   unfold yb
   have hb:(Nat.ble 20000 (30000+i)&&Nat.blt (30000+i) (20000+m))=false:=by
    cases hb:(Nat.ble 20000 (30000+i)&&Nat.blt (30000+i) (20000+m)) with
    |false=>rfl
    |true=>have:=nZ.1 hb;omega
   rw[hb]
   dsimp only
   have:=lh (p:=30000) (m:=m) (a:=[]) trivial hi
   rw[show fm 30000 [] i=30000+i from rfl] at this
   rw[this]
   rfl
 ·obtain⟨o,ho⟩:=hN hB
  obtain⟨h1,h2⟩:=hbig ho
  refine⟨mS (by omega),ej (L:=dg n t m bad 30000 []) rfl (by omega),o,?_⟩
  rcases h2 with ⟨h3,rfl,h4⟩|⟨h3,h4,rfl,h5⟩
  ·rw[h4] at hB
   cases hB
   refine⟨.dead,ho,?_, .inl rfl⟩
   have:=hh.2.2.2.2 (x-20000) (by omega)
   rw[show 9000+(x-20000)=x-11000 by omega] at this
   exact this
  ·rw[h5] at hB
   cases hB
   exact⟨_,ho,hT.row _ (by omega), .inr ⟨rfl,rfl⟩⟩
 ·obtain⟨_,h2⟩:=hbig hx
  rcases h2 with ⟨_,_,h4⟩|⟨_,_,_,h4⟩<;>rw[h4]<;>simp
 ·obtain⟨_,hx2⟩:=hbig hx
  obtain⟨_,hy2⟩:=hbig hy
  rcases hx2 with ⟨_,_,h4⟩|⟨a1,a2,a3,_⟩
  ·exact absurd h4 h1
  rcases hy2 with ⟨_,_,h4⟩|⟨b1,b2,b3,_⟩
  ·exact absurd h4 h2
  have:=hT.inj (x-30000) (y-30000) (by omega) (by omega) (a3.symm.trans b3)
  omega
 ·obtain⟨_,hx2⟩:=hbig hx
  rcases hx2 with ⟨_,_,h4⟩|⟨a1,a2,a3,_⟩
  ·exact absurd h4 h1
  have hf:=hT.far (x-30000) (by omega)
  have:=fQ (lm:=dk) rfl hk
  have hk2:7001<=o:=by
   have hmem:=bd hk
   unfold dk at hmem
   simp only[List.mem_cons,Prod.mk.injEq,List.not_mem_nil,or_false,LM.old.injEq] at hmem
   omega
  omega
end
end Go.Proofs.YtekmminpfhacpaaGreatDoor
