import Derived.Test.YtblcpnmnibcbbaaGreatDoorMF
import Derived.Test.YtblcpnmnibcbbaaGreatDoorMB
set_option linter.unusedVariables false
set_option linter.unusedSimpArgs false
namespace Go.Proofs.YtblcpnmnibcbbaaGreatDoor
section
set_option maxRecDepth 100000
set_option maxHeartbeats 16000000
section
variable {p:aq} {q:bO} {s:aB} {ex:Bool}
structure oh (p:aq) (q:bO) (s:aB) (ex:Bool) (y:mZ):Prop where
 sr:CE p ex y.1 y.2
 og:eJ p q s y.1
theorem eJ.rp (S:jI p q s) {l:List dy} (h:eJ p q s l) {i:Nat} (hi:i<l.length):Rp p q s ex (ce l i).c:=by
 obtain⟨r,xs,hc⟩:=dj.ex h i hi
 exact(hc.wn h hi).rp S
theorem eJ.rdy (S:jI p q s) {l:List dy} (h:eJ p q s l) {i:Nat} (hi:i<l.length):cK p s (ce l i).c:=(h.rp (ex:=true) S hi).1
theorem yh {c:ap} (h:lK c):lK (d0 p ex c):=by
 cases ex with
 |true=>exact h
 |false=>exact h.can
theorem oh.met (S:jI p q s) {y:mZ} (h:oh p q s ex y) {o:dy} (ho:eJ p q s (y.1++[o])):de p ex y.1 y.2 o=jb (ia p ex) y.1 o/\oh p q s ex (de p ex y.1 y.2 o,kJ p ex y.1 y.2 o):=by
 have hs:∀k∈y.1,lK (d0 p ex k.c):=fun k hk=>by
  obtain⟨i,hi,rfl⟩:=bL hZ hk
  exact yh (h.og.rdy S hi).sml
 have hso:lK (d0 p ex o.c):=by
  have:=ho.rdy S (i:=y.1.length) (by simp)
  rw[gY] at this
  exact yh this.sml
 have hk:=h.sr.has hs hso
 cases hf:y.2 (gx (d0 p ex o.c)) with
 |some v=>
  have hm:ia p ex o∈y.1.map (ia p ex):=hk.1 (by rw[hf];rfl)
  have e1:de p ex y.1 y.2 o=y.1:=by simp only[de,hf]
  have e2:kJ p ex y.1 y.2 o=y.2:=by simp only[kJ,hf]
  rw[df _ hm,e1,e2]
  exact⟨rfl,h⟩
 |none=>
  have hm:ia p ex o∉y.1.map (ia p ex):=fun hh=>by
   have:=hk.2 hh
   rw[hf] at this
   cases this
  have e1:de p ex y.1 y.2 o=y.1++[o]:=by simp only[de,hf]
  have e2:kJ p ex y.1 y.2 o=gO y.2 (gx (d0 p ex o.c)) (y.1.length:Int):=by simp only[kJ,hf]
  rw[d8 _ hm,e1,e2]
  exact⟨rfl,h.sr.add hf,ho⟩
theorem oh.exs (S:jI p q s) {c:ap} {i:Nat}:∀(xs:List be) {y:mZ},oh p q s ex y->i<y.1.length->(ce y.1 i).c=c->(∀x∈xs,cz p s c x false/\bh c (aO p x) x)->
  oh p q s ex (lN p ex c i xs y)/\(lN p ex c i xs y).1=cG (ia p ex) y.1 (xs.map (ER p c i))
 |[],y,h,_,_,_=>⟨h,rfl⟩
 |x::xs,y,h,hi,hc,hx=>by
  have h1:=hx x List.mem_cons_self
  have ho:eJ p q s (y.1++[ER p c i x]):=by
   have:=h.og.stp hi (x:=x) (by rw[hc];exact h1.1) (by rw[hc];exact h1.2)
   rw[hc] at this
   exact this
  obtain⟨e,h2⟩:=h.met S ho
  obtain⟨m,e3⟩:=qv (ia p ex) y.1 (ER p c i x)
  have e4:(GZ p ex c i y x).1=y.1++m:=e.trans e3
  obtain⟨k1,k2⟩:=oh.exs S (c:=c) (i:=i) xs (y:=GZ p ex c i y x) h2 (by rw[e4,List.length_append];omega) (by rw[e4,dJ hi];exact hc) (fun z hz=>hx z (List.mem_cons_of_mem _ hz))
  refine⟨k1,?_⟩
  rw[List.map_cons,cU,<-e]
  exact k2
theorem oh.inG (S:jI p q s):∀(cs:List ap) {y:mZ},oh p q s ex y->(∀c∈cs,lf p q s c)->
  oh p q s ex (cs.foldl (CP p ex) y)/\(cs.foldl (CP p ex) y).1=cG (ia p ex) y.1 (cs.map fun c=>⟨c,-1,bm⟩)
 |[],y,h,_=>⟨h,rfl⟩
 |c::cs,y,h,hx=>by
  obtain⟨e,h2⟩:=h.met S (h.og.ini (hx c List.mem_cons_self) bm)
  obtain⟨k1,k2⟩:=oh.inG S cs (y:=CP p ex y c) h2 (fun z hz=>hx z (List.mem_cons_of_mem _ hz))
  refine⟨k1,?_⟩
  rw[List.map_cons,cU,<-e]
  exact k2
theorem oh.nil:oh p q s ex ([],fun _=>none):=⟨CE.nil p ex,eJ.nil⟩
theorem oh.inF (S:jI p q s) (cs:List ap) (h:∀c∈cs,lf p q s c):oh p q s ex (inF p ex cs)/\(inF p ex cs).1=cG (ia p ex) [] (cs.map fun c=>⟨c,-1,bm⟩):=oh.inG S cs oh.nil h
def tE (l:List dy):List ap:=l.map fun o=>o.c
theorem yi (l:List dy) (i:Nat):(tE l).getD i aA=(ce l i).c:=by
 unfold tE ce
 rw[gD,gD,List.getElem?_map]
 cases l[i]?<;>rfl
theorem mT (l:List dy):(tE l).length=l.length:=by unfold tE;rw[List.length_map]
theorem vP (l os:List dy):tE (cG (ia p ex) l os)=cG (d0 p ex) (tE l) (tE os):=sa (d0 p ex) (fun o:dy=>o.c) os l
theorem Ig (S:jI p q s) (cs:List ap) (h:∀c,c∈cs↔lf p q s c):sb p q s ex (tE (inF p ex cs).1) 0:=by
 rw[(oh.inF S cs fun c hc=>(h c).1 hc).2,vP]
 have e:tE (cs.map fun c=>(⟨c,-1,bm⟩:dy))=cs:=by
  unfold tE
  rw[List.map_map]
  exact List.map_id cs
 rw[e]
 exact sb.zero cs (fun c hc=>(Wn.ini ((h c).1 hc)).rp S) fun c hc=>List.mem_map.2 ⟨c,(h c).2 hc,rfl⟩
theorem C3 (S:jI p q s) {y:mZ} {i:Nat} (h:oh p q s ex y) (hs:sb p q s ex (tE y.1) i) (hi:i<y.1.length) {c:ap} (hc:(ce y.1 i).c=c) (ha:∀x∈fA p s c p.rules.length,bh c (aO p x) x):
  oh p q s ex (lN p ex c i (fA p s c p.rules.length) y)/\sb p q s ex (tE (lN p ex c i (fA p s c p.rules.length) y).1) (i+1):=by
 obtain⟨h1,h2⟩:=h.exs S (fA p s c p.rules.length) hi hc fun x hx=>⟨tg.1 hx,ha x hx⟩
 refine⟨h1,?_⟩
 rw[h2,vP]
 have hr:=h.og.rp (ex:=ex) S hi
 rw[hc] at hr
 refine hs.next (by rw[mT];exact hi) _ (fun d hd=>?_) fun x he=>?_
 ·unfold tE at hd
  rw[List.map_map] at hd
  obtain⟨x,hx,rfl⟩:=List.mem_map.1 hd
  exact hr.next S (tg.1 hx) (ha x hx)
 ·rw[yi,hc] at he⊢
  have hx:=tg.2 he
  refine⟨ha x hx,?_⟩
  unfold tE
  rw[List.map_map,List.map_map]
  exact List.mem_map.2 ⟨x,hx,rfl⟩
end
def Ju:c9:=[(7001, .old 7001),(7002, .old 7002),(7003, .old 7003),(7004, .old 7005)]
def Jv:c9:=[(7001, .old 7001),(7002, .old 7002),(7004, .old 7003),(7005, .old 7004)]
def Jw (p:aq) (s:aB) (ex:Bool) (l:List dy) (f:ByteArray->Option Int):List (Nat×bj):=[(7001,Ic p s ex 7005 l.length),(7002,Ib f),(7004, .dead),(7005,vM l)]
theorem JL (p:aq) (q:bO) (s:aB) (ex:Bool) (S:jI p q s) (y0:mZ) (h0:oh p q s ex y0) (hs0:sb p q s ex (tE y0.1) 0):
  ar Tryz.prog 102 [.ptr 7001 0] (ah.ofL (qD p s ex y0.1 y0.2)) (fun u M=>
   (∃y:mZ,oh p q s ex y/\sb p q s ex (tE y.1) y.1.length/\y.1.length<=4000/\u= .int .i64 0/\M=ah.ofL (yd p s ex y.1 y.2))\/
   ((¬∃L,tp p q s ex L/\L.length<=4000)/\u= .int .i64 4/\∃y:mZ,M=ah.ofL (yd p s ex y.1 y.2))):=by
 refine ar.renorm 400 (R:=fun u M=>(∃y:mZ,oh p q s ex y/\sb p q s ex (tE y.1) y.1.length/\y.1.length<=4000/\u= .int .i64 0/\dS EM 400 M (yd p s ex y.1 y.2))\/
   ((¬∃L,tp p q s ex L/\L.length<=4000)/\u= .int .i64 4/\∃y:mZ,dS EM 400 M (yd p s ex y.1 y.2)\/dS Ju 400 M (yd p s ex y.1 y.2))) ?_ ?_
 case refine_2=>
  rintro u M (⟨y,h1,h2,h3,rfl,h4⟩|⟨h1,rfl,y,h4|h4⟩)
  ·exact⟨EM,_, .int .i64 0,rfl,h4,rfl, .inl ⟨y,h1,h2,h3,rfl,rfl⟩⟩
  ·exact⟨EM,_, .int .i64 4,rfl,h4,rfl, .inr ⟨h1,rfl,y,rfl⟩⟩
  ·exact⟨Ju,_, .int .i64 4,rfl,h4,rfl, .inr ⟨h1,rfl,y,rfl⟩⟩
 refine ar.intro ab ac (qD p s ex y0.1 y0.2) Tryz.func102 rfl (by decide) ?_
 conv=>whnf
 refine aR.loopF ab ac (fun z:Nat×mZ=>oh p q s ex z.2/\sb p q s ex (tE z.2.1) z.1) (fun z=>[(3, .int .i64 (z.1:Int))]) (fun z=>yd p s ex z.2.1 z.2.2) (fun z=>4001-z.1) (0,y0) ⟨h0,hs0⟩ ?_;conv=>whnf
 refine⟨bE.by_ [(7001, .old 7001),(7002, .old 7002),(7003, .old 7003),(7004, .old 7003)] _ 400 rfl (ai) (ai),?_⟩
 rintro⟨k,y⟩ ⟨h1,h2⟩
 dsimp only at h1 h2⊢
 have hle:=h2.le
 rw[mT] at hle
 conv=>whnf
 refine ag ?_ ?_<;>(intro g1;conv=>whnf)
 ·have hlt:k<y.1.length:=by omega
  refine ag ?_ ?_<;>(intro g2;conv=>whnf)
  ·exact .inr ⟨h2.many S (by rw[mT];omega),rfl,y, .inl (ai)⟩
  ·have hr:=h1.og.rdy S hlt
   refine ar.call [(7001, .old 7001),(7002, .old 7002),(7003, .old 7004)] (qD p s ex y.1 y.2) 400 rfl (ai) (ai) (EN p s ex y k (ce y.1 k) rfl hlt (by omega) hr (fun x he ha=>⟨(hr.next he ha).wide,(hr.next he ha).plain⟩)) ?_
   rintro u M' (⟨ha,rfl,rfl⟩|⟨ho,rfl,z,rfl⟩)
   ·obtain⟨k1,k2⟩:=C3 S h1 h2 hlt rfl ha
    generalize lN p ex (ce y.1 k).c k (fA p s (ce y.1 k).c p.rules.length) y=y2 at k1 k2⊢
    refine⟨Jv,Jw p s ex y2.1 y2.2, .int .i64 0,rfl,(ai),rfl,?_⟩
    conv=>whnf
    refine fI ?_
    conv=>whnf
    repeat' ((first|refine nI ?_|refine aI ?_|refine tI ?_|refine fI ?_|fail);conv=>whnf)
    refine⟨(k+1,y2),?_,⟨k1,k2⟩,by dsimp only;omega⟩
    dsimp only
    exact bE.by_ [(7001, .old 7001),(7002, .old 7002),(7003, .old 7003),(7004, .old 7005)] _ 400 rfl (ai) (ai)
   ·refine⟨Jv,Jw p s ex z.1 z.2, .int .i64 4,rfl,(ai),rfl,?_⟩
    conv=>whnf
    refine tI ?_
    conv=>whnf
    refine .inr ⟨h2.over S (j:=k) (by rw[mT];exact hlt) (by rw[yi];exact ho),rfl,z,?_⟩
    exact .inr (ai)
 ·refine ag ?_ ?_<;>(intro g2;conv=>whnf)
  ·exact .inr ⟨h2.many S (by rw[mT];omega),rfl,y, .inl (ai)⟩
  ·obtain rfl:k=y.1.length:=by omega
   exact .inl ⟨y,h1,h2,by omega,rfl,ai⟩
end
section
set_option maxRecDepth 100000
theorem Iy {p:aq} {s:aB} {c:ap} (h:cK p s c):(fA p s c p.rules.length).length<=2160:=by
 have h1:=mK p s c p.rules.length
 have hle:=aC h.big
 have hl:c.states.length<=8:=by
  have h2:=h.vc.len
  have h3:=h.sz
  unfold dL at h2
  split at h2<;>omega
 have h4:c.states.length*(c.states.length+1)<=8*9:=Nat.mul_le_mul hl (by omega)
 have h5:p.rules.length*(c.states.length*(c.states.length+1))<=30*72:=Nat.mul_le_mul (by omega) h4
 omega
section
variable {p:aq} {q:bO} {s:aB}
def ol (p:aq) (q:bO) (s:aB):Prop:=mE (hW p s).length (cr p q s) (dL p s).toNat
noncomputable instance decIniK (p:aq) (q:bO) (s:aB):Decidable (ol p q s):=Classical.propDecidable _
def qY (p:aq) (q:bO) (s:aB):List ap:=c0 p s (hW p s) (ao (cr p q s) (dL p s).toNat)
theorem C4 (S:jI p q s) {c:ap}:c∈qY p q s↔lf p q s c:=xX S.siz.1 S.siz.2
theorem vQ (h:ol p q s):oj p q s=nz (qY p q s) 0:=if_pos h
theorem ES (h:¬ol p q s):oj p q s=nz [] 4:=if_neg h
theorem Ih (h:ol p q s):th p q s=(qY p q s,true):=if_pos h
theorem Iz (h:¬ol p q s):th p q s=([],false):=if_neg h
theorem ET {l m:List ap} {e f:Int} (h:nz l e=nz m f):l=m/\e=f:=by
 unfold nz at h
 injection h with h
 injection h with h1 h2
 injection h2 with h2 _
 injection h2 with h2 h3
 injection h1 with _ h4 h5 h6
 exact⟨h6,h3⟩
theorem EU (S:jI p q s) (h:ol p q s):(qY p q s).length<=4000/\∀k,k<(qY p q s).length->aX ((qY p q s).getD k aA)=false/\Fh p ((qY p q s).getD k aA):=by
 obtain⟨l,e,h1,h2,_⟩:=Et p q s S.hp
 have hz:¬fO p q s≠0:=fun hh=>hh S.hz
 unfold Gi at h1
 rw[if_neg hz,vQ h] at h1
 obtain⟨rfl,_⟩:=ET h1
 refine⟨h2,fun k hk=>?_⟩
 have hr:=S.rdy ((C4 S).1 (bi aA hk))
 exact⟨hr.wide,hr.plain⟩
def GF:Rn:=⟨aA,[]⟩
structure GG (p:aq) (q:bO) (s:aB) (r:Rn) (is:Bool) (e:Int):Prop where
 no:is=false->r=GF
 yes:is=true->e=0/\Er p q s r/\aX r.start=false
 out:(¬ol p q s/\is=false/\e=4)\/(ol p q s/\∃n,n<=4000/\Ft p q s n is e/\(is=true->r.steps.length=n))
theorem GG.one {r r':Rn} {is is':Bool} {e e':Int} (h:GG p q s r is e) (k:GG p q s r' is' e'):is=is'/\e=e'/\r.steps.length=r'.steps.length:=by
 have hlen:is=is'->(is=true->r.steps.length=r'.steps.length)->r.steps.length=r'.steps.length:=by
  intro e1 h1
  cases hi:is with
  |true=>exact h1 hi
  |false=>rw[h.no hi,k.no (by rw[<-e1];exact hi)]
 rcases h.out with ⟨a1,a2,a3⟩|⟨a1,n,_,a2,a3⟩<;>rcases k.out with ⟨b1,b2,b3⟩|⟨b1,m,_,b2,b3⟩
 ·exact⟨by rw[a2,b2],by rw[a3,b3],hlen (by rw[a2,b2]) (by rw[a2];intro hh;cases hh)⟩
 ·exact absurd b1 a1
 ·exact absurd a1 b1
 ·obtain⟨rfl,e1,e2⟩:=a2.one b2
  exact⟨e1,e2,hlen e1 fun hh=>by rw[a3 hh,b3 (by rw[<-e1];exact hh)]⟩
structure EV (p:aq) (q:bO) (s:aB) (r:Rn) (is:Bool) (e:Int):Prop where
 bad:fO p q s≠0->r=GF/\is=false/\e=fO p q s
 cls:fO p q s=0->q.kind≠1->r=GF/\is=false/\e=7
 ok:fO p q s=0->q.kind=1->GG p q s r is e
theorem EV.one {r r':Rn} {is is':Bool} {e e':Int} (h:EV p q s r is e) (k:EV p q s r' is' e'):is=is'/\e=e'/\r.steps.length=r'.steps.length:=by
 by_cases h0:fO p q s=0
 ·by_cases h1:q.kind=1
  ·exact(h.ok h0 h1).one (k.ok h0 h1)
  ·obtain⟨a1,a2,a3⟩:=h.cls h0 h1
   obtain⟨b1,b2,b3⟩:=k.cls h0 h1
   exact⟨by rw[a2,b2],by rw[a3,b3],by rw[a1,b1]⟩
 ·obtain⟨a1,a2,a3⟩:=h.bad h0
  obtain⟨b1,b2,b3⟩:=k.bad h0
  exact⟨by rw[a2,b2],by rw[a3,b3],by rw[a1,b1]⟩
theorem EV.yes {r:Rn} {is:Bool} {e:Int} (h:EV p q s r is e) (hi:is=true):e=0/\Er p q s r/\aX r.start=false/\r.steps.length<=4000:=by
 by_cases h0:fO p q s=0
 ·by_cases h1:q.kind=1
  ·have h2:=h.ok h0 h1
   obtain⟨k1,k2,k3⟩:=h2.yes hi
   refine⟨k1,k2,k3,?_⟩
   rcases h2.out with ⟨_,a,_⟩|⟨_,n,hn,_,a⟩
   ·rw[a] at hi;cases hi
   ·rw[a hi];exact hn
  ·have:=(h.cls h0 h1).2.1;rw[this] at hi;cases hi
 ·have:=(h.bad h0).2.1;rw[this] at hi;cases hi
theorem EV.no {r:Rn} {is:Bool} {e:Int} (h:EV p q s r is e) (hi:is=false):r=GF:=by
 by_cases h0:fO p q s=0
 ·by_cases h1:q.kind=1
  ·exact(h.ok h0 h1).no hi
  ·exact(h.cls h0 h1).1
 ·exact(h.bad h0).1
theorem EV.least (hp:¬bV p) (hq:¬fC q) {r:Rn} {is:Bool} {e:Int} (h:EV p q s r is e) (he:e=0) {t:Rn} (ht:Er p q s t):is=true/\r.steps.length<=t.steps.length:=by
 have S:jI p q s:=⟨hp,hq,ht.1⟩
 have hb:r6 p q s t.steps.length:=by
  refine⟨_,?_,ht.2.2.2.2⟩
  have:=(Wn.ini ht.2.2.1).of_run ht.2.2.2.1
  rw[Nat.zero_add] at this
  exact this
 rcases(h.ok ht.1 ht.2.1).out with ⟨_,_,a⟩|⟨_,n,_,a1,a2⟩
 ·omega
 ·obtain⟨k1,k2⟩:=a1.least S he hb
  exact⟨k1,by rw[a2 k1];exact k2⟩
def nK:aB:=⟨0,0,0⟩
inductive Dp (p:aq) (q:bO):List aB->aB->Rn->Bool->Int->Prop
 |nil:Dp p q [] nK GF false 0
 |err {z:aB} {Z:List aB} {r:Rn} {is:Bool} {e:Int} (h:GG p q z r is e) (he:e≠0):Dp p q (z::Z) nK GF false e
 |yes {z:aB} {Z:List aB} {r:Rn} (h:GG p q z r true 0):Dp p q (z::Z) z r true 0
 |on {z t:aB} {Z:List aB} {r r':Rn} {is:Bool} {e:Int} (h:GG p q z r' false 0) (k:Dp p q Z t r is e):Dp p q (z::Z) t r is e
theorem Dp.one {Z:List aB} {t t':aB} {r r':Rn} {is is':Bool} {e e':Int} (h:Dp p q Z t r is e) (k:Dp p q Z t' r' is' e'):t=t'/\is=is'/\e=e':=by
 induction h with
 |nil=>cases k with|nil=>exact⟨rfl,rfl,rfl⟩
 |err h he=>cases k with
  |err h' he'=>exact⟨rfl,rfl,(h.one h').2.1⟩
  |yes h'=>exact absurd (h.one h').2.1 he
  |on h' _=>exact absurd (h.one h').2.1 he
 |yes h=>cases k with
  |err h' he'=>exact absurd (h.one h').2.1.symm he'
  |yes h'=>exact⟨rfl,rfl,rfl⟩
  |on h' _=>have:=(h.one h').1;cases this
 |on h _ ih=>cases k with
  |err h' he'=>exact absurd (h.one h').2.1.symm he'
  |yes h'=>have:=(h.one h').1;cases this
  |on h' k'=>exact ih k'
theorem Dp.no {Z:List aB} {t:aB} {r:Rn} {e:Int} (h:Dp p q Z t r false e):r=GF:=by
 generalize hi:false=is at h
 induction h with
 |nil=>rfl
 |err h he=>rfl
 |yes h=>cases hi
 |on h _ ih=>exact ih hi
end
end
section
set_option maxRecDepth 100000
set_option maxHeartbeats 16000000
def qZ (l:List be) (k:Nat):List be:=(List.range l.length).map fun j=>if j<k\/l.length<=j+k then l.getD (l.length-1-j) bm else l.getD j bm
theorem g7 (l:List be) (k:Nat):(qZ l k).length=l.length:=by simp[qZ]
theorem jf (l:List be) (k:Nat) {j:Nat} (h:j<l.length):(qZ l k).getD j bm=if j<k\/l.length<=j+k then l.getD (l.length-1-j) bm else l.getD j bm:=by
 unfold qZ
 rw[gD,List.getElem?_map,List.getElem?_range h]
 rfl
theorem qw {l m:List be} (h:l.length=m.length) (hj:∀j,j<l.length->l.getD j bm=m.getD j bm):l=m:=by
 apply List.ext_getElem h
 intro j h1 h2
 have:=hj j h1
 rw[gD,gD,gL h1,gL h2] at this
 exact this
theorem G2 (l:List be):qZ l 0=l:=by
 refine qw (g7 l 0) fun j hj=>?_
 rw[g7] at hj
 rw[jf l 0 hj,if_neg (by omega)]
theorem Ii {l:List be} {k:Nat} (h:l.length<=k+k+1):qZ l k=l.reverse:=by
 refine qw (by rw[g7,List.length_reverse]) fun j hj=>?_
 rw[g7] at hj
 have e:l.reverse.getD j bm=l.getD (l.length-1-j) bm:=by
  rw[gD,gD,List.getElem?_reverse hj]
 rw[jf l k hj,e]
 split
 ·rfl
 ·congr 1
  omega
theorem vR (l:List be) (i:Nat) (x:be) (j:Nat) (hi:i<l.length):(l.set i x).getD j bm=if j=i then x else l.getD j bm:=by
 rw[gD,List.getElem?_set]
 by_cases h:i=j
 ·subst h;rw[if_pos rfl,if_pos hi,if_pos rfl];rfl
 ·rw[if_neg h,if_neg (fun e=>h e.symm),gD]
theorem IA {l:List be} {k:Nat} (h:k+k+1<l.length):((qZ l k).set k ((qZ l k).getD (l.length-1-k) bm)).set (l.length-1-k) ((qZ l k).getD k bm)=qZ l (k+1):=by
 have hl:=g7 l k
 refine qw (by rw[List.length_set,List.length_set,g7,g7]) fun j hj=>?_
 rw[List.length_set,List.length_set,hl] at hj
 rw[vR _ _ _ _ (by rw[List.length_set,hl];omega),vR _ _ _ _ (by rw[hl];omega),jf l _ hj,jf l _ hj,jf l k (by omega),jf l k (by omega)]
 by_cases h1:j=l.length-1-k
 ·subst h1
  rw[if_pos rfl,if_neg (by omega),if_pos (by omega)]
  congr 1
  omega
 ·rw[if_neg h1]
  by_cases h2:j=k
  ·subst h2
   rw[if_pos rfl,if_neg (by omega),if_pos (by omega)]
  ·rw[if_neg h2]
   by_cases h3:j<k\/l.length<=j+k
   ·rw[if_pos h3,if_pos (by omega)]
   ·rw[if_neg h3,if_neg (by omega)]
theorem dj.len_le {l:List dy} {i r:Nat} {xs:List be} (h:dj l i r xs):xs.length<=i:=by
 induction h with
 |root h=>exact Nat.zero_le _
 |step hj _ _ ih=>rw[List.length_append,List.length_singleton];omega
theorem C5 (p:aq) (q:bO) (s:aB) (S:jI p q s):aa Tryz.prog 144 [.agg (bc p), .agg (gb q), .agg (bW s)] (fun u=>u=oj p q s):=
 aa.rp (zE p q s) (B9 p q s S.hp S.hq S.siz.1 S.siz.2)
theorem I8 (p:aq) (q:bO) (s:aB) (ex:Bool) (S:jI p q s):
  ar Tryz.prog 101 [.agg (bc p), .agg (gb q), .agg (bW s), .bool ex] (ah.ofL []) (fun u M=>
   (¬ol p q s/\u= .tup [.val (.pointer none), .int .i64 4])\/(ol p q s/\u= .tup [.ptr 7001 0, .int .i64 0]/\M=ah.ofL (qD p s ex (inF p ex (qY p q s)).1 (inF p ex (qY p q s)).2))):=by
 have hI:=C5 p q s S
 by_cases h:ol p q s
 ·rw[vQ h] at hI
  obtain⟨h1,h2⟩:=EU S h
  refine(CT p q s ex (qY p q s) 0 hI (by omega) h2).mono ?_
  rintro u M (⟨h3,_⟩|⟨_,h4,h5⟩)
  ·exact absurd rfl h3
  ·exact .inr ⟨h,h4,h5⟩
 ·rw[ES h] at hI
  refine(CT p q s ex [] 4 hI (by simp) (fun k hk=>absurd hk (Nat.not_lt_zero _))).mono ?_
  rintro u M (⟨_,h4⟩|⟨h3,_⟩)
  ·exact .inl ⟨h,h4⟩
  ·exact absurd h3 (by decide)
end
end Go.Proofs.YtblcpnmnibcbbaaGreatDoor
