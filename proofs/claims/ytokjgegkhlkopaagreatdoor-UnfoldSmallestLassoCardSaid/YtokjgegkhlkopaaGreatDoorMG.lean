import Derived.Test.YtokjgegkhlkopaaGreatDoorMF
import Derived.Test.YtokjgegkhlkopaaGreatDoorMB
set_option linter.unusedVariables false
set_option linter.unusedSimpArgs false
namespace Go.Proofs.YtokjgegkhlkopaaGreatDoor
section
set_option maxRecDepth 100000
set_option maxHeartbeats 16000000
section
variable {p:ao} {q:bn} {s:az} {ex:Bool}
structure mH (p:ao) (q:bn) (s:az) (ex:Bool) (y:iV):Prop where
 sr:FE p ex y.1 y.2
 og:eH p q s y.1
theorem eH.rp (S:fV p q s) {l:List cS} (h:eH p q s l) {i:Nat} (hi:i<l.length):Rp p q s ex (bu l i).c:=by
 obtain⟨r,xs,hc⟩:=cP.ex h i hi
 exact(hc.wn h hi).rp S
theorem eH.rdy (S:fV p q s) {l:List cS} (h:eH p q s l) {i:Nat} (hi:i<l.length):c9 p s (bu l i).c:=(h.rp (ex:=true) S hi).1
theorem Bl {c:ap} (h:mZ c):mZ (eV p ex c):=by
 cases ex with
 |true=>exact h
 |false=>exact h.can
theorem mH.met (S:fV p q s) {y:iV} (h:mH p q s ex y) {o:cS} (ho:eH p q s (y.1++[o])):co p ex y.1 y.2 o=lN (iX p ex) y.1 o/\mH p q s ex (co p ex y.1 y.2 o,i7 p ex y.1 y.2 o):=by
 have hs:∀k∈y.1,mZ (eV p ex k.c):=fun k hk=>by
  obtain⟨i,hi,rfl⟩:=bp d6 hk
  exact Bl (h.og.rdy S hi).sml
 have hso:mZ (eV p ex o.c):=by
  have:=ho.rdy S (i:=y.1.length) (by simp)
  rw[iT] at this
  exact Bl this.sml
 have hk:=h.sr.has hs hso
 cases hf:y.2 (ij (eV p ex o.c)) with
 |some v=>
  have hm:iX p ex o∈y.1.map (iX p ex):=hk.1 (by rw[hf];rfl)
  have e1:co p ex y.1 y.2 o=y.1:=by simp only[co,hf]
  have e2:i7 p ex y.1 y.2 o=y.2:=by simp only[i7,hf]
  rw[dS _ hm,e1,e2]
  exact⟨rfl,h⟩
 |none=>
  have hm:iX p ex o∉y.1.map (iX p ex):=fun hh=>by
   have:=hk.2 hh
   rw[hf] at this
   cases this
  have e1:co p ex y.1 y.2 o=y.1++[o]:=by simp only[co,hf]
  have e2:i7 p ex y.1 y.2 o=fJ y.2 (ij (eV p ex o.c)) (y.1.length:Int):=by simp only[i7,hf]
  rw[fo _ hm,e1,e2]
  exact⟨rfl,h.sr.add hf,ho⟩
theorem mH.exs (S:fV p q s) {c:ap} {i:Nat}:∀(xs:List aQ) {y:iV},mH p q s ex y->i<y.1.length->(bu y.1 i).c=c->(∀x∈xs,cz p s c x false/\bo c (aH p x) x)->
  mH p q s ex (my p ex c i xs y)/\(my p ex c i xs y).1=dQ (iX p ex) y.1 (xs.map (Ib p c i))
 |[],y,h,_,_,_=>⟨h,rfl⟩
 |x::xs,y,h,hi,hc,hx=>by
  have h1:=hx x List.mem_cons_self
  have ho:eH p q s (y.1++[Ib p c i x]):=by
   have:=h.og.stp hi (x:=x) (by rw[hc];exact h1.1) (by rw[hc];exact h1.2)
   rw[hc] at this
   exact this
  obtain⟨e,h2⟩:=h.met S ho
  obtain⟨m,e3⟩:=sn (iX p ex) y.1 (Ib p c i x)
  have e4:(Jl p ex c i y x).1=y.1++m:=e.trans e3
  obtain⟨k1,k2⟩:=mH.exs S (c:=c) (i:=i) xs (y:=Jl p ex c i y x) h2 (by rw[e4,List.length_append];omega) (by rw[e4,dl hi];exact hc) (fun z hz=>hx z (List.mem_cons_of_mem _ hz))
  refine⟨k1,?_⟩
  rw[List.map_cons,dF,<-e]
  exact k2
theorem mH.inG (S:fV p q s):∀(cs:List ap) {y:iV},mH p q s ex y->(∀c∈cs,lH p q s c)->
  mH p q s ex (cs.foldl (FM p ex) y)/\(cs.foldl (FM p ex) y).1=dQ (iX p ex) y.1 (cs.map fun c=>⟨c,-1,aR⟩)
 |[],y,h,_=>⟨h,rfl⟩
 |c::cs,y,h,hx=>by
  obtain⟨e,h2⟩:=h.met S (h.og.ini (hx c List.mem_cons_self) aR)
  obtain⟨k1,k2⟩:=mH.inG S cs (y:=FM p ex y c) h2 (fun z hz=>hx z (List.mem_cons_of_mem _ hz))
  refine⟨k1,?_⟩
  rw[List.map_cons,dF,<-e]
  exact k2
theorem mH.nil:mH p q s ex ([],fun _=>none):=⟨FE.nil p ex,eH.nil⟩
theorem mH.inF (S:fV p q s) (cs:List ap) (h:∀c∈cs,lH p q s c):mH p q s ex (inF p ex cs)/\(inF p ex cs).1=dQ (iX p ex) [] (cs.map fun c=>⟨c,-1,aR⟩):=mH.inG S cs mH.nil h
def th (l:List cS):List ap:=l.map fun o=>o.c
theorem vY (l:List cS) (i:Nat):(th l).getD i aC=(bu l i).c:=by
 unfold th bu
 rw[gD,gD,List.getElem?_map]
 cases l[i]?<;>rfl
theorem ik (l:List cS):(th l).length=l.length:=by unfold th;rw[List.length_map]
theorem yh (l os:List cS):th (dQ (iX p ex) l os)=dQ (eV p ex) (th l) (th os):=ur (eV p ex) (fun o:cS=>o.c) os l
theorem FX (S:fV p q s) (cs:List ap) (h:∀c,c∈cs↔lH p q s c):ut p q s ex (th (inF p ex cs).1) 0:=by
 rw[(mH.inF S cs fun c hc=>(h c).1 hc).2,yh]
 have e:th (cs.map fun c=>(⟨c,-1,aR⟩:cS))=cs:=by
  unfold th
  rw[List.map_map]
  exact List.map_id cs
 rw[e]
 exact ut.zero cs (fun c hc=>(Wn.ini ((h c).1 hc)).rp S) fun c hc=>List.mem_map.2 ⟨c,(h c).2 hc,rfl⟩
theorem FY (S:fV p q s) {y:iV} {i:Nat} (h:mH p q s ex y) (hs:ut p q s ex (th y.1) i) (hi:i<y.1.length) {c:ap} (hc:(bu y.1 i).c=c) (ha:∀x∈d9 p s c p.rules.length,bo c (aH p x) x):
  mH p q s ex (my p ex c i (d9 p s c p.rules.length) y)/\ut p q s ex (th (my p ex c i (d9 p s c p.rules.length) y).1) (i+1):=by
 obtain⟨h1,h2⟩:=h.exs S (d9 p s c p.rules.length) hi hc fun x hx=>⟨kI.1 hx,ha x hx⟩
 refine⟨h1,?_⟩
 rw[h2,yh]
 have hr:=h.og.rp (ex:=ex) S hi
 rw[hc] at hr
 refine hs.next (by rw[ik];exact hi) _ (fun d hd=>?_) fun x he=>?_
 ·unfold th at hd
  rw[List.map_map] at hd
  obtain⟨x,hx,rfl⟩:=List.mem_map.1 hd
  exact hr.next S (kI.1 hx) (ha x hx)
 ·rw[vY,hc] at he⊢
  have hx:=kI.2 he
  refine⟨ha x hx,?_⟩
  unfold th
  rw[List.map_map,List.map_map]
  exact List.mem_map.2 ⟨x,hx,rfl⟩
end
def Ol:b8:=[(7001, .old 7001),(7002, .old 7002),(7003, .old 7003),(7004, .old 7005)]
def NN:b8:=[(7001, .old 7001),(7002, .old 7002),(7004, .old 7003),(7005, .old 7004)]
def NO (p:ao) (s:az) (ex:Bool) (l:List cS) (f:ByteArray->Option Int):List (Nat×aX):=[(7001,MO p s ex 7005 l.length),(7002,Jk f),(7004, .dead),(7005,pL l)]
end
section
set_option maxRecDepth 100000
theorem Ic {p:ao} {s:az} {c:ap} (h:c9 p s c):(d9 p s c p.rules.length).length<=2160:=by
 have h1:=ob p s c p.rules.length
 have hle:=aF h.big
 have hl:c.states.length<=8:=by
  have h2:=h.vc.len
  have h3:=h.sz
  unfold ee at h2
  split at h2<;>omega
 have h4:c.states.length*(c.states.length+1)<=8*9:=Nat.mul_le_mul hl (by omega)
 have h5:p.rules.length*(c.states.length*(c.states.length+1))<=30*72:=Nat.mul_le_mul (by omega) h4
 omega
section
variable {p:ao} {q:bn} {s:az}
def om (p:ao) (q:bn) (s:az):Prop:=n5 (i6 p s).length (cK p q s) (ee p s).toNat
noncomputable instance decIniK (p:ao) (q:bn) (s:az):Decidable (om p q s):=Classical.propDecidable _
def lP (p:ao) (q:bn) (s:az):List ap:=dk p s (i6 p s) (ar (cK p q s) (ee p s).toNat)
theorem lQ (S:fV p q s) {c:ap}:c∈lP p q s↔lH p q s c:=A8 S.siz.1 S.siz.2
theorem yi (h:om p q s):pO p q s=pA (lP p q s) 0:=if_pos h
theorem Ie (h:¬om p q s):pO p q s=pA [] 4:=if_neg h
theorem MQ (h:om p q s):vO p q s=(lP p q s,true):=if_pos h
theorem Ni (h:¬om p q s):vO p q s=([],false):=if_neg h
theorem Ig {l m:List ap} {e f:Int} (h:pA l e=pA m f):l=m/\e=f:=by
 unfold pA at h
 injection h with h
 injection h with h1 h2
 injection h2 with h2 _
 injection h2 with h2 h3
 injection h1 with _ h4 h5 h6
 exact⟨h6,h3⟩
theorem Ih (S:fV p q s) (h:om p q s):(lP p q s).length<=4000/\∀k,k<(lP p q s).length->bc ((lP p q s).getD k aC)=false/\I7 p ((lP p q s).getD k aC):=by
 obtain⟨l,e,h1,h2,_⟩:=HO p q s S.hp
 have hz:¬dB p q s≠0:=fun hh=>hh S.hz
 unfold KC at h1
 rw[if_neg hz,yi h] at h1
 obtain⟨rfl,_⟩:=Ig h1
 refine⟨h2,fun k hk=>?_⟩
 have hr:=S.rdy ((lQ S).1 (aG aC hk))
 exact⟨hr.wide,hr.plain⟩
def KV:Rn:=⟨aC,[]⟩
structure KW (p:ao) (q:bn) (s:az) (r:Rn) (is:Bool) (e:Int):Prop where
 no:is=false->r=KV
 yes:is=true->e=0/\HM p q s r/\bc r.start=false
 out:(¬om p q s/\is=false/\e=4)\/(om p q s/\∃n,n<=4000/\Ji p q s n is e/\(is=true->r.steps.length=n))
theorem KW.one {r r':Rn} {is is':Bool} {e e':Int} (h:KW p q s r is e) (k:KW p q s r' is' e'):is=is'/\e=e'/\r.steps.length=r'.steps.length:=by
 have hlen:is=is'->(is=true->r.steps.length=r'.steps.length)->r.steps.length=r'.steps.length:=by
  intro e1 h1
  cases hi:is with
  |true=>exact h1 hi
  |false=>rw[h.no hi,k.no (by rw[<-e1];exact hi)]
 rcases h.out with ⟨a1,a2,a3⟩|⟨a1,n,_,a2,a3⟩<;>rcases k.out with ⟨b1,b2,b3⟩|⟨b1,m,_,b2,b3⟩
 ·exact⟨by rw[a2,b2],by rw[a3,b3],hlen (by rw[a2,b2]) (by rw[a2];intro hh;cases hh)⟩
 ·exact absurd b1 a1
 ·exact absurd a1 b1
 ·obtain⟨rfl,e1,e2⟩:=a2.one b2
  exact⟨e1,e2,hlen e1 fun hh=>by rw[a3 hh,b3 (by rw[<-e1];exact hh)]⟩
structure Ii (p:ao) (q:bn) (s:az) (r:Rn) (is:Bool) (e:Int):Prop where
 bad:dB p q s≠0->r=KV/\is=false/\e=dB p q s
 cls:dB p q s=0->q.kind≠1->r=KV/\is=false/\e=7
 ok:dB p q s=0->q.kind=1->KW p q s r is e
theorem Ii.one {r r':Rn} {is is':Bool} {e e':Int} (h:Ii p q s r is e) (k:Ii p q s r' is' e'):is=is'/\e=e'/\r.steps.length=r'.steps.length:=by
 by_cases h0:dB p q s=0
 ·by_cases h1:q.kind=1
  ·exact(h.ok h0 h1).one (k.ok h0 h1)
  ·obtain⟨a1,a2,a3⟩:=h.cls h0 h1
   obtain⟨b1,b2,b3⟩:=k.cls h0 h1
   exact⟨by rw[a2,b2],by rw[a3,b3],by rw[a1,b1]⟩
 ·obtain⟨a1,a2,a3⟩:=h.bad h0
  obtain⟨b1,b2,b3⟩:=k.bad h0
  exact⟨by rw[a2,b2],by rw[a3,b3],by rw[a1,b1]⟩
theorem Ii.yes {r:Rn} {is:Bool} {e:Int} (h:Ii p q s r is e) (hi:is=true):e=0/\HM p q s r/\bc r.start=false/\r.steps.length<=4000:=by
 by_cases h0:dB p q s=0
 ·by_cases h1:q.kind=1
  ·have h2:=h.ok h0 h1
   obtain⟨k1,k2,k3⟩:=h2.yes hi
   refine⟨k1,k2,k3,?_⟩
   rcases h2.out with ⟨_,a,_⟩|⟨_,n,hn,_,a⟩
   ·rw[a] at hi;cases hi
   ·rw[a hi];exact hn
  ·have:=(h.cls h0 h1).2.1;rw[this] at hi;cases hi
 ·have:=(h.bad h0).2.1;rw[this] at hi;cases hi
theorem Ii.no {r:Rn} {is:Bool} {e:Int} (h:Ii p q s r is e) (hi:is=false):r=KV:=by
 by_cases h0:dB p q s=0
 ·by_cases h1:q.kind=1
  ·exact(h.ok h0 h1).no hi
  ·exact(h.cls h0 h1).1
 ·exact(h.bad h0).1
theorem Ii.least (hp:¬b9 p) (hq:¬eU q) {r:Rn} {is:Bool} {e:Int} (h:Ii p q s r is e) (he:e=0) {t:Rn} (ht:HM p q s t):is=true/\r.steps.length<=t.steps.length:=by
 have S:fV p q s:=⟨hp,hq,ht.1⟩
 have hb:uo p q s t.steps.length:=by
  refine⟨_,?_,ht.2.2.2.2⟩
  have:=(Wn.ini ht.2.2.1).of_run ht.2.2.2.1
  rw[Nat.zero_add] at this
  exact this
 rcases(h.ok ht.1 ht.2.1).out with ⟨_,_,a⟩|⟨_,n,_,a1,a2⟩
 ·omega
 ·obtain⟨k1,k2⟩:=a1.least S he hb
  exact⟨k1,by rw[a2 k1];exact k2⟩
def fF:az:=⟨0,0,0⟩
inductive GD (p:ao) (q:bn):List az->az->Rn->Bool->Int->Prop
 |nil:GD p q [] fF KV false 0
 |err {z:az} {Z:List az} {r:Rn} {is:Bool} {e:Int} (h:KW p q z r is e) (he:e≠0):GD p q (z::Z) fF KV false e
 |yes {z:az} {Z:List az} {r:Rn} (h:KW p q z r true 0):GD p q (z::Z) z r true 0
 |on {z t:az} {Z:List az} {r r':Rn} {is:Bool} {e:Int} (h:KW p q z r' false 0) (k:GD p q Z t r is e):GD p q (z::Z) t r is e
theorem GD.one {Z:List az} {t t':az} {r r':Rn} {is is':Bool} {e e':Int} (h:GD p q Z t r is e) (k:GD p q Z t' r' is' e'):t=t'/\is=is'/\e=e':=by
 induction h with
 |nil=>cases k with|nil=>exact⟨rfl,rfl,rfl⟩
 |err h he=>cases k with
  |err h' he'=>exact⟨rfl,rfl,(h.one h').2.1⟩
  |yes h'=>exact absurd (h.one h').2.1 he
  |on h' _=>exact absurd (h.one h').2.1 he
 |yes h=>cases k with
  |err h' he'=>exact absurd (h.one h').2.1.symm he'
  |yes h'=>exact⟨rfl,rfl,rfl⟩
  |on h' _=>have:=(h.one h').1;cases this
 |on h _ ih=>cases k with
  |err h' he'=>exact absurd (h.one h').2.1.symm he'
  |yes h'=>have:=(h.one h').1;cases this
  |on h' k'=>exact ih k'
theorem GD.no {Z:List az} {t:az} {r:Rn} {e:Int} (h:GD p q Z t r false e):r=KV:=by
 generalize hi:false=is at h
 induction h with
 |nil=>rfl
 |err h he=>rfl
 |yes h=>cases hi
 |on h _ ih=>exact ih hi
end
end
section
set_option maxRecDepth 100000
set_option maxHeartbeats 16000000
theorem su {l m:List aQ} (h:l.length=m.length) (hj:∀j,j<l.length->l.getD j aR=m.getD j aR):l=m:=by
 apply List.ext_getElem h
 intro j h1 h2
 have:=hj j h1
 rw[gD,gD,gL h1,gL h2] at this
 exact this
theorem yj (l:List aQ) (i:Nat) (x:aQ) (j:Nat) (hi:i<l.length):(l.set i x).getD j aR=if j=i then x else l.getD j aR:=by
 rw[gD,List.getElem?_set]
 by_cases h:i=j
 ·subst h;rw[if_pos rfl,if_pos hi,if_pos rfl];rfl
 ·rw[if_neg h,if_neg (fun e=>h e.symm),gD]
theorem FZ (p:ao) (q:bn) (s:az) (S:fV p q s):ae Tryz.prog 121 [.agg (bf p), .agg (eh q), .agg (b7 s)] (fun u=>u=pO p q s):=
 ae.rp (CM p q s) (Fc p q s S.hp S.hq S.siz.1 S.siz.2)
theorem KX (p:ao) (q:bn) (s:az) (ex:Bool) (S:fV p q s):
  an Tryz.prog 81 [.agg (bf p), .agg (eh q), .agg (b7 s), .bool ex] (ai.ofL []) (fun u M=>
   (¬om p q s/\u= .tup [.val (.pointer none), .int .i64 4])\/(om p q s/\u= .tup [.ptr 7001 0, .int .i64 0]/\M=ai.ofL (pb p s ex (inF p ex (lP p q s)).1 (inF p ex (lP p q s)).2))):=by
 have hI:=FZ p q s S
 by_cases h:om p q s
 ·rw[yi h] at hI
  obtain⟨h1,h2⟩:=Ih S h
  refine(FP p q s ex (lP p q s) 0 hI (by omega) h2).mono ?_
  rintro u M (⟨h3,_⟩|⟨_,h4,h5⟩)
  ·exact absurd rfl h3
  ·exact .inr ⟨h,h4,h5⟩
 ·rw[Ie h] at hI
  refine(FP p q s ex [] 4 hI (by simp) (fun k hk=>absurd hk (Nat.not_lt_zero _))).mono ?_
  rintro u M (⟨_,h4⟩|⟨h3,_⟩)
  ·exact .inl ⟨h,h4⟩
  ·exact absurd h3 (by decide)
end
end Go.Proofs.YtokjgegkhlkopaaGreatDoor
