import Derived.Test.YtblcpnmnibcbbaaGreatDoorFoP
set_option linter.unusedVariables false
set_option linter.unusedSimpArgs false
namespace Go.Proofs.YtblcpnmnibcbbaaGreatDoor
set_option maxRecDepth 100000
set_option maxHeartbeats 16000000
theorem u7 {c:ap} {r:cY} {x:be} (hw:aX c=false):aX (cp c r x)=false:=by
 have hc:=aG hw
 have h1:(cp c r x).sent.length=c.sent.length:=by unfold cp;dsimp only;split<;>simp[bq]
 have h2:(cp c r x).faulty.length=c.faulty.length:=by unfold cp;dsimp only;split<;>simp[bq]
 have h3:(cp c r x).states.length=c.states.length:=bT c r x
 have h4:(cp c r x).shape.length=c.shape.length:=rfl
 unfold aX
 simp only[Bool.or_eq_false_iff,decide_eq_false_iff_not]
 omega
theorem xN {l ms:List Int} (hl:jT l 1048577) (h:Ge l ms):jT (aL l ms) 1048577:=by
 have key:∀k,k<=ms.length->∀j,0<=(aL l (ms.take k)).getD j 0/\(aL l (ms.take k)).getD j 0<=1048576:=by
  intro k
  induction k with
  |zero=>intro _ j;exact aN hl j
  |succ k ih=>
   intro hk j
   have h1:=ih (by omega) j
   have h2:=ih (by omega) (ms.getD k 0).toNat
   have h3:=h k (by omega)
   rw[aE (by omega),ax] at h3⊢
   by_cases e:(ms.getD k 0).toNat=j/\(ms.getD k 0).toNat<(aL l (ms.take k)).length
   ·rw[if_pos ⟨rfl,e.2⟩] at h3
    rw[if_pos e]
    omega
   ·rw[if_neg e];exact h1
 intro j hj
 have:=key ms.length (Nat.le_refl _) j
 rw[List.take_length] at this
 omega
theorem gi.pto {p:aq} {r:cY} (h:gi p r) (hk:r.kind=2\/r.kind=5):0<=r.pto/\r.pto<p.states.length:=by
 have:=h.kin
 unfold dH at this
 rcases hk with hk|hk
 ·rw[if_neg (by omega),if_pos hk] at this
  exact mC (cd this (cZ r.pto p.states.length) (by simp))
 ·rw[if_neg (by omega),if_neg (by omega),if_neg (by omega),if_neg (by omega)] at this
  exact mC (cd this (cZ r.pto p.states.length) (by simp))
theorem cK.next {p:aq} {s:aB} {c:ap} {x:be} (h:cK p s c) (he:cz p s c x false) (ha:bh c (p.rules.getD x.rule.toNat au) x):cK p s (cp c (p.rules.getD x.rule.toNat au) x):=by
 obtain⟨hin,hen⟩:=he
 have hR:=aF h.val (i:=x.rule.toNat) (by omega)
 generalize p.rules.getD x.rule.toNat au=r at hen hR ha⊢
 have hrd:=hR.read
 have hdst:=hR.dst
 have hv:=h.vc
 have hf:=ta h.val
 have hC:¬(p.fault=0/\(s.t≠0\/s.f≠0)):=h.adm.2.1
 have hlen:=hv.len
 have hcor:=hv.cor
 have h1:(cp c r x).sent.length=c.sent.length:=by unfold cp;dsimp only;split<;>simp[bq]
 have h2:(cp c r x).faulty.length=c.faulty.length:=by unfold cp;dsimp only;split<;>simp[bq]
 have h3:(cp c r x).states.length=c.states.length:=bT c r x
 unfold bh at ha
 refine⟨h.big,u7 h.wide,h.val,h.siz,h.sz,h.adm,⟨by rw[h3];exact hlen,fun j hj=>?_,hcor,by rw[h1];exact hv.snl,?_,by rw[h2];exact hv.fal,?_,?_,?_,hv.tre,hv.non⟩⟩
 ·have e:(cp c r x).states.getD j 0=lG c r x j:=aZ _ _ _ (by rw[h3] at hj;exact hj)
  rw[e]
  rw[h3] at hj
  have hs:=hv.sta j hj
  unfold lG
  by_cases e1:(j:Int)=x.process
  ·rw[if_pos e1];exact hdst
  ·rw[if_neg e1]
   by_cases e2:(r.kind=2\/r.kind=5)/\(j:Int)=x.partner
   ·rw[if_pos e2];exact hR.pto e2.1
   ·rw[if_neg e2]
    by_cases e3:r.kind=3
    ·rw[if_pos e3]
     obtain⟨g1,g2⟩:=hR.resp e3
     exact g2 _ (by omega)
    ·rw[if_neg e3];exact hs
 ·by_cases hc:x.process<c.correct
  ·rw[if_pos hc] at ha
   rw[dh hc]
   exact xN hv.sen ha
  ·rw[di hc];exact hv.sen
 ·by_cases hc:x.process<c.correct
  ·rw[dh hc];exact hv.fau
  ·rw[if_neg hc] at ha
   rw[di hc]
   have hw:wI p=1048576:=by
    unfold wI
    rw[if_pos]
    unfold dL at hlen
    by_cases e3:p.fault=3
    ·rw[if_pos e3] at hlen;omega
    ·rw[if_neg e3] at hlen;omega
   have:=hv.fau
   rw[hw] at this⊢
   exact xN this ha
 ·show 0<=(if r.write=-1 then c.value else r.write)
  have:=hv.va0
  split<;>omega
 ·show(if r.write=-1 then c.value else r.write)<1\/(if r.write=-1 then c.value else r.write)<p.values.length
  have:=hv.va1
  split<;>omega
theorem cK.vcon {p:aq} {s:aB} {c:ap} (h:cK p s c):jP p s c=0:=by
 have hs:=h.sz
 have hz:cE p s=0:=by
  unfold cE
  rw[if_neg (by rw[h.val];omega),if_neg (fun hn=>hn h.adm),if_neg (by omega)]
 unfold jP
 rw[if_neg (by omega)]
 unfold vX
 rw[if_pos h.vc]
def aO (p:aq) (x:be):cY:=p.rules.getD x.rule.toNat au
noncomputable def rp (p:aq) (s:aB):List ap->ap->List be->AV
 |acc,_,[]=>nz acc 0
 |acc,cur,x::xs=>if cz p s cur x false then(if bh cur (aO p x) x then rp p s (acc++[cp cur (aO p x) x]) (cp cur (aO p x) x) xs else nz [] 4) else nz [] 9
theorem Fo {l:List be} {k:Nat} (h:k<l.length):l.drop k=l.getD k bm::l.drop (k+1):=by
 rw[List.drop_eq_getElem_cons h,gD,gL h]
 rfl
theorem xO (p:aq) (s:aB):∀(xs:List be) (acc:List ap) (cur:ap),(∀d∈acc,aX d=false)->aX cur=false->∃l e,rp p s acc cur xs=nz l e/\l.length<=acc.length+xs.length/\∀d∈l,aX d=false
 |[],acc,cur,h1,_=>⟨acc,0,rfl,by simp,h1⟩
 |x::xs,acc,cur,h1,h2=>by
  rw[rp]
  by_cases he:cz p s cur x false
  ·rw[if_pos he]
   by_cases ha:bh cur (aO p x) x
   ·rw[if_pos ha]
    have hw:aX (cp cur (aO p x) x)=false:=u7 h2
    obtain⟨l,e,g1,g2,g3⟩:=xO p s xs (acc++[cp cur (aO p x) x]) (cp cur (aO p x) x) (fun d hd=>by
     rcases List.mem_append.1 hd with hd|hd
     ·exact h1 d hd
     ·rw[List.mem_singleton] at hd;rw[hd];exact hw) hw
    refine⟨l,e,g1,?_,g3⟩
    rw[List.length_append,List.length_singleton] at g2
    rw[List.length_cons]
    omega
   ·rw[if_neg ha];exact⟨[],4,rfl,by simp,by simp⟩
  ·rw[if_neg he];exact⟨[],9,rfl,by simp,by simp⟩
theorem rU (acc:List ap) (d:ap):(acc++[d]).getD acc.length aA=d:=by
 rw[gD,List.getElem?_append_right (Nat.le_refl _),Nat.sub_self]
 rfl
theorem Fp {p:aq} {s:aB} {c:ap} (h:aX c=false) (l:List be):∃m e,rp p s [c] c l=nz m e:=by
 obtain⟨m,e,h1,_⟩:=xO p s l [c] c (by simpa using h) h
 exact⟨m,e,h1⟩
theorem Em (p:aq) (s:aB) (c:ap) (l:List be) (h:cK p s c) (hl:l.length<=10000):aa Tryz.prog 42 [.agg (bc p), .agg (bW s), .agg (aY c), .sl bm cF l] (fun u=>u=rp p s [c] c l):=by
 refine aa.rp (Fp h.wide l) ?_
 refine aa.intro ab ac Tryz.func42 rfl (by decide) ?_;(conv=>whnf)
 refine am rfl ?_
 conv=>whnf
 refine am rfl ?_
 conv=>whnf
 refine am rfl ?_
 conv=>whnf
 refine ar.news 400 (kD 5 9 13 17) (eW c) (eH c) (gW c h.wide) (ai) rfl fN ?_
 conv=>whnf
 refine c8 aA aY [c] rfl ?_
 conv=>whnf
 refine aR.loopF ab ac (fun z:Nat×List ap×ap=>z.1<=l.length/\z.2.1.length=z.1+1/\z.2.1.getD z.1 aA=z.2.2/\cK p s z.2.2/\rp p s [c] c l=rp p s z.2.1 z.2.2 (l.drop z.1)) (fun z=>[(21, .int .i64 (z.1:Int)),(17, .top),(18, .top),(10, .row 1000 z.2.1.length 6)]) (fun z=>[(1000,iI z.2.1)]) (fun z=>l.length-z.1) (0,[c],c) ⟨Nat.zero_le _,rfl,rfl,h,rfl⟩ ?_;conv=>whnf
 refine⟨bE.by_ [(1000, .old 18)] _ 400 rfl (ai) (ai),?_⟩
 rintro⟨k,acc,cur⟩ ⟨h1,h2,h3,h4,h5⟩
 dsimp only at h1 h2 h3 h4 h5⊢
 conv=>whnf
 refine ag ?_ ?_<;>(intro g1;conv=>whnf)
 ·rw[Fo (by omega),rp] at h5
  refine nI ?_
  rw[tN]
  generalize l.getD k bm=x at h5
  conv=>whnf
  refine dI ?_
  conv=>whnf
  refine aI ?_
  conv=>whnf
  refine nI ?_
  rw[show((acc.length:Int)-1).toNat=k by omega]
  conv=>whnf
  rw[h3]
  (refine oC (F6 p s cur h4.wide) ?_;conv=>whnf)
  refine dC (p8 p s cur x false h4) (fun _=>?_) (fun _=>?_)<;>(conv=>whnf)
  case refine_2=>
   rename_i hn
   rw[if_neg hn] at h5
   exact⟨.inr ⟨9,rfl,h5⟩,rfl⟩
  rename_i he
  rw[if_pos he] at h5
  have hA:=B4 p s cur x h4 he
  have hN:=fun ha=>h4.next he ha
  unfold aO at h5
  generalize p.rules.getD x.rule.toNat au=r at hA h5 hN
  by_cases ha:bh cur r x
  ·rw[if_pos ha] at h5
   refine ar.news 400 (kD 1001 1002 1003 1004) (eW (cp cur r x)) (.tup [eH (cp cur r x), .int .i64 0]) hA (ai) rfl (fun u M' hR=>?_) ?_
   ·rcases hR with ⟨_,hT⟩|⟨hn,_⟩
    ·exact I0 u M' hT
    ·exact absurd ha hn
   conv=>whnf
   repeat' ((first|refine nI ?_|refine aI ?_|refine tI ?_|refine fI ?_|fail);conv=>whnf)
   refine c8 aA aY [cp cur r x] rfl ?_
   conv=>whnf
   refine eC [cp cur r x] rfl lI ?_
   conv=>whnf
   repeat' ((first|refine nI ?_|refine aI ?_|refine tI ?_|refine fI ?_|fail);conv=>whnf)
   refine⟨(k+1,acc++[cp cur r x],cp cur r x),bE.by_ [(1000, .old 50)] _ 400 rfl (ai) (ai),⟨by dsimp only;omega,by simp;omega,by dsimp only;rw[<-h2];exact rU _ _,hN ha,h5⟩,by dsimp only;omega⟩
  ·rw[if_neg ha] at h5
   refine ar.news 400 [] [] (.tup [.agg zc, .int .i64 4]) hA (ai) rfl (fun u M' hR=>?_) ?_
   ·rcases hR with ⟨hy,_⟩|⟨_,rfl⟩
    ·exact absurd hy ha
    ·exact⟨trivial,ai⟩
   conv=>whnf
   repeat' ((first|refine nI ?_|refine aI ?_|refine tI ?_|refine fI ?_|fail);conv=>whnf)
   exact⟨.inr ⟨4,rfl,h5⟩,rfl⟩
 ·rw[List.drop_of_length_le (by omega)] at h5
  exact⟨.inl h5.symm,rfl⟩
theorem xP (p:aq) (s:aB) (c:ap) (l:List be) (h:cK p s c) (hl:l.length<=10000):aa Tryz.prog 33 [.agg (bc p), .agg (bW s), .agg (aY c), .sl bm cF l] (fun u=>u=rp p s [c] c l):=by
 refine aa.rp (Fp h.wide l) ?_
 refine aa.intro ab ac Tryz.func33 rfl (by decide) ?_;(conv=>whnf)
 refine am rfl ?_
 conv=>whnf
 refine am rfl ?_
 conv=>whnf
 refine am rfl ?_
 conv=>whnf
 (refine oP (HH c h.wide) ?_;conv=>whnf)
 refine c8 aA aY [c] rfl ?_
 conv=>whnf
 refine aR.loopF ab ac (fun z:Nat×List ap×ap=>z.1<=l.length/\z.2.1.length=z.1+1/\z.2.1.getD z.1 aA=z.2.2/\cK p s z.2.2/\rp p s [c] c l=rp p s z.2.1 z.2.2 (l.drop z.1)) (fun z=>[(11, .int .i64 (z.1:Int)),(16, .top),(10, .row 1000 z.2.1.length 6)]) (fun z=>[(1000,iI z.2.1)]) (fun z=>l.length-z.1) (0,[c],c) ⟨Nat.zero_le _,rfl,rfl,h,rfl⟩ ?_;conv=>whnf
 refine⟨bE.by_ [(1000, .old 16)] _ 400 rfl (ai) (ai),?_⟩
 rintro⟨k,acc,cur⟩ ⟨h1,h2,h3,h4,h5⟩
 dsimp only at h1 h2 h3 h4 h5⊢
 conv=>whnf
 refine ag ?_ ?_<;>(intro g1;conv=>whnf)
 ·rw[Fo (by omega),rp] at h5
  refine dI ?_
  conv=>whnf
  refine aI ?_
  conv=>whnf
  refine nI ?_
  rw[show((acc.length:Int)-1).toNat=k by omega]
  conv=>whnf
  rw[h3]
  refine nI ?_
  rw[tN]
  generalize l.getD k bm=x at h5
  conv=>whnf
  by_cases he:cz p s cur x false
  case neg=>
   rw[if_neg he] at h5
   (refine oC (B6 p s cur x h4.big h4.wide h4.vcon he) ?_;conv=>whnf)
   repeat' ((first|refine nI ?_|refine aI ?_|refine tI ?_|refine fI ?_|fail);conv=>whnf)
   exact⟨.inr ⟨9,rfl,h5⟩,rfl⟩
  rw[if_pos he] at h5
  have hA:=B7 p s cur x h4.big h4.wide h4.vcon he
  have hA2:=B8 p s cur x h4.big h4.wide h4.vcon he
  have hN:=fun ha=>h4.next he ha
  unfold aO at h5
  generalize p.rules.getD x.rule.toNat au=r at hA hA2 h5 hN
  by_cases ha:bh cur r x
  ·rw[if_pos ha] at h5
   (refine oC (hA ha) ?_;conv=>whnf)
   repeat' ((first|refine nI ?_|refine aI ?_|refine tI ?_|refine fI ?_|fail);conv=>whnf)
   refine c8 aA aY [cp cur r x] rfl ?_
   conv=>whnf
   refine eC [cp cur r x] rfl lI ?_
   conv=>whnf
   repeat' ((first|refine nI ?_|refine aI ?_|refine tI ?_|refine fI ?_|fail);conv=>whnf)
   refine⟨(k+1,acc++[cp cur r x],cp cur r x),bE.by_ [(1000, .old 45)] _ 400 rfl (ai) (ai),⟨by dsimp only;omega,by simp;omega,by dsimp only;rw[<-h2];exact rU _ _,hN ha,h5⟩,by dsimp only;omega⟩
  ·rw[if_neg ha] at h5
   (refine oC (hA2 ha) ?_;conv=>whnf)
   repeat' ((first|refine nI ?_|refine aI ?_|refine tI ?_|refine fI ?_|fail);conv=>whnf)
   exact⟨.inr ⟨4,rfl,h5⟩,rfl⟩
 ·rw[List.drop_of_length_le (by omega)] at h5
  exact⟨.inl h5.symm,rfl⟩
structure Rn where
 start:ap
 steps:List be
def ee (p:aq) (s:aB):ap->List be->Prop
 |_,[]=>True
 |cur,x::xs=>cz p s cur x false/\bh cur (aO p x) x/\ee p s (cp cur (aO p x) x) xs
noncomputable instance decRun (p:aq) (s:aB) (c:ap) (l:List be):Decidable (ee p s c l):=Classical.propDecidable _
def tr (p:aq):ap->List be->List ap
 |_,[]=>[]
 |cur,x::xs=>cp cur (aO p x) x::tr p (cp cur (aO p x) x) xs
theorem xQ {p:aq} {s:aB}:∀{xs:List be} {acc:List ap} {cur:ap},ee p s cur xs->rp p s acc cur xs=nz (acc++tr p cur xs) 0
 |[],acc,cur,_=>by simp[rp,tr]
 |x::xs,acc,cur,⟨h1,h2,h3⟩=>by
  rw[rp,if_pos h1,if_pos h2,xQ h3,tr,List.append_assoc]
  rfl
theorem xR {p:aq} {s:aB}:∀{xs:List be} {acc:List ap} {cur:ap},¬ee p s cur xs->∃e,e≠0/\rp p s acc cur xs=nz [] e
 |[],acc,cur,h=>absurd trivial h
 |x::xs,acc,cur,h=>by
  rw[rp]
  by_cases h1:cz p s cur x false
  ·rw[if_pos h1]
   by_cases h2:bh cur (aO p x) x
   ·rw[if_pos h2]
    exact xR fun h3=>h ⟨h1,h2,h3⟩
   ·rw[if_neg h2];exact⟨4,by decide,rfl⟩
  ·rw[if_neg h1];exact⟨9,by decide,rfl⟩
theorem wQ {p:aq}:∀(xs:List be) (cur:ap),(tr p cur xs).length=xs.length
 |[],_=>rfl
 |x::xs,cur=>by simp only[tr,List.length_cons];rw[wQ xs]
def trs (p:aq) (c:ap) (l:List be):List ap:=c::tr p c l
theorem k0 (p:aq) (c:ap) (l:List be):(trs p c l).length=l.length+1:=by simp[trs,wQ]
theorem oH {p:aq} {s:aB}:∀{xs:List be} {cur:ap},cK p s cur->ee p s cur xs->∀i,i<=xs.length->cK p s ((trs p cur xs).getD i aA)
 |_,cur,h,_,0,_=>h
 |[],_,_,_,i+1,hi=>by simp at hi
 |x::xs,cur,h,⟨h1,h2,h3⟩,i+1,hi=>by
  have:=oH (h.next h1 h2) h3 i (by simpa using hi)
  exact this
section
variable {S:ae}
theorem u9 (l:List (xy qS)):Cv S (.sl (sU qS) (pD qS) l) (.sl bm cF (l.map u6)):=
 Cv.sl (d:=sU qS) (enc:=pD qS) bm cF u6 fun y _=>⟨Ek y,rfl⟩
end
end Go.Proofs.YtblcpnmnibcbbaaGreatDoor
