import Derived.Test.YtokjgegkhlkopaaGreatDoorFoP
set_option linter.unusedVariables false
set_option linter.unusedSimpArgs false
namespace Go.Proofs.YtokjgegkhlkopaaGreatDoor
set_option maxRecDepth 100000
set_option maxHeartbeats 16000000
theorem xK {c:ap} {r:dh} {x:aQ} (hw:bc c=false):bc (cb c r x)=false:=by
 have hc:=aL hw
 have h1:(cb c r x).sent.length=c.sent.length:=by unfold cb;dsimp only;split<;>simp[bA]
 have h2:(cb c r x).faulty.length=c.faulty.length:=by unfold cb;dsimp only;split<;>simp[bA]
 have h3:(cb c r x).states.length=c.states.length:=cd c r x
 have h4:(cb c r x).shape.length=c.shape.length:=rfl
 unfold bc
 simp only[Bool.or_eq_false_iff,decide_eq_false_iff_not]
 omega
theorem AU {l ms:List Int} (hl:kX l 1048577) (h:Ku l ms):kX (aO l ms) 1048577:=by
 have key:∀k,k<=ms.length->∀j,0<=(aO l (ms.take k)).getD j 0/\(aO l (ms.take k)).getD j 0<=1048576:=by
  intro k
  induction k with
  |zero=>intro _ j;exact aV hl j
  |succ k ih=>
   intro hk j
   have h1:=ih (by omega) j
   have h2:=ih (by omega) (ms.getD k 0).toNat
   have h3:=h k (by omega)
   rw[aJ (by omega),aB] at h3⊢
   by_cases e:(ms.getD k 0).toNat=j/\(ms.getD k 0).toNat<(aO l (ms.take k)).length
   ·rw[if_pos ⟨rfl,e.2⟩] at h3
    rw[if_pos e]
    omega
   ·rw[if_neg e];exact h1
 intro j hj
 have:=key ms.length (Nat.le_refl _) j
 rw[List.take_length] at this
 omega
theorem g9.pto {p:ao} {r:dh} (h:g9 p r) (hk:r.kind=2\/r.kind=5):0<=r.pto/\r.pto<p.states.length:=by
 have:=h.kin
 unfold d8 at this
 rcases hk with hk|hk
 ·rw[if_neg (by omega),if_pos hk] at this
  exact nY (cm this (dj r.pto p.states.length) (by simp))
 ·rw[if_neg (by omega),if_neg (by omega),if_neg (by omega),if_neg (by omega)] at this
  exact nY (cm this (dj r.pto p.states.length) (by simp))
theorem c9.next {p:ao} {s:az} {c:ap} {x:aQ} (h:c9 p s c) (he:cz p s c x false) (ha:bo c (p.rules.getD x.rule.toNat au) x):c9 p s (cb c (p.rules.getD x.rule.toNat au) x):=by
 obtain⟨hin,hen⟩:=he
 have hR:=aK h.val (i:=x.rule.toNat) (by omega)
 generalize p.rules.getD x.rule.toNat au=r at hen hR ha⊢
 have hrd:=hR.read
 have hdst:=hR.dst
 have hv:=h.vc
 have hf:=vE h.val
 have hC:¬(p.fault=0/\(s.t≠0\/s.f≠0)):=h.adm.2.1
 have hlen:=hv.len
 have hcor:=hv.cor
 have h1:(cb c r x).sent.length=c.sent.length:=by unfold cb;dsimp only;split<;>simp[bA]
 have h2:(cb c r x).faulty.length=c.faulty.length:=by unfold cb;dsimp only;split<;>simp[bA]
 have h3:(cb c r x).states.length=c.states.length:=cd c r x
 unfold bo at ha
 refine⟨h.big,xK h.wide,h.val,h.siz,h.sz,h.adm,⟨by rw[h3];exact hlen,fun j hj=>?_,hcor,by rw[h1];exact hv.snl,?_,by rw[h2];exact hv.fal,?_,?_,?_,hv.tre,hv.non⟩⟩
 ·have e:(cb c r x).states.getD j 0=mV c r x j:=bi _ _ _ (by rw[h3] at hj;exact hj)
  rw[e]
  rw[h3] at hj
  have hs:=hv.sta j hj
  unfold mV
  by_cases e1:(j:Int)=x.process
  ·rw[if_pos e1];exact hdst
  ·rw[if_neg e1]
   by_cases e2:(r.kind=2\/r.kind=5)/\(j:Int)=x.partner
   ·rw[if_pos e2];exact hR.pto e2.1
   ·rw[if_neg e2]
    by_cases e3:r.kind=3
    ·rw[if_pos e3]
     obtain⟨g1,g2⟩:=hR.resp e3
     exact g2 _ (by omega)
    ·rw[if_neg e3];exact hs
 ·by_cases hc:x.process<c.correct
  ·rw[if_pos hc] at ha
   rw[dx hc]
   exact AU hv.sen ha
  ·rw[dy hc];exact hv.sen
 ·by_cases hc:x.process<c.correct
  ·rw[dx hc];exact hv.fau
  ·rw[if_neg hc] at ha
   rw[dy hc]
   have hw:Dh p=1048576:=by
    unfold Dh
    rw[if_pos]
    unfold ee at hlen
    by_cases e3:p.fault=3
    ·rw[if_pos e3] at hlen;omega
    ·rw[if_neg e3] at hlen;omega
   have:=hv.fau
   rw[hw] at this⊢
   exact AU this ha
 ·show 0<=(if r.write=-1 then c.value else r.write)
  have:=hv.va0
  split<;>omega
 ·show(if r.write=-1 then c.value else r.write)<1\/(if r.write=-1 then c.value else r.write)<p.values.length
  have:=hv.va1
  split<;>omega
theorem c9.vcon {p:ao} {s:az} {c:ap} (h:c9 p s c):kP p s c=0:=by
 have hs:=h.sz
 have hz:cT p s=0:=by
  unfold cT
  rw[if_neg (by rw[h.val];omega),if_neg (fun hn=>hn h.adm),if_neg (by omega)]
 unfold kP
 rw[if_neg (by omega)]
 unfold J8
 rw[if_pos h.vc]
def aH (p:ao) (x:aQ):dh:=p.rules.getD x.rule.toNat au
noncomputable def rp (p:ao) (s:az):List ap->ap->List aQ->AV
 |acc,_,[]=>pA acc 0
 |acc,cur,x::xs=>if cz p s cur x false then(if bo cur (aH p x) x then rp p s (acc++[cb cur (aH p x) x]) (cb cur (aH p x) x) xs else pA [] 4) else pA [] 9
theorem Mu {l:List aQ} {k:Nat} (h:k<l.length):l.drop k=l.getD k aR::l.drop (k+1):=by
 rw[List.drop_eq_getElem_cons h,gD,gL h]
 rfl
theorem AW (p:ao) (s:az):∀(xs:List aQ) (acc:List ap) (cur:ap),(∀d∈acc,bc d=false)->bc cur=false->∃l e,rp p s acc cur xs=pA l e/\l.length<=acc.length+xs.length/\∀d∈l,bc d=false
 |[],acc,cur,h1,_=>⟨acc,0,rfl,by simp,h1⟩
 |x::xs,acc,cur,h1,h2=>by
  rw[rp]
  by_cases he:cz p s cur x false
  ·rw[if_pos he]
   by_cases ha:bo cur (aH p x) x
   ·rw[if_pos ha]
    have hw:bc (cb cur (aH p x) x)=false:=xK h2
    obtain⟨l,e,g1,g2,g3⟩:=AW p s xs (acc++[cb cur (aH p x) x]) (cb cur (aH p x) x) (fun d hd=>by
     rcases List.mem_append.1 hd with hd|hd
     ·exact h1 d hd
     ·rw[List.mem_singleton] at hd;rw[hd];exact hw) hw
    refine⟨l,e,g1,?_,g3⟩
    rw[List.length_append,List.length_singleton] at g2
    rw[List.length_cons]
    omega
   ·rw[if_neg ha];exact⟨[],4,rfl,by simp,by simp⟩
  ·rw[if_neg he];exact⟨[],9,rfl,by simp,by simp⟩
theorem CF (acc:List ap) (d:ap):(acc++[d]).getD acc.length aC=d:=by
 rw[gD,List.getElem?_append_right (Nat.le_refl _),Nat.sub_self]
 rfl
theorem Mv {p:ao} {s:az} {c:ap} (h:bc c=false) (l:List aQ):∃m e,rp p s [c] c l=pA m e:=by
 obtain⟨m,e,h1,_⟩:=AW p s l [c] c (by simpa using h) h
 exact⟨m,e,h1⟩
theorem AX (p:ao) (s:az) (c:ap) (l:List aQ) (h:c9 p s c) (hl:l.length<=300000000):ae Tryz.prog 30 [.agg (bf p), .agg (b7 s), .agg (bg c), .sl aR cH l] (fun u=>u=rp p s [c] c l):=by
 refine ae.rp (Mv h.wide l) ?_
 refine ae.intro ab ac Tryz.func30 rfl (by decide) ?_;(conv=>whnf)
 refine am rfl ?_
 conv=>whnf
 refine am rfl ?_
 conv=>whnf
 refine am rfl ?_
 conv=>whnf
 (refine oP (Mo c h.wide) ?_;conv=>whnf)
 refine cA aC bg [c] rfl ?_
 conv=>whnf
 refine aE.loopF ab ac (fun z:Nat×List ap×ap=>z.1<=l.length/\z.2.1.length=z.1+1/\z.2.1.getD z.1 aC=z.2.2/\c9 p s z.2.2/\rp p s [c] c l=rp p s z.2.1 z.2.2 (l.drop z.1)) (fun z=>[(11, .int .i64 (z.1:Int)),(16, .top),(10, .row 1000 z.2.1.length 6)]) (fun z=>[(1000,kS z.2.1)]) (fun z=>l.length-z.1) (0,[c],c) ⟨Nat.zero_le _,rfl,rfl,h,rfl⟩ ?_;conv=>whnf
 refine⟨aM.by_ [(1000, .old 16)] _ 400 rfl (aa) (aa),?_⟩
 rintro⟨k,acc,cur⟩ ⟨h1,h2,h3,h4,h5⟩
 dsimp only at h1 h2 h3 h4 h5⊢
 conv=>whnf
 refine ah ?_ ?_<;>(intro g1;conv=>whnf)
 ·rw[Mu (by omega),rp] at h5
  refine dI ?_
  conv=>whnf
  refine aI ?_
  conv=>whnf
  refine nI ?_
  rw[show((acc.length:Int)-1).toNat=k by omega]
  conv=>whnf
  rw[h3]
  refine nI ?_
  rw[tN]
  generalize l.getD k aR=x at h5
  conv=>whnf
  by_cases he:cz p s cur x false
  case neg=>
   rw[if_neg he] at h5
   (refine oC (E8 p s cur x h4.big h4.wide h4.vcon he) ?_;conv=>whnf)
   repeat' ((first|refine nI ?_|refine aI ?_|refine tI ?_|refine fI ?_|fail);conv=>whnf)
   exact⟨.inr ⟨9,rfl,h5⟩,rfl⟩
  rw[if_pos he] at h5
  have hA:=E9 p s cur x h4.big h4.wide h4.vcon he
  have hA2:=E' p s cur x h4.big h4.wide h4.vcon he
  have hN:=fun ha=>h4.next he ha
  unfold aH at h5
  generalize p.rules.getD x.rule.toNat au=r at hA hA2 h5 hN
  by_cases ha:bo cur r x
  ·rw[if_pos ha] at h5
   (refine oC (hA ha) ?_;conv=>whnf)
   repeat' ((first|refine nI ?_|refine aI ?_|refine tI ?_|refine fI ?_|fail);conv=>whnf)
   refine cA aC bg [cb cur r x] rfl ?_
   conv=>whnf
   refine cB [cb cur r x] rfl lI ?_
   conv=>whnf
   repeat' ((first|refine nI ?_|refine aI ?_|refine tI ?_|refine fI ?_|fail);conv=>whnf)
   refine⟨(k+1,acc++[cb cur r x],cb cur r x),aM.by_ [(1000, .old 45)] _ 400 rfl (aa) (aa),⟨by dsimp only;omega,by simp;omega,by dsimp only;rw[<-h2];exact CF _ _,hN ha,h5⟩,by dsimp only;omega⟩
  ·rw[if_neg ha] at h5
   (refine oC (hA2 ha) ?_;conv=>whnf)
   repeat' ((first|refine nI ?_|refine aI ?_|refine tI ?_|refine fI ?_|fail);conv=>whnf)
   exact⟨.inr ⟨4,rfl,h5⟩,rfl⟩
 ·rw[List.drop_of_length_le (by omega)] at h5
  exact⟨.inl h5.symm,rfl⟩
structure Rn where
 start:ap
 steps:List aQ
def fB (p:ao) (s:az):ap->List aQ->Prop
 |_,[]=>True
 |cur,x::xs=>cz p s cur x false/\bo cur (aH p x) x/\fB p s (cb cur (aH p x) x) xs
noncomputable instance decRun (p:ao) (s:az) (c:ap) (l:List aQ):Decidable (fB p s c l):=Classical.propDecidable _
def tr (p:ao):ap->List aQ->List ap
 |_,[]=>[]
 |cur,x::xs=>cb cur (aH p x) x::tr p (cb cur (aH p x) x) xs
theorem Fa {p:ao} {s:az}:∀{xs:List aQ} {acc:List ap} {cur:ap},fB p s cur xs->rp p s acc cur xs=pA (acc++tr p cur xs) 0
 |[],acc,cur,_=>by simp[rp,tr]
 |x::xs,acc,cur,⟨h1,h2,h3⟩=>by
  rw[rp,if_pos h1,if_pos h2,Fa h3,tr,List.append_assoc]
  rfl
theorem Fb {p:ao} {s:az}:∀{xs:List aQ} {acc:List ap} {cur:ap},¬fB p s cur xs->∃e,e≠0/\rp p s acc cur xs=pA [] e
 |[],acc,cur,h=>absurd trivial h
 |x::xs,acc,cur,h=>by
  rw[rp]
  by_cases h1:cz p s cur x false
  ·rw[if_pos h1]
   by_cases h2:bo cur (aH p x) x
   ·rw[if_pos h2]
    exact Fb fun h3=>h ⟨h1,h2,h3⟩
   ·rw[if_neg h2];exact⟨4,by decide,rfl⟩
  ·rw[if_neg h1];exact⟨9,by decide,rfl⟩
theorem zK {p:ao}:∀(xs:List aQ) (cur:ap),(tr p cur xs).length=xs.length
 |[],_=>rfl
 |x::xs,cur=>by simp only[tr,List.length_cons];rw[zK xs]
def trs (p:ao) (c:ap) (l:List aQ):List ap:=c::tr p c l
theorem vF (p:ao) (c:ap) (l:List aQ):(trs p c l).length=l.length+1:=by simp[trs,zK]
theorem vG {p:ao} {s:az}:∀{xs:List aQ} {cur:ap},c9 p s cur->fB p s cur xs->∀i,i<=xs.length->c9 p s ((trs p cur xs).getD i aC)
 |_,cur,h,_,0,_=>h
 |[],_,_,_,i+1,hi=>by simp at hi
 |x::xs,cur,h,⟨h1,h2,h3⟩,i+1,hi=>by
  have:=vG (h.next h1 h2) h3 i (by simpa using hi)
  exact this
section
variable {S:ag}
end
end Go.Proofs.YtokjgegkhlkopaaGreatDoor
