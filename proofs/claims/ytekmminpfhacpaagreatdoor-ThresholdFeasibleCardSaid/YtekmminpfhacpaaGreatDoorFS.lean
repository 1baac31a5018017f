import Derived.Test.YtekmminpfhacpaaGreatDoorHA
set_option linter.unusedVariables false
set_option linter.unusedSimpArgs false
namespace Go.Proofs.YtekmminpfhacpaaGreatDoor
set_option maxRecDepth 100000
set_option maxHeartbeats 16000000
theorem ML {p:ap} {s:aN} {c:aD} (h:dA c=false) (l:List bX):∃m e,rp p s [c] c l=Ib m e:=by
 obtain⟨m,e,h1,_⟩:=xw p s l [c] c (by simpa using h) h
 exact⟨m,e,h1⟩
structure Rn where
 start:aD
 steps:List bX
def MM (r:Rn):List AV:=cy r.start++[.sl cX iA r.steps]
noncomputable def PO (p:ap) (s:aN) (r:Rn):AV:=if dV p s≠0 then Ib [] (dV p s) else if VC p s r.start then rp p s [r.start] r.start r.steps else Ib [] 10
def dB (p:ap) (s:aN):aD->List bX->Prop
 |_,[]=>True
 |cur,x::xs=>qc p s cur x false/\qe cur (cQ p x) x/\dB p s (fQ cur (cQ p x) x) xs
noncomputable instance decRun (p:ap) (s:aN) (c:aD) (l:List bX):Decidable (dB p s c l):=Classical.propDecidable _
def tr (p:ap):aD->List bX->List aD
 |_,[]=>[]
 |cur,x::xs=>fQ cur (cQ p x) x::tr p (fQ cur (cQ p x) x) xs
theorem MN {p:ap} {s:aN}:∀{xs:List bX} {acc:List aD} {cur:aD},dB p s cur xs->rp p s acc cur xs=Ib (acc++tr p cur xs) 0
 |[],acc,cur,_=>by simp[rp,tr]
 |x::xs,acc,cur,⟨h1,h2,h3⟩=>by
  rw[rp,if_pos h1,if_pos h2,MN h3,tr,List.append_assoc]
  rfl
theorem IE {p:ap}:∀(xs:List bX) (cur:aD),(tr p cur xs).length=xs.length
 |[],_=>rfl
 |x::xs,cur=>by simp only[tr,List.length_cons];rw[IE xs]
def kT (p:ap) (c:aD) (l:List bX):List aD:=c::tr p c l
theorem xG (p:ap) (c:aD) (l:List bX):(kT p c l).length=l.length+1:=by simp[kT,IE]
theorem pS {p:ap} {s:aN}:∀{xs:List bX} {cur:aD},fp p s cur->dB p s cur xs->∀i,i<=xs.length->fp p s ((kT p cur xs).getD i cf)
 |_,cur,h,_,0,_=>h
 |[],_,_,_,i+1,hi=>by simp at hi
 |x::xs,cur,h,⟨h1,h2,h3⟩,i+1,hi=>by
  have:=pS (h.next h1 h2) h3 i (by simpa using hi)
  exact this
theorem jt {p:ap} {s:aN}:∀{xs:List bX} {cur:aD},fp p s cur->dB p s cur xs->∀i,i<xs.length->
  qc p s ((kT p cur xs).getD i cf) (xs.getD i cX) false/\qe ((kT p cur xs).getD i cf) (cQ p (xs.getD i cX)) (xs.getD i cX)/\(kT p cur xs).getD (i+1) cf=fQ ((kT p cur xs).getD i cf) (cQ p (xs.getD i cX)) (xs.getD i cX)
 |[],_,_,_,_,hi=>by simp at hi
 |x::xs,cur,h,⟨h1,h2,h3⟩,0,_=>⟨h1,h2,rfl⟩
 |x::xs,cur,h,⟨h1,h2,h3⟩,i+1,hi=>jt (h.next h1 h2) h3 i (by simpa using hi)
def S4 (p:ap) (q:aJ):List Int:=if 0<q.start.length then q.start else p.initial
def Sc (p:ap) (q:aJ) (s:aN) (i:Nat):List Int:=if i=0/\0<p.leader.length then p.leader else if(i:Int)<s.n-s.f then S4 p q else p.initial
noncomputable def QO (p:ap) (q:aJ) (s:aN):Int:=if bF p q≠0 then bF p q else dV p s
def MO (p:ap) (q:aJ) (s:aN) (c:aD):Prop:=VC p s c/\c.value=0/\(∀j,j<c.sent.length->c.sent.getD j 0=0/\c.faulty.getD j 0=0)/\∀i,i<c.states.length->c.states.getD i 0∈Sc p q s i
noncomputable instance decIsI (p:ap) (q:aJ) (s:aN) (c:aD):Decidable (MO p q s c):=Classical.propDecidable _
def mV:List Int->Int
 |[]=>0
 |a::l=>a+mV l
theorem zM:∀{l:List Int} {k:Nat} (d:Int),k<l.length->mV (l.set k d)=mV l+d-l.getD k 0
 |[],k,d,h=>by simp at h
 |a::l,0,d,_=>by simp[mV];omega
 |a::l,k+1,d,h=>by
  have:=zM (l:=l) (k:=k) d (by simpa using h)
  rw[List.set_cons_succ,mV,mV,this]
  show _=_-l.getD k 0
  omega
theorem IG {n:Int}:∀{l:List Int},(∀x∈l,0<=x/\x<n)->0<=mV l/\mV l<=n*l.length
 |[],_=>by simp[mV]
 |a::l,h=>by
  have b:=IG (l:=l) fun x hx=>h x (List.mem_cons_of_mem _ hx)
  have c:=h a List.mem_cons_self
  rw[mV,List.length_cons,Int.natCast_add,Int.mul_add]
  omega
theorem IH {p:ap} {s:aN} {c:aD} {x:bX} (ht:io p) (he:qc p s c x false):mV c.states<mV (fQ c (cQ p x) x).states:=by
 obtain⟨⟨⟨r1,r2⟩,⟨q1,q2⟩⟩,hs,_,_⟩:=he
 have hk:=ht.2.2 x.rule.toNat (by omega)
 rw[qQ (show(cQ p x).kind=1 from hk.1) ⟨q1,q2⟩,zM _ (by omega),hs]
 have:=hk.2.1
 unfold cQ
 omega
theorem sb {p:ap} {s:aN} {c:aD} (h:fp p s c):0<=mV c.states/\mV c.states<=48:=by
 have hl:=h.vc.len
 have hsz:=h.sz
 have hm:iy p s<=8:=by unfold iy;split<;>omega
 have hw:=(a9 h.val).len
 have:=IG (l:=c.states) (n:=p.states.length) fun x hx=>by
  obtain⟨i,hi,e⟩:=List.getElem_of_mem hx
  have:=h.vc.sta i hi
  rwa [am 0 hi,e] at this
 have h2:(p.states.length:Int)*c.states.length<=6*8:=Int.mul_le_mul (by omega) (by omega) (by omega) (by omega)
 omega
theorem QP {p:ap} {s:aN} {c:aD} {x:bX} {f:Bool} (ht:io p) (hv:aL p=0) (he:qc p s c x f):K1 p x:=Ij ht hv (ri:=x.rule) he.1.1 0
theorem LD (p:ap) (s:aN) (r:Rn):∃l e,PO p s r=Ib l e:=by
 unfold PO
 split
 ·exact⟨[],_,rfl⟩
 ·rename_i hz
  split
  ·rename_i hv
   have hw:=xz (p:=p) (s:=s) (Classical.not_not.1 hz) hv
   obtain⟨l,e,h1,_⟩:=xw p s r.steps [r.start] r.start (by simpa using hw) hw
   exact⟨l,e,h1⟩
  ·exact⟨[],_,rfl⟩
theorem LE (p:ap) (s:aN) (c:aD) (l:List bX) (h:fp p s c) (ht:io p) (hl:l.length<=140737488355328):ab Tryz.prog 75 [.agg (dg p), .agg (gr s), .agg (cy c), .sl cX iA l] (fun u=>u=rp p s [c] c l):=by
 refine ab.rp (ML h.wide l) ?_
 refine ab.intro ae ag Tryz.func75 rfl (by decide) ?_;(conv=>whnf)
 refine ar rfl ?_
 conv=>whnf
 refine ar rfl ?_
 conv=>whnf
 refine ar rfl ?_
 conv=>whnf
 refine aj.news 400 (E8 5 9 13 17) (xr c) (uM c) (BM c h.wide) (aa) rfl OL ?_
 conv=>whnf
 refine c7 cf cy [c] rfl ?_
 conv=>whnf
 refine a8.loopF ae ag (fun z:Nat×List aD×aD=>z.1<=l.length/\z.2.1.length=z.1+1/\z.2.1.getD z.1 cf=z.2.2/\(fp p s z.2.2/\mV c.states+(z.1:Int)<=mV z.2.2.states)/\rp p s [c] c l=rp p s z.2.1 z.2.2 (l.drop z.1)) (fun z=>[(21, .int .i64 (z.1:Int)),(17, .top),(18, .top),(10, .row 1000 z.2.1.length 6)]) (fun z=>[(1000,R7 z.2.1)]) (fun z=>l.length-z.1) (0,[c],c) ⟨Nat.zero_le _,rfl,rfl,⟨h,by dsimp only;omega⟩,rfl⟩ ?_;conv=>whnf
 refine⟨bd.by_ [(1000, .old 18)] _ 400 rfl (aa) (aa),?_⟩
 rintro⟨k,acc,cur⟩ ⟨h1,h2,h3,⟨h4,h6⟩,h5⟩
 dsimp only at h1 h2 h3 h4 h5 h6⊢
 have hpm:=sb h4
 have hp0:=sb h
 conv=>whnf
 refine ai ?_ ?_<;>(intro g1;conv=>whnf)
 ·rw[QK (by omega),rp] at h5
  refine nI ?_
  rw[tN]
  generalize l.getD k cX=x at h5
  conv=>whnf
  refine dI ?_
  conv=>whnf
  refine aI ?_
  conv=>whnf
  refine nI ?_
  rw[show((acc.length:Int)-1).toNat=k by omega]
  conv=>whnf
  rw[h3]
  (refine oC (KK p s cur h4.wide) ?_;conv=>whnf)
  refine dC (pN p s cur x false h4) (fun _=>?_) (fun _=>?_)<;>(conv=>whnf)
  case refine_2=>
   rename_i hn
   rw[if_neg hn] at h5
   exact⟨.inr ⟨9,rfl,h5⟩,rfl⟩
  rename_i he
  rw[if_pos he] at h5
  have hup:=IH ht he
  have hA:=BN p s cur x h4 he (QP ht h4.val he)
  have hN:=fun ha=>h4.next he ha
  unfold cQ at h5 hup
  generalize p.rules.getD x.rule.toNat au=r at hA h5 hN hup
  by_cases ha:qe cur r x
  ·rw[if_pos ha] at h5
   refine aj.news 400 (E8 1001 1002 1003 1004) (xr (fQ cur r x)) (.tup [uM (fQ cur r x), .int .i64 0]) hA (aa) rfl (fun u M' hR=>?_) ?_
   ·rcases hR with ⟨_,hT⟩|⟨hn,_⟩
    ·exact OM u M' hT
    ·exact absurd ha hn
   conv=>whnf
   repeat' ((first|refine nI ?_|refine aI ?_|refine tI ?_|refine fI ?_|fail);conv=>whnf)
   refine c7 cf cy [fQ cur r x] rfl ?_
   conv=>whnf
   refine di [fQ cur r x] rfl lI ?_
   conv=>whnf
   repeat' ((first|refine nI ?_|refine aI ?_|refine tI ?_|refine fI ?_|fail);conv=>whnf)
   refine⟨(k+1,acc++[fQ cur r x],fQ cur r x),bd.by_ [(1000, .old 50)] _ 400 rfl (aa) (aa),⟨by dsimp only;omega,by simp;omega,by dsimp only;rw[<-h2];exact E9 _ _,⟨hN ha,by dsimp only;omega⟩,h5⟩,by dsimp only;omega⟩
  ·rw[if_neg ha] at h5
   refine aj.news 400 [] [] (.tup [.agg j6, .int .i64 4]) hA (aa) rfl (fun u M' hR=>?_) ?_
   ·rcases hR with ⟨hy,_⟩|⟨_,rfl⟩
    ·exact absurd hy ha
    ·exact⟨trivial,aa⟩
   conv=>whnf
   repeat' ((first|refine nI ?_|refine aI ?_|refine tI ?_|refine fI ?_|fail);conv=>whnf)
   exact⟨.inr ⟨4,rfl,h5⟩,rfl⟩
 ·rw[List.drop_of_length_le (by omega)] at h5
  exact⟨.inl h5.symm,rfl⟩
theorem LF (p:ap) (s:aN) (r:Rn) (hok:qz p) (hval:aL p=0) (ht:io p) (hc:MJ r.start) (hl:r.steps.length<=140737488355328):ab Tryz.prog 32 [.agg (dg p), .agg (gr s), .agg (MM r)] (fun u=>u=PO p s r):=by
 have he:=PO.eq_1 p s r
 have hp:=gZ hval
 obtain⟨m,e,hm⟩:=LD p s r
 refine ab.rp ⟨m,e,hm⟩ ?_
 refine ab.intro ae ag Tryz.func32 rfl (by decide) ?_;(conv=>whnf)
 refine ar rfl ?_
 conv=>whnf
 refine ar rfl ?_
 conv=>whnf
 refine ar rfl ?_
 conv=>whnf
 (refine oP (t3 p s hok) ?_;conv=>whnf)
 refine ai ?_ ?_<;>(intro h1;conv=>whnf)
 ·rw[if_pos h1] at he;exact⟨.inr ⟨_,rfl,he⟩,rfl⟩
 rw[if_neg h1] at he
 have h2:=kv (p:=p) (s:=s) (by omega)
 (refine oP (pO p s r.start hp hc (by omega)) ?_;conv=>whnf)
 by_cases h3:VC p s r.start
 ·rw[if_pos h3] at he
  have hw:=xz (p:=p) (s:=s) (by omega) h3
  have hv:wU p s r.start=0:=by unfold wU;rw[if_pos h3]
  have h:fp p s r.start:=fp.of hp hw (by unfold du;rw[if_neg h1];exact hv)
  refine fI ?_
  conv=>whnf
  (refine oP (LE p s r.start r.steps h ht hl) ?_;conv=>whnf)
  obtain⟨m',e',hm'⟩:=ML (p:=p) (s:=s) hw r.steps
  rw[hm'] at he⊢
  rw[he]
  conv=>whnf
  exact⟨.inl rfl,rfl⟩
 ·rw[if_neg h3] at he
  have hv:wU p s r.start=1:=by unfold wU;rw[if_neg h3]
  refine tI ?_
  conv=>whnf
  exact⟨.inr ⟨_,rfl,he⟩,rfl⟩
end Go.Proofs.YtekmminpfhacpaaGreatDoor
