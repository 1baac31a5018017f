import Derived.Test.YtekmminpfhacpaaGreatDoorM6
import Derived.Test.YtekmminpfhacpaaGreatDoorRdZ
import Derived.Test.YtekmminpfhacpaaGreatDoorJ1
import Derived.Test.YtekmminpfhacpaaGreatDoorW3
set_option linter.unusedVariables false
set_option linter.unusedSimpArgs false
namespace Go.Proofs.YtekmminpfhacpaaGreatDoor
section
open Go.ChangeShapes Go.WideShapes Go.ChangeAt Go.RowKit
def lM:Sh:=.str (.int (.sl (.str .nil) (.sl (.str .nil) (.sl (.str .nil) (.int (.sl rm (eO (eO (.sl mu (.str (.int (eO (.sl cntS (eO (eO .nil)))))))))))))))
theorem FN:kz Tryz.prog 9 32=some lM:=by kernel_rfl
theorem Dm:tM Tryz.prog 9 32=true:=by kernel_rfl
def wO:eC lM->an
 |(a,b,c,d,e,f,g,h,i,j,_)=>⟨a,b,z3 c,z3 d,z3 e,f,List.map wu g,ip h,ip i,List.map ko j⟩
def oZ:eC lM->aE
 |(_,_,_,_,_,_,_,_,_,_,a,b,c,d,e,f,_)=>⟨a,b,ip c,List.map cntOf d,ip e,ip f⟩
def Er (p:an) (q:aE):List AV:=aB p++cJ q
theorem Dn {S:ai} (y:eC lM):r9 S (bg lM y) (Er (wO y) (oZ y)):=by
 obtain⟨a,b,c,d,e,f,g,h,i,j,a2,b2,c2,d2,e2,f2,⟨⟩⟩:=y
 exact⟨Cv.refl _ _,Cv.refl _ _,Cv.strs c,Cv.strs d,Cv.strs e,Cv.refl _ _,CJ g,Cv.ints h,Cv.ints i,CL j,Cv.refl _ _,Cv.refl _ _,Cv.ints c2,cv_cnts d2,Cv.ints e2,Cv.ints f2,trivial⟩
theorem jK (l:List (eC (.int .nil))):(ip l).length=l.length:=by simp[ip]
theorem Dp (z:eC cntS):(cntOf z).states.length=z.1.length:=by
 obtain⟨a,b,c⟩:=z
 exact jK a
theorem vD {l:List (eC (.str .nil))} (h:∀a∈l,qr (.str .nil) a):td (z3 l):=by
 intro s hs
 obtain⟨x,hx,rfl⟩:=List.mem_map.1 hs
 exact(h x hx).1
theorem Hl {y:eC mu} (h:qr mu y):BW (ko y):=by
 obtain⟨a,b,c,d,e,f,g,h',i,j,k,l,m,n,o,p,q,r,⟨⟩⟩:=y
 obtain⟨h1,⟨h2,_⟩,⟨h3,_⟩,⟨h4,_⟩,⟨h5,_⟩,⟨h6,_⟩,⟨h7,_⟩,⟨h8,_⟩,⟨h9,_⟩,_⟩:=h
 unfold BW
 simp only[ko,jK,List.length_map]
 omega
theorem FO {l:List (eC mu)} (h:∀a∈l,qr mu a):∀j,j<(l.map ko).length->BW ((l.map ko).getD j aq):=by
 intro j hj
 have hj':j<l.length:=by simpa using hj
 have e:(l.map ko).getD j aq=ko l[j]:=by rw[gD,gL hj];simp
 rw[e]
 exact Hl (h _ (List.getElem_mem _))
theorem Ba {y:eC lM} (h:qr lM y):g7 (wO y):=by
 obtain⟨a,b,c,d,e,f,g,h',i,j,a2,b2,c2,d2,e2,f2,⟨⟩⟩:=y
 obtain⟨h1,⟨h2,n2⟩,⟨h3,n3⟩,⟨h4,n4⟩,⟨h5,_⟩,⟨h6,_⟩,⟨h7,_⟩,⟨h8,n8⟩,_⟩:=h
 refine⟨?_,FO n8,vD n2,vD n3,vD n4⟩
 simp only[wO,jK,List.length_map,z3]
 omega
theorem Bb {y:eC lM} (h:qr lM y):qk (oZ y):=by
 obtain⟨a,b,c,d,e,f,g,h',i,j,a2,b2,c2,d2,e2,f2,⟨⟩⟩:=y
 obtain⟨h1,⟨h2,n2⟩,⟨h3,n3⟩,⟨h4,n4⟩,⟨h5,_⟩,⟨h6,_⟩,⟨h7,_⟩,⟨h8,n8⟩,k1,⟨k2,_⟩,⟨k3,m3⟩,⟨k4,_⟩,⟨k5,_⟩,_⟩:=h
 refine⟨?_,fun j hj=>?_⟩
 ·simp only[oZ,jK,List.length_map]
  omega
 ·have hj':j<d2.length:=by simpa[oZ] using hj
  have e:(oZ (a,b,c,d,e,f,g,h',i,‹_›,a2,b2,c2,d2,e2,f2,())).bad.getD j ca=cntOf d2[j]:=by
   simp only[oZ]
   rw[gD,gL (by simpa using hj')];simp
  rw[e]
  rw[Dp]
  exact(m3 _ (List.getElem_mem hj')).1.1
end
section
set_option maxRecDepth 100000
set_option maxHeartbeats 16000000
theorem yd (l:List Int) (hl:l.length<=1000000):ab Tryz.prog 49 [.sl 0 ao l, .sl 0 ao l] (fun u=>u= .bool true):=by
 refine ab.intro ac ae Tryz.func49 rfl (by decide) ?_;(conv=>whnf)
 refine fI ?_
 conv=>whnf
 refine aF.loopF ac ae (fun k:Nat=>k<=l.length) (fun k=>[(5, .int .i64 (k:Int))]) (fun _=>[]) (fun k=>l.length-k) 0 (Nat.zero_le _) ?_;conv=>whnf
 refine⟨sI,?_⟩
 rintro k hk
 conv=>whnf
 refine ag ?_ ?_<;>(intro h1;conv=>whnf)
 ·refine dI ?_
  conv=>whnf
  repeat' ((first|refine nI ?_|refine aI ?_|refine tI ?_|refine fI ?_|fail);conv=>whnf)
  exact⟨k+1,sI,by omega,by dsimp only;omega⟩
 ·exact⟨rfl,rfl⟩
def Ii:Op->Bool
 |.move _| .fieldAddr _ _ _| .nilCheck _| .indexAddr _ _ _| .build _ _| .field _ _ _| .load _ _=>true
 |_=>false
def Gm (tt:TT) (op:Op) (us:List AV):Rs:=match op with
 |.load t _=>match us with
  |[.pd cells]=>dK tt t cells
  |_=>.no
 |op=>pm tt op us
def Bc (all:List Oper) (q:Nat):Bool:=match all[q]? with
 |none=>false
 |some o=>match o.dst with
  |none=>false
  |some d=>Ii o.op&&o.guard.isNone&&(List.range all.length).all fun j=>Nat.beq j q||match all[j]? with
   |none=>true
   |some x=>x.guard.isNone&&x9 d x.dst&&(!(gr d (aM x.op))||ja x q)&&(match x.dst with|none=>true|some e=>!(gr e (aM o.op))||ja o j)
def Hm (tt:TT) (all:List Oper) (q:Nat) (fr:List AV) (k1:List AV->Prop) (k2:Prop):Prop:=match all[q]? with
 |none=>k2
 |some o=>xl fr (aM o.op) fun us=>match Gm tt o.op us with
  |.val u=>ge u fun u=>jo fr o.dst u k1
  |_=>k2
def mS (P:Program) (tt:TT) (d:Option aD) (all:List Oper) (qs:List Nat) (K:List AV->aj->Prop):Nat->List Nat->List AV->aj->Prop
 |0,done,fr,M=>match cU all done with
  |[]=>K fr M
  |_::_=>False
 |n+1,done,fr,M=>match cU all done with
  |[]=>K fr M
  |i::l=>match vz qs (i::l) with
   |none=>mT (i::l) fun j=>zn P tt d all j fr M (mS P tt d all qs K n (j::done))
   |some q=>Hm tt all q fr (fun fr'=>mS P tt d all qs K n (q::done) fr' M) (mT (i::l) fun j=>zn P tt d all j fr M (mS P tt d all qs K n (j::done)))
section
variable {P:Program} {tt:TT} {dm:Option aD} {all:List Oper} {K K':List AV->aj->Prop} {fr:List AV} {M:aj}
theorem nj {o:Oper} {d:Nat} {u:AV} (hdm:dm=none\/dm=some .own) (hg:o.guard=none) (hd:o.dst=some d) (hq:Ii o.op=true) (hu:Gm tt o.op ((aM o.op).map (c6 fr))= .val u):bz P tt dm all o fr M K=K (fr.set d u) M:=by
 by_cases hb:Gk o.op=true
 ·refine lJ hg hd hb ?_
  rw[<-hu]
  unfold Gk at hb
  split at hb
  all_goals first
   |(rename_i e;rw[e];rfl)
   |exact absurd hb (by decide)
 ·have:∃t x,o.op= .load t x:=by
   unfold Ii at hq
   unfold Gk at hb
   split at hq
   all_goals first
    |exact⟨_,_,by assumption⟩
    |(exfalso;apply hb;rename_i e;rw[e])
    |exact absurd hq (by decide)
  obtain⟨t,x,e⟩:=this
  rw[e] at hu
  have hu2:Gm tt (.load t x) [c6 fr x]= .val u:=hu
  unfold bz jp
  rw[hg]
  simp only[fh,dA,hd,bZ]
  unfold aY
  rw[e]
  show fY (jP dm tt (.load t x) [c6 fr x] M) (fun u=>K (fr.set d u) M)=K (fr.set d u) M
  have hm:jP dm tt (.load t x) [c6 fr x] M=eg tt t M (c6 fr x):=by
   rcases hdm with rfl|rfl<;>rfl
  rw[hm]
  unfold Gm at hu2
  cases hx:c6 fr x with
  |pd cells=>
   rw[hx] at hu2
   show fY (dK tt t cells) _=_
   have h3:dK tt t cells= .val u:=hu2
   rw[h3]
   simp only[fY,bH]
  |_=>rw[hx] at hu2;cases hu2
theorem Dq (hdm:dm=none\/dm=some .own) {q:Nat} {o:Oper} {d:Nat} (hok:Bc all q=true) (ho:all[q]? =some o) (hd:o.dst=some d):∀(n:Nat) (done:List Nat) (fr:List AV) (M:aj) (u:AV),q∈cU all done->Gm tt o.op ((aM o.op).map (c6 fr))= .val u->
  (bq P tt dm all K (n+1) done fr M↔bq P tt dm all K n (q::done) (fr.set d u) M):=by
 unfold Bc at hok
 rw[ho] at hok
 simp only[hd,Bool.and_eq_true,Option.isNone_iff_eq_none] at hok
 obtain⟨⟨hqt,hg⟩,hall⟩:=hok
 have hpair:∀j x,all[j]? =some x->j≠q->x.guard=none/\x9 d x.dst=true/\(gr d (aM x.op)=false\/ja x q=true)/\∀e,x.dst=some e->gr e (aM o.op)=false\/ja o j=true:=fun j x hx hne=>by
  have hj:j<all.length:=by
   rcases Nat.lt_or_ge j all.length with h|h
   ·exact h
   ·rw[List.getElem?_eq_none h] at hx;cases hx
  have:=List.all_eq_true.1 hall j (List.mem_range.2 hj)
  rw[hx] at this
  have hb:Nat.beq j q=false:=by cases h:Nat.beq j q with|false=>rfl|true=>exact absurd (Nat.eq_of_beq_eq_true h) hne
  simp only[hb,Bool.false_or,Bool.and_eq_true,Option.isNone_iff_eq_none,Bool.or_eq_true,Bool.not_eq_true'] at this
  obtain⟨⟨⟨h1,h2⟩,h3⟩,h4⟩:=this
  refine⟨h1,h2,h3,fun e he=>?_⟩
  rw[he] at h4
  simpa using h4
 have edge:∀{x:Oper} {k:Nat} {done:List Nat},ja x k=true->(∀e∈x.after.toList,Region.binds .any e=true->e.on<all.length/\e.on∈done)->k∈done:=fun{x k done} he h=>by
  unfold ja at he
  obtain⟨e,hm,hb⟩:=List.any_eq_true.1 he
  rw[Bool.and_eq_true] at hb
  have:=(h e hm hb.1).2
  rwa [Nat.eq_of_beq_eq_true hb.2] at this
 intro n
 induction n with
 |zero=>
  intro done fr M u hq hu
  have hne:cU all done≠[]:=List.ne_nil_of_mem hq
  rw[f8 hne]
  constructor
  ·intro h
   have:=h q hq
   rw[cM ho,nj hdm hg hd hqt hu] at this
   exact this
  ·intro h j hj
   by_cases e:j=q
   ·subst e
    rw[cM ho,nj hdm hg hd hqt hu]
    exact h
   ·exfalso
    have hj2:j∈cU all (q::done):=by
     rw[dy] at hj⊢
     obtain⟨h1,x,hx,h2⟩:=hj
     exact⟨fun h=>by rcases List.mem_cons.1 h with h|h;exact e h;exact h1 h,x,hx,fun e he hb=>⟨(h2 e he hb).1,List.mem_cons_of_mem _ (h2 e he hb).2⟩⟩
    rw[bq] at h
    cases hr:cU all (q::done) with
    |nil=>rw[hr] at hj2;cases hj2
    |cons a l=>rw[hr] at h;exact h
 |succ m ih=>
  intro done fr M u hq hu
  have hne:cU all done≠[]:=List.ne_nil_of_mem hq
  rw[f8 hne]
  constructor
  ·intro h
   have:=h q hq
   rw[cM ho,nj hdm hg hd hqt hu] at this
   exact this
  ·intro h j hj
   by_cases e:j=q
   ·subst e
    rw[cM ho,nj hdm hg hd hqt hu]
    exact h
   ·have hj':=dy.1 hj
    have hq':=dy.1 hq
    obtain⟨h1,x,hx,h2⟩:=hj'
    obtain⟨g1,o',ho',g2⟩:=hq'
    rw[ho] at ho';cases ho'
    obtain⟨p1,p2,p3,p4⟩:=hpair j x hx e
    have hj2:j∈cU all (q::done):=dy.2 ⟨fun h=>by rcases List.mem_cons.1 h with h|h;exact e h;exact h1 h,x,hx,fun e he hb=>⟨(h2 e he hb).1,List.mem_cons_of_mem _ (h2 e he hb).2⟩⟩
    have hq2:q∈cU all (j::done):=dy.2 ⟨fun h=>by rcases List.mem_cons.1 h with h|h;exact e h.symm;exact g1 h,o,ho,fun e he hb=>⟨(g2 e he hb).1,List.mem_cons_of_mem _ (g2 e he hb).2⟩⟩
    have hux:gr d (aM x.op)=false:=p3.resolve_right fun he=>g1 (edge he h2)
    have h3:=(f8 (List.ne_nil_of_mem hj2)).1 h j hj2
    rw[cM hx,qA p1 p2 hux] at h3
    rw[cM hx]
    refine Eq.mp (mQ p1 fun w M'=>?_) h3
    rw[kE m (j::q::done) (q::j::done) fun i=>by simp only[List.mem_cons];exact⟨fun h=>by rcases h with h|h|h<;>simp[h],fun h=>by rcases h with h|h|h<;>simp[h]⟩]
    refine propext (ih (j::done) (bZ fr x.dst w) M' u hq2 ?_).symm
    rw[<-hu]
    congr 1
    cases hxd:x.dst with
    |none=>rfl
    |some e2=>
     have:gr e2 (aM o.op)=false:=(p4 e2 hxd).resolve_right fun he=>h1 (edge he g2)
     exact j0 this
theorem t7 (hdm:dm=none\/dm=some .own) {qs:List Nat} (hqs:qs.all (Bc all)=true):∀(n:Nat) (done:List Nat),mS P tt dm all qs K n done=bq P tt dm all K n done
 |0,done=>by
  funext fr M
  rw[mS,bq]
  cases cU all done<;>rfl
 |n+1,done=>by
  funext fr M
  have e:∀j,mS P tt dm all qs K n (j::done)=bq P tt dm all K n (j::done):=fun j=>t7 hdm hqs n _
  rw[mS]
  simp only[e]
  cases hr:cU all done with
  |nil=>rw[bq,hr]
  |cons i l=>
   have hk:bq P tt dm all K (n+1) done fr M=mT (i::l) fun j=>zn P tt dm all j fr M (bq P tt dm all K n (j::done)):=by rw[bq,hr]
   simp only
   cases hf:vz qs (i::l) with
   |none=>exact hk.symm
   |some q=>
    simp only
    obtain⟨h1,h2⟩:=oW hf
    have hok:=List.all_eq_true.1 hqs q h1
    rw[<-hk]
    unfold Hm
    cases ho:all[q]? with
    |none=>rfl
    |some o=>
     simp only[fh]
     cases hu:Gm tt o.op ((aM o.op).map (c6 fr)) with
     |val u=>
      simp only[bH,dA]
      have hok':=hok
      unfold Bc at hok'
      rw[ho] at hok'
      cases hd:o.dst with
      |none=>simp only[hd] at hok';cases hok'
      |some d=>exact propext (Dq hdm hok ho hd n done fr M u (by rw[hr];exact h2) hu).symm
     |_=>rfl
end
theorem Es {P:Program} {tt:TT} {ops:List Oper} {fr:List AV} {M:aj} {K:List AV->aj->Prop} (qs:List Nat) (hqs:qs.all (Bc ops)=true) (h:mS P tt (some .own) ops qs K ops.length [] fr M):fM P tt ops fr M K:=
 s4 (by rw[t7 (.inr rfl) hqs] at h;exact h)
end
section
set_option maxRecDepth 100000
set_option maxHeartbeats 16000000
def jc:aE:=⟨⟨#[117,110,102]⟩,1,[0],[⟨[3],1⟩],[],[]⟩
theorem Ij:ab Tryz.prog 45 [] (fun u=>u= .agg [.str ⟨#[117,110,102]⟩, .int .i64 1, .sl 0 ao [0], .sl ca fH [⟨[3],1⟩], .nilsl, .nilsl]):=by
 refine ab.intro ac ae Tryz.func45 rfl (by decide) ?_;(conv=>whnf)
 repeat' first
  |exact⟨rfl,rfl⟩
  |(refine bD 0 ao [0] rfl ?_;conv=>whnf)
  |(refine bD 0 ao [3] rfl ?_;conv=>whnf)
  |(refine bD ca fH [⟨[3],1⟩] rfl ?_;conv=>whnf)
  |(refine fu ?_;conv=>whnf)
  |fail
def Ik:bC:=⟨⟨#[114,49]⟩,1,1,2,0,0,[],[],[],[],-1,-1,[0],0,[],[],[],0⟩
def Hn:bC:=⟨⟨#[114,50]⟩,1,0,2,0,0,[],[⟨0,1,⟨1,0,1,0⟩⟩],[],[],-1,-1,[0],0,[],[],[],0⟩
def Ho:bC:=⟨⟨#[114,51]⟩,1,2,3,0,0,[],[⟨0,1,⟨0,1,-1,0⟩⟩],[],[],-1,-1,[],0,[],[],[],0⟩
def dn:an:=⟨⟨#[115,116]⟩,1,[⟨#[118,48]⟩,⟨#[118,49]⟩,⟨#[115,101]⟩,⟨#[97,99]⟩],[⟨#[101,99,104,111]⟩],[],3,[⟨-1,1,-3,0⟩,⟨0,0,1,-1⟩],[0,1],[],[Ik,Hn,Ho]⟩
theorem Hp:ab Tryz.prog 44 [] (fun u=>u= .agg [.str ⟨#[115,116]⟩, .int .i64 1, .sl t0 dQ dn.states, .sl t0 dQ dn.messages, .nilsl, .int .i64 3, .sl eJ bT dn.resilience, .sl 0 ao [0,1], .nilsl, .sl aq ee dn.rules]):=by
 refine ab.intro ac ae Tryz.func44 rfl (by decide) ?_;(conv=>whnf)
 repeat' first
  |exact⟨rfl,rfl⟩
  |(refine bD t0 dQ dn.states rfl ?_;conv=>whnf)
  |(refine bD t0 dQ dn.messages rfl ?_;conv=>whnf)
  |(refine bD eJ bT dn.resilience rfl ?_;conv=>whnf)
  |(refine bD aA bL Hn.guards rfl ?_;conv=>whnf)
  |(refine bD aA bL Ho.guards rfl ?_;conv=>whnf)
  |(refine bD aq ee dn.rules rfl ?_;conv=>whnf)
  |(refine Gs aq ee dn.rules ?_ ?_;conv=>whnf)
  |(refine fu ?_;conv=>whnf)
  |fail
 all_goals
  repeat' (first|exact True.intro|(refine And.intro ?_ ?_)|exact .inl rfl|exact .inr ⟨rfl,_,_,_,rfl⟩)
theorem lN:dl dn jc=0:=by decide+kernel
theorem Dr:(rE dn).length=5:=by decide+kernel
theorem Bd:(bI dn jc []).length=5:=by decide+kernel
theorem Be:(bI dn jc [0]).length=7:=by decide+kernel
theorem Bf:(Fb dn jc [0] 0).length=17:=by decide+kernel
theorem Ds:Fc dn.rules dn.states.length=[1,0,2]:=by decide+kernel
theorem FP:eM (ar dn.rules).length [0]:=by decide+kernel
theorem FQ:eM (ar dn.rules).length []:=by decide+kernel
theorem ab.tell {P:Program} {f:FuncId} {args:List AV} {u0 u1:AV} (n m:Nat) (h:ab P f args (fun u=>u=u0)) (ha:jn [] n u0 u1) (hp:cg m u1=true):ab P f args (fun u=>u=u1):=by
 rw[dY] at*
 refine⟨h.1,fun S F vs w h0 h1 h2 h3 hv=>(h.2 S F vs w h0 h1 h2 h3 hv).mono ?_⟩
 rintro e w' ⟨v,u,S',a,rfl,b,c,d,e2,hr,hw⟩
 exact⟨v,u1,S',a,rfl,b,c,d,e2,kX m hp ((iG (S:=S') (ρ:=fun _=>none) n).1 _ _ v ha (.p hr)),hw⟩
theorem Hq:ab Tryz.prog 44 [] (fun u=>u= .agg (aB dn)):=ab.tell 400 5 Hp (aa) rfl
theorem Il:ab Tryz.prog 45 [] (fun u=>u= .agg (cJ jc)):=ab.tell 400 5 Ij (aa) rfl
theorem o0:g7 dn:=by
 refine⟨by decide+kernel,fun j hj=>?_,by unfold td;decide+kernel,by unfold td;decide+kernel,by unfold td;decide+kernel⟩
 have h3:dn.rules.length=3:=rfl
 obtain rfl|rfl|rfl:j=0\/j=1\/j=2:=by omega
 all_goals
  unfold BW
  decide+kernel
theorem o7:qk jc:=by
 refine⟨by decide+kernel,?_⟩
 decide+kernel
theorem Hr:ab Tryz.prog 13 [] (fun u=>u= .bool true):=by
 have hE:=Hq
 have hU:=Il
 have h1:=AZ dn jc o0 o7
 rw[AW lN] at h1
 have h2:=vt dn jc o0 o7 [] (by simp)
 rw[Fp,if_neg (by rw[lN];omega),if_neg (fun h=>h FQ)] at h2
 have h2:ab Tryz.prog 47 [.agg (aB dn), .agg (cJ jc), .nilsl] (fun u=>u= .tup [.sl cw d7 (bI dn jc []), .int .i64 0]):=h2.weak fun S vs hv=>by
  obtain⟨v,vs',rfl,a1,a2⟩:=hv.cons_inv
  obtain⟨v2,vs2,rfl,b1,b2⟩:=a2.cons_inv
  obtain⟨v3,vs3,rfl,c1,c2⟩:=b2.cons_inv
  exact f9.cons a1 (f9.cons b1 (f9.cons (tX 0 ao v3 c1) c2))
 have hr:(oO dn jc [0] 0).length=17:=by unfold oO;rw[List.length_map];exact Bf
 have h3:=FL dn jc o0 o7 [0] (by simp) 0
 rw[FK,if_neg (by rw[lN];omega),if_neg (by
  have:(wA dn jc:Int)=1:=by decide+kernel
  rintro(h|h|h)
  ·exact h FP
  ·omega
  ·omega),Be] at h3
 have h4:=Fy dn jc o0 o7
 rw[Fx,if_neg (by rw[lN];omega),Ds] at h4
 have h5:=AE dn jc o0 o7
 rw[lN] at h5
 have hl:=Dr
 have hv:=Bd
 have h6:=yd [1,0,2] (by simp)
 generalize rE dn=SL at*
 generalize bI dn jc []=VL at*
 generalize oO dn jc [0] 0=RB at*
 generalize dn=p at*
 generalize jc=q at*
 refine ab.intro ac ae Tryz.func13 rfl (by decide) ?_;(conv=>whnf)
 (refine oP (hE) ?_;conv=>whnf)
 (refine oP (hU) ?_;conv=>whnf)
 (refine oP (h1) ?_;conv=>whnf)
 (refine oP (h2) ?_;conv=>whnf)
 refine am.hand 28 rfl ?_
 (refine oP (h3) ?_;conv=>whnf)
 (refine oP (h4) ?_;conv=>whnf)
 repeat' ((first|refine nI ?_|refine aI ?_|refine tI ?_|refine fI ?_|fail);conv=>whnf)
 refine am.hand 75 rfl ?_
 (refine oP (h6) ?_;conv=>whnf)
 (refine oP (h5) ?_;conv=>whnf)
 repeat' ((first|refine nI ?_|refine aI ?_|refine tI ?_|refine fI ?_|fail);conv=>whnf)
 exact⟨rfl,rfl⟩
end
section
open Go.ChangeShapes Go.WideShapes Go.ChangeAt Go.RowKit
end
end Go.Proofs.YtekmminpfhacpaaGreatDoor
