import Derived.Test.YtekmminpfhacpaaGreatDoorM6
import Derived.Test.YtekmminpfhacpaaGreatDoorRdZ
import Derived.Test.YtekmminpfhacpaaGreatDoorP1
import Derived.Test.YtekmminpfhacpaaGreatDoorJ1
import Derived.Test.YtekmminpfhacpaaGreatDoorW2
import Derived.Test.YtekmminpfhacpaaGreatDoorW3
import Derived.Test.YtekmminpfhacpaaGreatDoorW0
set_option linter.unusedVariables false
set_option linter.unusedSimpArgs false
namespace Go.Proofs.YtekmminpfhacpaaGreatDoor
open Go.ChangeShapes Go.WideShapes Go.ChangeAt Go.RowKit
def nQ:Sh:=.str (.int (.sl (.str .nil) (.sl (.str .nil) (.sl (.str .nil) (.int (.sl uz (eJ (eJ (.sl oV (.str (.int (eJ (.sl cntS (eJ (eJ .nil)))))))))))))))
theorem zk:kI Tryz.prog 9 32=some nQ:=by kernel_rfl
theorem u3:rB Tryz.prog 9 32=true:=by kernel_rfl
def tE:eV nQ->an
 |(a,b,c,d,e,f,g,h,i,j,_)=>⟨a,b,Es c,Es d,Es e,f,List.map Ah g,iz h,iz i,List.map mw j⟩
def nR:eV nQ->aG
 |(_,_,_,_,_,_,_,_,_,_,a,b,c,d,e,f,_)=>⟨a,b,iz c,List.map cntOf d,iz e,iz f⟩
def AG (p:an) (q:aG):List AV:=aR p++df q
theorem u4 {S:ai} (y:eV nQ):ur S (bp nQ y) (AG (tE y) (nR y)):=by
 obtain⟨a,b,c,d,e,f,g,h,i,j,a2,b2,c2,d2,e2,f2,⟨⟩⟩:=y
 exact⟨Cv.refl _ _,Cv.refl _ _,Cv.strs c,Cv.strs d,Cv.strs e,Cv.refl _ _,HR g,Cv.ints h,Cv.ints i,HT j,Cv.refl _ _,Cv.refl _ _,Cv.ints c2,cv_cnts d2,Cv.ints e2,Cv.ints f2,trivial⟩
theorem iI (l:List (eV (.int .nil))):(iz l).length=l.length:=by simp[iz]
theorem IH (z:eV cntS):(cntOf z).states.length=z.1.length:=by
 obtain⟨a,b,c⟩:=z
 exact iI a
theorem zl {l:List (eV (.str .nil))} (h:∀a∈l,su (.str .nil) a):wQ (Es l):=by
 intro s hs
 obtain⟨x,hx,rfl⟩:=List.mem_map.1 hs
 exact(h x hx).1
theorem Nb {y:eV oV} (h:su oV y):G5 (mw y):=by
 obtain⟨a,b,c,d,e,f,g,h',i,j,k,l,m,n,o,p,q,r,⟨⟩⟩:=y
 obtain⟨h1,⟨h2,_⟩,⟨h3,_⟩,⟨h4,_⟩,⟨h5,_⟩,⟨h6,_⟩,⟨h7,_⟩,⟨h8,_⟩,⟨h9,_⟩,_⟩:=h
 unfold G5
 simp only[mw,iI,List.length_map]
 omega
theorem Lv {l:List (eV oV)} (h:∀a∈l,su oV a):∀j,j<(l.map mw).length->G5 ((l.map mw).getD j ap):=by
 intro j hj
 have hj':j<l.length:=by simpa using hj
 have e:(l.map mw).getD j ap=mw l[j]:=by rw[gD,gL hj];simp
 rw[e]
 exact Nb (h _ (List.getElem_mem _))
theorem rK {y:eV nQ} (h:su nQ y):iO (tE y):=by
 obtain⟨a,b,c,d,e,f,g,h',i,j,a2,b2,c2,d2,e2,f2,⟨⟩⟩:=y
 obtain⟨h1,⟨h2,n2⟩,⟨h3,n3⟩,⟨h4,n4⟩,⟨h5,_⟩,⟨h6,_⟩,⟨h7,_⟩,⟨h8,n8⟩,_⟩:=h
 refine⟨?_,Lv n8,zl n2,zl n3,zl n4⟩
 simp only[tE,iI,List.length_map,Es]
 omega
theorem rL {y:eV nQ} (h:su nQ y):pN (nR y):=by
 obtain⟨a,b,c,d,e,f,g,h',i,j,a2,b2,c2,d2,e2,f2,⟨⟩⟩:=y
 obtain⟨h1,⟨h2,n2⟩,⟨h3,n3⟩,⟨h4,n4⟩,⟨h5,_⟩,⟨h6,_⟩,⟨h7,_⟩,⟨h8,n8⟩,k1,⟨k2,_⟩,⟨k3,m3⟩,⟨k4,_⟩,⟨k5,_⟩,_⟩:=h
 refine⟨?_,fun j hj=>?_⟩
 ·simp only[nR,iI,List.length_map]
  omega
 ·have hj':j<d2.length:=by simpa[nR] using hj
  have e:(nR (a,b,c,d,e,f,g,h',i,‹_›,a2,b2,c2,d2,e2,f2,())).bad.getD j br=cntOf d2[j]:=by
   simp only[nR]
   rw[gD,gL (by simpa using hj')];simp
  rw[e]
  rw[IH]
  exact(m3 _ (List.getElem_mem hj')).1.1
end Go.Proofs.YtekmminpfhacpaaGreatDoor
namespace Go.Proofs.YtekmminpfhacpaaGreatDoor
set_option maxRecDepth 100000
set_option maxHeartbeats 16000000
theorem jG (l:List Int) (hl:l.length<=1000000):ab Tryz.prog 49 [.sl 0 ao l, .sl 0 ao l] (fun u=>u= .bool true):=by
 refine ab.intro ae ag Tryz.func49 rfl (by decide) ?_;(conv=>whnf)
 refine fI ?_
 conv=>whnf
 refine aQ.loopF ae ag (fun k:Nat=>k<=l.length) (fun k=>[(5, .int .i64 (k:Int))]) (fun _=>[]) (fun k=>l.length-k) 0 (Nat.zero_le _) ?_;conv=>whnf
 refine⟨sI,?_⟩
 rintro k hk
 conv=>whnf
 refine ah ?_ ?_<;>(intro h1;conv=>whnf)
 ·refine dI ?_
  conv=>whnf
  repeat' ((first|refine nI ?_|refine aI ?_|refine tI ?_|refine fI ?_|fail);conv=>whnf)
  exact⟨k+1,sI,by omega,by dsimp only;omega⟩
 ·exact⟨rfl,rfl⟩
def Oe:Op->Bool
 |.move _| .fieldAddr _ _ _| .nilCheck _| .indexAddr _ _ _| .build _ _| .field _ _ _| .load _ _=>true
 |_=>false
def FP (tt:TT) (op:Op) (us:List AV):Rs:=match op with
 |.load t _=>match us with
  |[.pd cells]=>e7 tt t cells
  |_=>.no
 |op=>so tt op us
def FQ (all:List Oper) (q:Nat):Bool:=match all[q]? with
 |none=>false
 |some o=>match o.dst with
  |none=>false
  |some d=>Oe o.op&&o.guard.isNone&&(List.range all.length).all fun j=>Nat.beq j q||match all[j]? with
   |none=>true
   |some x=>x.guard.isNone&&xm d x.dst&&(!(eO d (aN x.op))||fZ x q)&&(match x.dst with|none=>true|some e=>!(eO e (aN o.op))||fZ o j)
def Nc (tt:TT) (all:List Oper) (q:Nat) (fr:List AV) (k1:List AV->Prop) (k2:Prop):Prop:=match all[q]? with
 |none=>k2
 |some o=>yo fr (aN o.op) fun us=>match FP tt o.op us with
  |.val u=>kW u fun u=>mg fr o.dst u k1
  |_=>k2
def pG (P:Program) (tt:TT) (d:Option aO) (all:List Oper) (qs:List Nat) (K:List AV->aj->Prop):Nat->List Nat->List AV->aj->Prop
 |0,done,fr,M=>match cw all done with
  |[]=>K fr M
  |_::_=>False
 |n+1,done,fr,M=>match cw all done with
  |[]=>K fr M
  |i::l=>match uW qs (i::l) with
   |none=>mH (i::l) fun j=>xY P tt d all j fr M (pG P tt d all qs K n (j::done))
   |some q=>Nc tt all q fr (fun fr'=>pG P tt d all qs K n (q::done) fr' M) (mH (i::l) fun j=>xY P tt d all j fr M (pG P tt d all qs K n (j::done)))
section
variable {P:Program} {tt:TT} {dm:Option aO} {all:List Oper} {K K':List AV->aj->Prop} {fr:List AV} {M:aj}
theorem qg {o:Oper} {d:Nat} {u:AV} (hdm:dm=none\/dm=some .own) (hg:o.guard=none) (hd:o.dst=some d) (hq:Oe o.op=true) (hu:FP tt o.op ((aN o.op).map (de fr))= .val u):bJ P tt dm all o fr M K=K (fr.set d u) M:=by
 by_cases hb:Mg o.op=true
 ·refine nL hg hd hb ?_
  rw[<-hu]
  unfold Mg at hb
  split at hb
  all_goals first
   |(rename_i e;rw[e];rfl)
   |exact absurd hb (by decide)
 ·have:∃t x,o.op= .load t x:=by
   unfold Oe at hq
   unfold Mg at hb
   split at hq
   all_goals first
    |exact⟨_,_,by assumption⟩
    |(exfalso;apply hb;rename_i e;rw[e])
    |exact absurd hq (by decide)
  obtain⟨t,x,e⟩:=this
  rw[e] at hu
  have hu2:FP tt (.load t x) [de fr x]= .val u:=hu
  unfold bJ jY
  rw[hg]
  simp only[eU,eQ,hd,cu]
  unfold bh
  rw[e]
  show gc (lP dm tt (.load t x) [de fr x] M) (fun u=>K (fr.set d u) M)=K (fr.set d u) M
  have hm:lP dm tt (.load t x) [de fr x] M=fy tt t M (de fr x):=by
   rcases hdm with rfl|rfl<;>rfl
  rw[hm]
  unfold FP at hu2
  cases hx:de fr x with
  |pd cells=>
   rw[hx] at hu2
   show gc (e7 tt t cells) _=_
   have h3:e7 tt t cells= .val u:=hu2
   rw[h3]
   simp only[gc,bO]
  |_=>rw[hx] at hu2;cases hu2
theorem II (hdm:dm=none\/dm=some .own) {q:Nat} {o:Oper} {d:Nat} (hok:FQ all q=true) (ho:all[q]? =some o) (hd:o.dst=some d):∀(n:Nat) (done:List Nat) (fr:List AV) (M:aj) (u:AV),q∈cw all done->FP tt o.op ((aN o.op).map (de fr))= .val u->
  (aZ P tt dm all K (n+1) done fr M↔aZ P tt dm all K n (q::done) (fr.set d u) M):=by
 unfold FQ at hok
 rw[ho] at hok
 simp only[hd,Bool.and_eq_true,Option.isNone_iff_eq_none] at hok
 obtain⟨⟨hqt,hg⟩,hall⟩:=hok
 have hpair:∀j x,all[j]? =some x->j≠q->x.guard=none/\xm d x.dst=true/\(eO d (aN x.op)=false\/fZ x q=true)/\∀e,x.dst=some e->eO e (aN o.op)=false\/fZ o j=true:=fun j x hx hne=>by
  have hj:j<all.length:=by
   rcases Nat.lt_or_ge j all.length with h|h
   ·exact h
   ·rw[List.getElem?_eq_none h] at hx;cases hx
  have:=List.all_eq_true.1 hall j (List.mem_range.2 hj)
  rw[hx] at this
  have hb:Nat.beq j q=false:=by cases h:Nat.beq j q with|false=>rfl|true=>exact absurd (Nat.eq_of_beq_eq_true h) hne
  simp only[hb,Bool.false_or,Bool.and_eq_true,Option.isNone_iff_eq_none,Bool.or_eq_true,Bool.not_eq_true'] at this
  obtain⟨⟨⟨h1,h2⟩,h3⟩,h4⟩:=this
  refine⟨h1,h2,h3,fun e he=>?_⟩
  rw[he] at h4
  simpa using h4
 have edge:∀{x:Oper} {k:Nat} {done:List Nat},fZ x k=true->(∀e∈x.after.toList,Region.binds .any e=true->e.on<all.length/\e.on∈done)->k∈done:=fun{x k done} he h=>by
  unfold fZ at he
  obtain⟨e,hm,hb⟩:=List.any_eq_true.1 he
  rw[Bool.and_eq_true] at hb
  have:=(h e hm hb.1).2
  rwa [Nat.eq_of_beq_eq_true hb.2] at this
 intro n
 induction n with
 |zero=>
  intro done fr M u hq hu
  have hne:cw all done≠[]:=List.ne_nil_of_mem hq
  rw[d5 hne]
  constructor
  ·intro h
   have:=h q hq
   rw[cd ho,qg hdm hg hd hqt hu] at this
   exact this
  ·intro h j hj
   by_cases e:j=q
   ·subst e
    rw[cd ho,qg hdm hg hd hqt hu]
    exact h
   ·exfalso
    have hj2:j∈cw all (q::done):=by
     rw[cA] at hj⊢
     obtain⟨h1,x,hx,h2⟩:=hj
     exact⟨fun h=>by rcases List.mem_cons.1 h with h|h;exact e h;exact h1 h,x,hx,fun e he hb=>⟨(h2 e he hb).1,List.mem_cons_of_mem _ (h2 e he hb).2⟩⟩
    rw[aZ] at h
    cases hr:cw all (q::done) with
    |nil=>rw[hr] at hj2;cases hj2
    |cons a l=>rw[hr] at h;exact h
 |succ m ih=>
  intro done fr M u hq hu
  have hne:cw all done≠[]:=List.ne_nil_of_mem hq
  rw[d5 hne]
  constructor
  ·intro h
   have:=h q hq
   rw[cd ho,qg hdm hg hd hqt hu] at this
   exact this
  ·intro h j hj
   by_cases e:j=q
   ·subst e
    rw[cd ho,qg hdm hg hd hqt hu]
    exact h
   ·have hj':=cA.1 hj
    have hq':=cA.1 hq
    obtain⟨h1,x,hx,h2⟩:=hj'
    obtain⟨g1,o',ho',g2⟩:=hq'
    rw[ho] at ho';cases ho'
    obtain⟨p1,p2,p3,p4⟩:=hpair j x hx e
    have hj2:j∈cw all (q::done):=cA.2 ⟨fun h=>by rcases List.mem_cons.1 h with h|h;exact e h;exact h1 h,x,hx,fun e he hb=>⟨(h2 e he hb).1,List.mem_cons_of_mem _ (h2 e he hb).2⟩⟩
    have hq2:q∈cw all (j::done):=cA.2 ⟨fun h=>by rcases List.mem_cons.1 h with h|h;exact e h.symm;exact g1 h,o,ho,fun e he hb=>⟨(g2 e he hb).1,List.mem_cons_of_mem _ (g2 e he hb).2⟩⟩
    have hux:eO d (aN x.op)=false:=p3.resolve_right fun he=>g1 (edge he h2)
    have h3:=(d5 (List.ne_nil_of_mem hj2)).1 h j hj2
    rw[cd hx,pe p1 p2 hux] at h3
    rw[cd hx]
    refine Eq.mp (ly p1 fun w M'=>?_) h3
    rw[ku m (j::q::done) (q::j::done) fun i=>by simp only[List.mem_cons];exact⟨fun h=>by rcases h with h|h|h<;>simp[h],fun h=>by rcases h with h|h|h<;>simp[h]⟩]
    refine propext (ih (j::done) (cu fr x.dst w) M' u hq2 ?_).symm
    rw[<-hu]
    congr 1
    cases hxd:x.dst with
    |none=>rfl
    |some e2=>
     have:eO e2 (aN o.op)=false:=(p4 e2 hxd).resolve_right fun he=>h1 (edge he g2)
     exact jF this
theorem xt (hdm:dm=none\/dm=some .own) {qs:List Nat} (hqs:qs.all (FQ all)=true):∀(n:Nat) (done:List Nat),pG P tt dm all qs K n done=aZ P tt dm all K n done
 |0,done=>by
  funext fr M
  rw[pG,aZ]
  cases cw all done<;>rfl
 |n+1,done=>by
  funext fr M
  have e:∀j,pG P tt dm all qs K n (j::done)=aZ P tt dm all K n (j::done):=fun j=>xt hdm hqs n _
  rw[pG]
  simp only[e]
  cases hr:cw all done with
  |nil=>rw[aZ,hr]
  |cons i l=>
   have hk:aZ P tt dm all K (n+1) done fr M=mH (i::l) fun j=>xY P tt dm all j fr M (aZ P tt dm all K n (j::done)):=by rw[aZ,hr]
   simp only
   cases hf:uW qs (i::l) with
   |none=>exact hk.symm
   |some q=>
    simp only
    obtain⟨h1,h2⟩:=nK hf
    have hok:=List.all_eq_true.1 hqs q h1
    rw[<-hk]
    unfold Nc
    cases ho:all[q]? with
    |none=>rfl
    |some o=>
     simp only[eU]
     cases hu:FP tt o.op ((aN o.op).map (de fr)) with
     |val u=>
      simp only[bO,eQ]
      have hok':=hok
      unfold FQ at hok'
      rw[ho] at hok'
      cases hd:o.dst with
      |none=>simp only[hd] at hok';cases hok'
      |some d=>exact propext (II hdm hok ho hd n done fr M u (by rw[hr];exact h2) hu).symm
     |_=>rfl
end
theorem AH {P:Program} {tt:TT} {ops:List Oper} {fr:List AV} {M:aj} {K:List AV->aj->Prop} (qs:List Nat) (hqs:qs.all (FQ ops)=true) (h:pG P tt (some .own) ops qs K ops.length [] fr M):fG P tt ops fr M K:=
 ni (by rw[xt (.inr rfl) hqs] at h;exact h)
end Go.Proofs.YtekmminpfhacpaaGreatDoor
namespace Go.Proofs.YtekmminpfhacpaaGreatDoor
set_option maxRecDepth 100000
set_option maxHeartbeats 16000000
def kM:aG:=⟨⟨#[117,110,102]⟩,1,[0],[⟨[3],1⟩],[],[]⟩
theorem Of:ab Tryz.prog 45 [] (fun u=>u= .agg [.str ⟨#[117,110,102]⟩, .int .i64 1, .sl 0 ao [0], .sl br gR [⟨[3],1⟩], .nilsl, .nilsl]):=by
 refine ab.intro ae ag Tryz.func45 rfl (by decide) ?_;(conv=>whnf)
 repeat' first
  |exact⟨rfl,rfl⟩
  |(refine cf 0 ao [0] rfl ?_;conv=>whnf)
  |(refine cf 0 ao [3] rfl ?_;conv=>whnf)
  |(refine cf br gR [⟨[3],1⟩] rfl ?_;conv=>whnf)
  |(refine fl ?_;conv=>whnf)
  |fail
def Og:bo:=⟨⟨#[114,49]⟩,1,1,2,0,0,[],[],[],[],-1,-1,[0],0,[],[],[],0⟩
def Nd:bo:=⟨⟨#[114,50]⟩,1,0,2,0,0,[],[⟨0,1,⟨1,0,1,0⟩⟩],[],[],-1,-1,[0],0,[],[],[],0⟩
def Nf:bo:=⟨⟨#[114,51]⟩,1,2,3,0,0,[],[⟨0,1,⟨0,1,-1,0⟩⟩],[],[],-1,-1,[],0,[],[],[],0⟩
def d6:an:=⟨⟨#[115,116]⟩,1,[⟨#[118,48]⟩,⟨#[118,49]⟩,⟨#[115,101]⟩,⟨#[97,99]⟩],[⟨#[101,99,104,111]⟩],[],3,[⟨-1,1,-3,0⟩,⟨0,0,1,-1⟩],[0,1],[],[Og,Nd,Nf]⟩
theorem Ng:ab Tryz.prog 44 [] (fun u=>u= .agg [.str ⟨#[115,116]⟩, .int .i64 1, .sl t0 fd d6.states, .sl t0 fd d6.messages, .nilsl, .int .i64 3, .sl fQ cI d6.resilience, .sl 0 ao [0,1], .nilsl, .sl ap eg d6.rules]):=by
 refine ab.intro ae ag Tryz.func44 rfl (by decide) ?_;(conv=>whnf)
 repeat' first
  |exact⟨rfl,rfl⟩
  |(refine cf t0 fd d6.states rfl ?_;conv=>whnf)
  |(refine cf t0 fd d6.messages rfl ?_;conv=>whnf)
  |(refine cf fQ cI d6.resilience rfl ?_;conv=>whnf)
  |(refine cf aC b8 Nd.guards rfl ?_;conv=>whnf)
  |(refine cf aC b8 Nf.guards rfl ?_;conv=>whnf)
  |(refine cf ap eg d6.rules rfl ?_;conv=>whnf)
  |(refine Mm ap eg d6.rules ?_ ?_;conv=>whnf)
  |(refine fl ?_;conv=>whnf)
  |fail
 all_goals
  repeat' (first|exact True.intro|(refine And.intro ?_ ?_)|exact .inl rfl|exact .inr ⟨rfl,_,_,_,rfl⟩)
theorem nU:cb d6 kM=0:=by decide+kernel
theorem IJ:(uH d6).length=5:=by decide+kernel
theorem FR:(ak d6 kM []).length=5:=by decide+kernel
theorem FS:(ak d6 kM [0]).length=7:=by decide+kernel
theorem FT:(fg d6 kM [0] 0).length=17:=by decide+kernel
theorem IK:hJ d6.rules d6.states.length=[1,0,2]:=by decide+kernel
theorem Lw:da (ax d6.rules).length [0]:=by decide+kernel
theorem Lx:da (ax d6.rules).length []:=by decide+kernel
theorem ab.tell {P:Program} {f:FuncId} {args:List AV} {u0 u1:AV} (n m:Nat) (h:ab P f args (fun u=>u=u0)) (ha:kQ [] n u0 u1) (hp:cE m u1=true):ab P f args (fun u=>u=u1):=by
 rw[dv] at*
 refine⟨h.1,fun S F vs w h0 h1 h2 h3 hv=>(h.2 S F vs w h0 h1 h2 h3 hv).mono ?_⟩
 rintro e w' ⟨v,u,S',a,rfl,b,c,d,e2,hr,hw⟩
 exact⟨v,u1,S',a,rfl,b,c,d,e2,kZ m hp ((jT (S:=S') (ρ:=fun _=>none) n).1 _ _ v ha (.p hr)),hw⟩
theorem Nh:ab Tryz.prog 44 [] (fun u=>u= .agg (aR d6)):=ab.tell 400 5 Ng (aa) rfl
theorem Oh:ab Tryz.prog 45 [] (fun u=>u= .agg (df kM)):=ab.tell 400 5 Of (aa) rfl
theorem rM:iO d6:=by
 refine⟨by decide+kernel,fun j hj=>?_,by unfold wQ;decide+kernel,by unfold wQ;decide+kernel,by unfold wQ;decide+kernel⟩
 have h3:d6.rules.length=3:=rfl
 obtain rfl|rfl|rfl:j=0\/j=1\/j=2:=by omega
 all_goals
  unfold G5
  decide+kernel
theorem rN:pN kM:=by
 refine⟨by decide+kernel,?_⟩
 decide+kernel
theorem FU:ab Tryz.prog 13 [] (fun u=>u= .bool true):=by
 have hE:=Nh
 have hU:=Oh
 have h1:=FF d6 kM rM rN
 rw[FC nU] at h1
 have h2:=y9 d6 kM rM rN [] (by simp)
 rw[Cu,if_neg (by rw[nU];omega),if_neg (fun h=>h Lx)] at h2
 have h2:ab Tryz.prog 47 [.agg (aR d6), .agg (df kM), .nilsl] (fun u=>u= .tup [.sl dU fp (ak d6 kM []), .int .i64 0]):=h2.weak fun S vs hv=>by
  obtain⟨v,vs',rfl,a1,a2⟩:=hv.cons_inv
  obtain⟨v2,vs2,rfl,b1,b2⟩:=a2.cons_inv
  obtain⟨v3,vs3,rfl,c1,c2⟩:=b2.cons_inv
  exact gU.cons a1 (gU.cons b1 (gU.cons (xl 0 ao v3 c1) c2))
 have hr:(d9 d6 kM [0] 0).length=17:=by unfold d9;rw[List.length_map];exact FT
 have h3:=FM d6 kM rM rN [0] (by simp) 0
 rw[IE,if_neg (by rw[nU];omega),if_neg (by
  have:(oX d6 kM:Int)=1:=by decide+kernel
  rintro(h|h|h)
  ·exact h Lw
  ·omega
  ·omega),FS] at h3
 have h4:=K9 d6 kM rM rN
 rw[K8,if_neg (by rw[nU];omega),IK] at h4
 have h5:=KY d6 kM rM rN
 rw[nU] at h5
 have hl:=IJ
 have hv:=FR
 have h6:=jG [1,0,2] (by simp)
 generalize uH d6=SL at*
 generalize ak d6 kM []=VL at*
 generalize d9 d6 kM [0] 0=RB at*
 generalize d6=p at*
 generalize kM=q at*
 refine ab.intro ae ag Tryz.func13 rfl (by decide) ?_;(conv=>whnf)
 (refine oP (hE) ?_;conv=>whnf)
 (refine oP (hU) ?_;conv=>whnf)
 (refine oP (h1) ?_;conv=>whnf)
 (refine oP (h2) ?_;conv=>whnf)
 refine am.hand 28 rfl ?_
 (refine oP (h3) ?_;conv=>whnf)
 (refine oP (h4) ?_;conv=>whnf)
 repeat' ((first|refine nI ?_|refine aI ?_|refine tI ?_|refine fI ?_|fail);conv=>whnf)
 refine am.hand 75 rfl ?_
 (refine oP (h6) ?_;conv=>whnf)
 (refine oP (h5) ?_;conv=>whnf)
 repeat' ((first|refine nI ?_|refine aI ?_|refine tI ?_|refine fI ?_|fail);conv=>whnf)
 exact⟨rfl,rfl⟩
end Go.Proofs.YtekmminpfhacpaaGreatDoor
namespace Go.Proofs.YtekmminpfhacpaaGreatDoor
open Go.ChangeShapes Go.WideShapes Go.ChangeAt Go.RowKit
theorem Ly:kI Tryz.prog 9 24=some (eJ .nil):=by kernel_rfl
theorem IL:rB Tryz.prog 9 24=true:=by kernel_rfl
theorem IM {S:ai} {v:Value} (y:eV (eJ .nil)) (h:gU S [v] (bp (eJ .nil) y)):RP S v (.sl 0 ao (iz y.1)):=by
 obtain⟨l,⟨⟩⟩:=y
 obtain⟨x,xs,e,hr,_⟩:=h.cons_inv
 injection e with e1 _
 subst e1
 exact Cv.ints l v hr
end Go.Proofs.YtekmminpfhacpaaGreatDoor
