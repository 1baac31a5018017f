import Derived.Test.YtekmminpfhacpaaGreatDoorM6
import Derived.Test.YtekmminpfhacpaaGreatDoorRdZ
import Derived.Test.YtekmminpfhacpaaGreatDoorJ1
import Derived.Test.YtekmminpfhacpaaGreatDoorW3
set_option linter.unusedVariables false
set_option linter.unusedSimpArgs false
namespace Go.Proofs.YtekmminpfhacpaaGreatDoor
section
open Go.ChangeShapes Go.WideShapes Go.ChangeAt Go.RowKit
def pL:Sh:=.str (.int (.sl (.str .nil) (.sl (.str .nil) (.sl (.str .nil) (.int (.sl wX (jP (jP (.sl qD (.str (.int (jP (.sl cntS (jP (jP .nil)))))))))))))))
theorem OG:wL Tryz.prog 9 32=some pL:=by kernel_rfl
theorem Lo:zc Tryz.prog 9 32=true:=by kernel_rfl
def Db:gY pL->ap
 |(a,b,c,d,e,f,g,h,i,j,_)=>⟨a,b,GK c,GK d,GK e,f,List.map CK g,mJ h,mJ i,List.map oc j⟩
def tU:gY pL->aJ
 |(_,_,_,_,_,_,_,_,_,_,a,b,c,d,e,f,_)=>⟨a,b,mJ c,List.map cntOf d,mJ e,mJ f⟩
def MG (p:ap) (q:aJ):List AV:=dg p++mK q
theorem Lp {S:ah} (y:gY pL):Am S (cu pL y) (MG (Db y) (tU y)):=by
 obtain⟨a,b,c,d,e,f,g,h,i,j,a2,b2,c2,d2,e2,f2,⟨⟩⟩:=y
 exact⟨Cv.refl _ _,Cv.refl _ _,Cv.strs c,Cv.strs d,Cv.strs e,Cv.refl _ _,KE g,Cv.ints h,Cv.ints i,KG j,Cv.refl _ _,Cv.refl _ _,Cv.ints c2,cv_cnts d2,Cv.ints e2,Cv.ints f2,trivial⟩
theorem mS (l:List (gY (.int .nil))):(mJ l).length=l.length:=by simp[mJ]
theorem Lq (z:gY cntS):(cntOf z).states.length=z.1.length:=by
 obtain⟨a,b,c⟩:=z
 exact mS a
theorem BL {l:List (gY (.str .nil))} (h:∀a∈l,vF (.str .nil) a):yV (GK l):=by
 intro s hs
 obtain⟨x,hx,rfl⟩:=List.mem_map.1 hs
 exact(h x hx).1
theorem QC {y:gY qD} (h:vF qD y):JS (oc y):=by
 obtain⟨a,b,c,d,e,f,g,h',i,j,k,l,m,n,o,p,q,r,⟨⟩⟩:=y
 obtain⟨h1,⟨h2,_⟩,⟨h3,_⟩,⟨h4,_⟩,⟨h5,_⟩,⟨h6,_⟩,⟨h7,_⟩,⟨h8,_⟩,⟨h9,_⟩,_⟩:=h
 unfold JS
 simp only[oc,mS,List.length_map]
 omega
theorem OH {l:List (gY qD)} (h:∀a∈l,vF qD a):∀j,j<(l.map oc).length->JS ((l.map oc).getD j au):=by
 intro j hj
 have hj':j<l.length:=by simpa using hj
 have e:(l.map oc).getD j au=oc l[j]:=by rw[gD,gL hj];simp
 rw[e]
 exact QC (h _ (List.getElem_mem _))
theorem H1 {y:gY pL} (h:vF pL y):qz (Db y):=by
 obtain⟨a,b,c,d,e,f,g,h',i,j,a2,b2,c2,d2,e2,f2,⟨⟩⟩:=y
 obtain⟨h1,⟨h2,n2⟩,⟨h3,n3⟩,⟨h4,n4⟩,⟨h5,_⟩,⟨h6,_⟩,⟨h7,_⟩,⟨h8,n8⟩,_⟩:=h
 refine⟨?_,OH n8,BL n2,BL n3,BL n4⟩
 simp only[Db,mS,List.length_map,GK]
 omega
theorem H5 {y:gY pL} (h:vF pL y):Bj (tU y):=by
 obtain⟨a,b,c,d,e,f,g,h',i,j,a2,b2,c2,d2,e2,f2,⟨⟩⟩:=y
 obtain⟨h1,⟨h2,n2⟩,⟨h3,n3⟩,⟨h4,n4⟩,⟨h5,_⟩,⟨h6,_⟩,⟨h7,_⟩,⟨h8,n8⟩,k1,⟨k2,_⟩,⟨k3,m3⟩,⟨k4,_⟩,⟨k5,_⟩,_⟩:=h
 refine⟨?_,fun j hj=>?_⟩
 ·simp only[tU,mS,List.length_map]
  omega
 ·have hj':j<d2.length:=by simpa[tU] using hj
  have e:(tU (a,b,c,d,e,f,g,h',i,‹_›,a2,b2,c2,d2,e2,f2,())).bad.getD j dv=cntOf d2[j]:=by
   simp only[tU]
   rw[gD,gL (by simpa using hj')];simp
  rw[e]
  rw[Lq]
  exact(m3 _ (List.getElem_mem hj')).1.1
end
section
set_option maxRecDepth 100000
set_option maxHeartbeats 16000000
theorem E6 (l:List Int) (hl:l.length<=1000000):ab Tryz.prog 49 [.sl 0 ak l, .sl 0 ak l] (fun u=>u= .bool true):=by
 refine ab.intro ae ag Tryz.func49 rfl (by decide) ?_;(conv=>whnf)
 refine fI ?_
 conv=>whnf
 refine a8.loopF ae ag (fun k:Nat=>k<=l.length) (fun k=>[(5, .int .i64 (k:Int))]) (fun _=>[]) (fun k=>l.length-k) 0 (Nat.zero_le _) ?_;conv=>whnf
 refine⟨sI,?_⟩
 rintro k hk
 conv=>whnf
 refine ai ?_ ?_<;>(intro h1;conv=>whnf)
 ·refine dI ?_
  conv=>whnf
  repeat' ((first|refine nI ?_|refine aI ?_|refine tI ?_|refine fI ?_|fail);conv=>whnf)
  exact⟨k+1,sI,by omega,by dsimp only;omega⟩
 ·exact⟨rfl,rfl⟩
def R2:Op->Bool
 |.move _| .fieldAddr _ _ _| .nilCheck _| .indexAddr _ _ _| .build _ _| .field _ _ _| .load _ _=>true
 |_=>false
def H6 (tt:TT) (op:Op) (us:List AV):Rs:=match op with
 |.load t _=>match us with
  |[.pd cells]=>fD tt t cells
  |_=>.no
 |op=>uq tt op us
def H7 (all:List Oper) (q:Nat):Bool:=match all[q]? with
 |none=>false
 |some o=>match o.dst with
  |none=>false
  |some d=>R2 o.op&&o.guard.isNone&&(List.range all.length).all fun j=>Nat.beq j q||match all[j]? with
   |none=>true
   |some x=>x.guard.isNone&&zn d x.dst&&(!(fu d (aF x.op))||gz x q)&&(match x.dst with|none=>true|some e=>!(fu e (aF o.op))||gz o j)
def QD (tt:TT) (all:List Oper) (q:Nat) (fr:List AV) (k1:List AV->Prop) (k2:Prop):Prop:=match all[q]? with
 |none=>k2
 |some o=>AN fr (aF o.op) fun us=>match H6 tt o.op us with
  |.val u=>jd u fun u=>mm fr o.dst u k1
  |_=>k2
def rA (P:Program) (tt:TT) (d:Option aG) (all:List Oper) (qs:List Nat) (K:List AV->ac->Prop):Nat->List Nat->List AV->ac->Prop
 |0,done,fr,M=>match cI all done with
  |[]=>K fr M
  |_::_=>False
 |n+1,done,fr,M=>match cI all done with
  |[]=>K fr M
  |i::l=>match xj qs (i::l) with
   |none=>oq (i::l) fun j=>Al P tt d all j fr M (rA P tt d all qs K n (j::done))
   |some q=>QD tt all q fr (fun fr'=>rA P tt d all qs K n (q::done) fr' M) (oq (i::l) fun j=>Al P tt d all j fr M (rA P tt d all qs K n (j::done)))
section
variable {P:Program} {tt:TT} {dm:Option aG} {all:List Oper} {K K':List AV->ac->Prop} {fr:List AV} {M:ac}
theorem r4 {o:Oper} {d:Nat} {u:AV} (hdm:dm=none\/dm=some .own) (hg:o.guard=none) (hd:o.dst=some d) (hq:R2 o.op=true) (hu:H6 tt o.op ((aF o.op).map (cC fr))= .val u):bI P tt dm all o fr M K=K (fr.set d u) M:=by
 by_cases hb:PL o.op=true
 ·refine pG hg hd hb ?_
  rw[<-hu]
  unfold PL at hb
  split at hb
  all_goals first
   |(rename_i e;rw[e];rfl)
   |exact absurd hb (by decide)
 ·have:∃t x,o.op= .load t x:=by
   unfold R2 at hq
   unfold PL at hb
   split at hq
   all_goals first
    |exact⟨_,_,by assumption⟩
    |(exfalso;apply hb;rename_i e;rw[e])
    |exact absurd hq (by decide)
  obtain⟨t,x,e⟩:=this
  rw[e] at hu
  have hu2:H6 tt (.load t x) [cC fr x]= .val u:=hu
  unfold bI kZ
  rw[hg]
  simp only[fA,eU,hd,b8]
  unfold aZ
  rw[e]
  show gH (na dm tt (.load t x) [cC fr x] M) (fun u=>K (fr.set d u) M)=K (fr.set d u) M
  have hm:na dm tt (.load t x) [cC fr x] M=fS tt t M (cC fr x):=by
   rcases hdm with rfl|rfl<;>rfl
  rw[hm]
  unfold H6 at hu2
  cases hx:cC fr x with
  |pd cells=>
   rw[hx] at hu2
   show gH (fD tt t cells) _=_
   have h3:fD tt t cells= .val u:=hu2
   rw[h3]
   simp only[gH,bH]
  |_=>rw[hx] at hu2;cases hu2
theorem Lr (hdm:dm=none\/dm=some .own) {q:Nat} {o:Oper} {d:Nat} (hok:H7 all q=true) (ho:all[q]? =some o) (hd:o.dst=some d):∀(n:Nat) (done:List Nat) (fr:List AV) (M:ac) (u:AV),q∈cI all done->H6 tt o.op ((aF o.op).map (cC fr))= .val u->
  (be P tt dm all K (n+1) done fr M↔be P tt dm all K n (q::done) (fr.set d u) M):=by
 unfold H7 at hok
 rw[ho] at hok
 simp only[hd,Bool.and_eq_true,Option.isNone_iff_eq_none] at hok
 obtain⟨⟨hqt,hg⟩,hall⟩:=hok
 have hpair:∀j x,all[j]? =some x->j≠q->x.guard=none/\zn d x.dst=true/\(fu d (aF x.op)=false\/gz x q=true)/\∀e,x.dst=some e->fu e (aF o.op)=false\/gz o j=true:=fun j x hx hne=>by
  have hj:j<all.length:=by
   rcases Nat.lt_or_ge j all.length with h|h
   ·exact h
   ·rw[List.getElem?_eq_none h] at hx;cases hx
  have:=List.all_eq_true.1 hall j (List.mem_range.2 hj)
  rw[hx] at this
  have hb:Nat.beq j q=false:=by cases h:Nat.beq j q with|false=>rfl|true=>exact absurd (Nat.eq_of_beq_eq_true h) hne
  simp only[hb,Bool.false_or,Bool.and_eq_true,Option.isNone_iff_eq_none,Bool.or_eq_true,Bool.not_eq_true'] at this
  obtain⟨⟨⟨h1,h2⟩,h3⟩,h4⟩:=this
  refine⟨h1,h2,h3,fun e he=>?_⟩
  rw[he] at h4
  simpa using h4
 have edge:∀{x:Oper} {k:Nat} {done:List Nat},gz x k=true->(∀e∈x.after.toList,Region.binds .any e=true->e.on<all.length/\e.on∈done)->k∈done:=fun{x k done} he h=>by
  unfold gz at he
  obtain⟨e,hm,hb⟩:=List.any_eq_true.1 he
  rw[Bool.and_eq_true] at hb
  have:=(h e hm hb.1).2
  rwa [Nat.eq_of_beq_eq_true hb.2] at this
 intro n
 induction n with
 |zero=>
  intro done fr M u hq hu
  have hne:cI all done≠[]:=List.ne_nil_of_mem hq
  rw[eZ hne]
  constructor
  ·intro h
   have:=h q hq
   rw[cr ho,r4 hdm hg hd hqt hu] at this
   exact this
  ·intro h j hj
   by_cases e:j=q
   ·subst e
    rw[cr ho,r4 hdm hg hd hqt hu]
    exact h
   ·exfalso
    have hj2:j∈cI all (q::done):=by
     rw[cM] at hj⊢
     obtain⟨h1,x,hx,h2⟩:=hj
     exact⟨fun h=>by rcases List.mem_cons.1 h with h|h;exact e h;exact h1 h,x,hx,fun e he hb=>⟨(h2 e he hb).1,List.mem_cons_of_mem _ (h2 e he hb).2⟩⟩
    rw[be] at h
    cases hr:cI all (q::done) with
    |nil=>rw[hr] at hj2;cases hj2
    |cons a l=>rw[hr] at h;exact h
 |succ m ih=>
  intro done fr M u hq hu
  have hne:cI all done≠[]:=List.ne_nil_of_mem hq
  rw[eZ hne]
  constructor
  ·intro h
   have:=h q hq
   rw[cr ho,r4 hdm hg hd hqt hu] at this
   exact this
  ·intro h j hj
   by_cases e:j=q
   ·subst e
    rw[cr ho,r4 hdm hg hd hqt hu]
    exact h
   ·have hj':=cM.1 hj
    have hq':=cM.1 hq
    obtain⟨h1,x,hx,h2⟩:=hj'
    obtain⟨g1,o',ho',g2⟩:=hq'
    rw[ho] at ho';cases ho'
    obtain⟨p1,p2,p3,p4⟩:=hpair j x hx e
    have hj2:j∈cI all (q::done):=cM.2 ⟨fun h=>by rcases List.mem_cons.1 h with h|h;exact e h;exact h1 h,x,hx,fun e he hb=>⟨(h2 e he hb).1,List.mem_cons_of_mem _ (h2 e he hb).2⟩⟩
    have hq2:q∈cI all (j::done):=cM.2 ⟨fun h=>by rcases List.mem_cons.1 h with h|h;exact e h.symm;exact g1 h,o,ho,fun e he hb=>⟨(g2 e he hb).1,List.mem_cons_of_mem _ (g2 e he hb).2⟩⟩
    have hux:fu d (aF x.op)=false:=p3.resolve_right fun he=>g1 (edge he h2)
    have h3:=(eZ (List.ne_nil_of_mem hj2)).1 h j hj2
    rw[cr hx,qL p1 p2 hux] at h3
    rw[cr hx]
    refine Eq.mp (mO p1 fun w M'=>?_) h3
    rw[lE m (j::q::done) (q::j::done) fun i=>by simp only[List.mem_cons];exact⟨fun h=>by rcases h with h|h|h<;>simp[h],fun h=>by rcases h with h|h|h<;>simp[h]⟩]
    refine propext (ih (j::done) (b8 fr x.dst w) M' u hq2 ?_).symm
    rw[<-hu]
    congr 1
    cases hxd:x.dst with
    |none=>rfl
    |some e2=>
     have:fu e2 (aF o.op)=false:=(p4 e2 hxd).resolve_right fun he=>h1 (edge he g2)
     exact kE this
theorem zx (hdm:dm=none\/dm=some .own) {qs:List Nat} (hqs:qs.all (H7 all)=true):∀(n:Nat) (done:List Nat),rA P tt dm all qs K n done=be P tt dm all K n done
 |0,done=>by
  funext fr M
  rw[rA,be]
  cases cI all done<;>rfl
 |n+1,done=>by
  funext fr M
  have e:∀j,rA P tt dm all qs K n (j::done)=be P tt dm all K n (j::done):=fun j=>zx hdm hqs n _
  rw[rA]
  simp only[e]
  cases hr:cI all done with
  |nil=>rw[be,hr]
  |cons i l=>
   have hk:be P tt dm all K (n+1) done fr M=oq (i::l) fun j=>Al P tt dm all j fr M (be P tt dm all K n (j::done)):=by rw[be,hr]
   simp only
   cases hf:xj qs (i::l) with
   |none=>exact hk.symm
   |some q=>
    simp only
    obtain⟨h1,h2⟩:=pF hf
    have hok:=List.all_eq_true.1 hqs q h1
    rw[<-hk]
    unfold QD
    cases ho:all[q]? with
    |none=>rfl
    |some o=>
     simp only[fA]
     cases hu:H6 tt o.op ((aF o.op).map (cC fr)) with
     |val u=>
      simp only[bH,eU]
      have hok':=hok
      unfold H7 at hok'
      rw[ho] at hok'
      cases hd:o.dst with
      |none=>simp only[hd] at hok';cases hok'
      |some d=>exact propext (Lr hdm hok ho hd n done fr M u (by rw[hr];exact h2) hu).symm
     |_=>rfl
end
theorem MH {P:Program} {tt:TT} {ops:List Oper} {fr:List AV} {M:ac} {K:List AV->ac->Prop} (qs:List Nat) (hqs:qs.all (H7 ops)=true) (h:rA P tt (some .own) ops qs K ops.length [] fr M):gx P tt ops fr M K:=
 o9 (by rw[zx (.inr rfl) hqs] at h;exact h)
end
section
set_option maxRecDepth 100000
set_option maxHeartbeats 16000000
def lY:aJ:=⟨⟨#[117,110,102]⟩,1,[0],[⟨[3],1⟩],[],[]⟩
theorem R3:ab Tryz.prog 45 [] (fun u=>u= .agg [.str ⟨#[117,110,102]⟩, .int .i64 1, .sl 0 ak [0], .sl dv iz [⟨[3],1⟩], .nilsl, .nilsl]):=by
 refine ab.intro ae ag Tryz.func45 rfl (by decide) ?_;(conv=>whnf)
 repeat' first
  |exact⟨rfl,rfl⟩
  |(refine c7 0 ak [0] rfl ?_;conv=>whnf)
  |(refine c7 0 ak [3] rfl ?_;conv=>whnf)
  |(refine c7 dv iz [⟨[3],1⟩] rfl ?_;conv=>whnf)
  |(refine dn ?_;conv=>whnf)
  |fail
def R4:bE:=⟨⟨#[114,49]⟩,1,1,2,0,0,[],[],[],[],-1,-1,[0],0,[],[],[],0⟩
def QE:bE:=⟨⟨#[114,50]⟩,1,0,2,0,0,[],[⟨0,1,⟨1,0,1,0⟩⟩],[],[],-1,-1,[0],0,[],[],[],0⟩
def QF:bE:=⟨⟨#[114,51]⟩,1,2,3,0,0,[],[⟨0,1,⟨0,1,-1,0⟩⟩],[],[],-1,-1,[],0,[],[],[],0⟩
def e7:ap:=⟨⟨#[115,116]⟩,1,[⟨#[118,48]⟩,⟨#[118,49]⟩,⟨#[115,101]⟩,⟨#[97,99]⟩],[⟨#[101,99,104,111]⟩],[],3,[⟨-1,1,-3,0⟩,⟨0,0,1,-1⟩],[0,1],[],[R4,QE,QF]⟩
theorem QG:ab Tryz.prog 44 [] (fun u=>u= .agg [.str ⟨#[115,116]⟩, .int .i64 1, .sl t0 gc e7.states, .sl t0 gc e7.messages, .nilsl, .int .i64 3, .sl ik cV e7.resilience, .sl 0 ak [0,1], .nilsl, .sl au iu e7.rules]):=by
 refine ab.intro ae ag Tryz.func44 rfl (by decide) ?_;(conv=>whnf)
 repeat' first
  |exact⟨rfl,rfl⟩
  |(refine c7 t0 gc e7.states rfl ?_;conv=>whnf)
  |(refine c7 t0 gc e7.messages rfl ?_;conv=>whnf)
  |(refine c7 ik cV e7.resilience rfl ?_;conv=>whnf)
  |(refine c7 aW dJ QE.guards rfl ?_;conv=>whnf)
  |(refine c7 aW dJ QF.guards rfl ?_;conv=>whnf)
  |(refine c7 au iu e7.rules rfl ?_;conv=>whnf)
  |(refine J4 au iu e7.rules ?_ ?_;conv=>whnf)
  |(refine dn ?_;conv=>whnf)
  |fail
 all_goals
  repeat' (first|exact True.intro|(refine And.intro ?_ ?_)|exact .inl rfl|exact .inr ⟨rfl,_,_,_,rfl⟩)
theorem pM:dL e7 lY=0:=by decide+kernel
theorem Ls:(rG e7).length=5:=by decide+kernel
theorem H8:(ao e7 lY []).length=5:=by decide+kernel
theorem H9:(ao e7 lY [0]).length=7:=by decide+kernel
theorem H':(iQ e7 lY [0] 0).length=17:=by decide+kernel
theorem Lt:iR e7.rules e7.states.length=[1,0,2]:=by decide+kernel
theorem OI:dM (aA e7.rules).length [0]:=by decide+kernel
theorem OJ:dM (aA e7.rules).length []:=by decide+kernel
theorem ab.tell {P:Program} {f:FuncId} {args:List AV} {u0 u1:AV} (n m:Nat) (h:ab P f args (fun u=>u=u0)) (ha:lU [] n u0 u1) (hp:cU m u1=true):ab P f args (fun u=>u=u1):=by
 rw[cZ] at*
 refine⟨h.1,fun S F vs w h0 h1 h2 h3 hv=>(h.2 S F vs w h0 h1 h2 h3 hv).mono ?_⟩
 rintro e w' ⟨v,u,S',a,rfl,b,c,d,e2,hr,hw⟩
 exact⟨v,u1,S',a,rfl,b,c,d,e2,ke m hp ((eE (S:=S') (ρ:=fun _=>none) n).1 _ _ v ha (.p hr)),hw⟩
theorem QH:ab Tryz.prog 44 [] (fun u=>u= .agg (dg e7)):=ab.tell 400 5 QG (aa) rfl
theorem R5:ab Tryz.prog 45 [] (fun u=>u= .agg (mK lY)):=ab.tell 400 5 R3 (aa) rfl
theorem tV:qz e7:=by
 refine⟨by decide+kernel,fun j hj=>?_,by unfold yV;decide+kernel,by unfold yV;decide+kernel,by unfold yV;decide+kernel⟩
 have h3:e7.rules.length=3:=rfl
 obtain rfl|rfl|rfl:j=0\/j=1\/j=2:=by omega
 all_goals
  unfold JS
  decide+kernel
theorem tW:Bj lY:=by
 refine⟨by decide+kernel,?_⟩
 decide+kernel
theorem QI:ab Tryz.prog 13 [] (fun u=>u= .bool true):=by
 have hE:=QH
 have hU:=R5
 have h1:=HN e7 lY tV tW
 rw[HK pM] at h1
 have h2:=BB e7 lY tV tW [] (by simp)
 rw[Oh,if_neg (by rw[pM];omega),if_neg (fun h=>h OJ)] at h2
 have h2:ab Tryz.prog 47 [.agg (dg e7), .agg (mK lY), .nilsl] (fun u=>u= .tup [.sl im lS (ao e7 lY []), .int .i64 0]):=h2.weak fun S vs hv=>by
  obtain⟨v,vs',rfl,a1,a2⟩:=hv.cons_inv
  obtain⟨v2,vs2,rfl,b1,b2⟩:=a2.cons_inv
  obtain⟨v3,vs3,rfl,c1,c2⟩:=b2.cons_inv
  exact ib.cons a1 (ib.cons b1 (ib.cons (zm 0 ak v3 c1) c2))
 have hr:(eg e7 lY [0] 0).length=17:=by unfold eg;rw[List.length_map];exact H'
 have h3:=HU e7 lY tV tW [0] (by simp) 0
 rw[Ll,if_neg (by rw[pM];omega),if_neg (by
  have:(w6 e7 lY:Int)=1:=by decide+kernel
  rintro(h|h|h)
  ·exact h OI
  ·omega
  ·omega),H9] at h3
 have h4:=Oj e7 lY tV tW
 rw[Oi,if_neg (by rw[pM];omega),Lt] at h4
 have h5:=Ob e7 lY tV tW
 rw[pM] at h5
 have hl:=Ls
 have hv:=H8
 have h6:=E6 [1,0,2] (by simp)
 generalize rG e7=SL at*
 generalize ao e7 lY []=VL at*
 generalize eg e7 lY [0] 0=RB at*
 generalize e7=p at*
 generalize lY=q at*
 refine ab.intro ae ag Tryz.func13 rfl (by decide) ?_;(conv=>whnf)
 (refine oP (hE) ?_;conv=>whnf)
 (refine oP (hU) ?_;conv=>whnf)
 (refine oP (h1) ?_;conv=>whnf)
 (refine oP (h2) ?_;conv=>whnf)
 refine aj.hand 28 rfl ?_
 (refine oP (h3) ?_;conv=>whnf)
 (refine oP (h4) ?_;conv=>whnf)
 repeat' ((first|refine nI ?_|refine aI ?_|refine tI ?_|refine fI ?_|fail);conv=>whnf)
 refine aj.hand 75 rfl ?_
 (refine oP (h6) ?_;conv=>whnf)
 (refine oP (h5) ?_;conv=>whnf)
 repeat' ((first|refine nI ?_|refine aI ?_|refine tI ?_|refine fI ?_|fail);conv=>whnf)
 exact⟨rfl,rfl⟩
end
section
open Go.ChangeShapes Go.WideShapes Go.ChangeAt Go.RowKit
end
end Go.Proofs.YtekmminpfhacpaaGreatDoor
