import Derived.Test.YtekmminpfhacpaaGreatDoorM6
import Derived.Test.YtekmminpfhacpaaGreatDoorRdZ
import Derived.Test.YtekmminpfhacpaaGreatDoorJ1
import Derived.Test.YtekmminpfhacpaaGreatDoorW3
set_option linter.unusedVariables false
set_option linter.unusedSimpArgs false
namespace Go.Proofs.YtekmminpfhacpaaGreatDoor
section
open Go.ChangeShapes Go.WideShapes Go.ChangeAt Go.RowKit
def pE:Sh:=.str (.int (.sl (.str .nil) (.sl (.str .nil) (.sl (.str .nil) (.int (.sl w4 (jY (jY (.sl qu (.str (.int (jY (.sl cntS (jY (jY .nil)))))))))))))))
theorem MC:yV Tryz.prog 9 32=some pE:=by kernel_rfl
theorem J7:Bo Tryz.prog 9 32=true:=by kernel_rfl
def C4:iX pE->av
 |(a,b,c,d,e,f,g,h,i,j,_)=>⟨a,b,Gk c,Gk d,Gk e,f,List.map CF g,nE h,nE i,List.map nX j⟩
def t7:iX pE->aP
 |(_,_,_,_,_,_,_,_,_,_,a,b,c,d,e,f,_)=>⟨a,b,nE c,List.map cntOf d,nE e,nE f⟩
def KY (p:av) (q:aP):List AV:=cV p++eO q
theorem J8 {S:ai} (y:iX pE):A' S (cQ pE y) (KY (C4 y) (t7 y)):=by
 obtain⟨a,b,c,d,e,f,g,h,i,j,a2,b2,c2,d2,e2,f2,⟨⟩⟩:=y
 exact⟨Cv.refl _ _,Cv.refl _ _,Cv.strs c,Cv.strs d,Cv.strs e,Cv.refl _ _,Jy g,Cv.ints h,Cv.ints i,JA j,Cv.refl _ _,Cv.refl _ _,Cv.ints c2,cv_cnts d2,Cv.ints e2,Cv.ints f2,trivial⟩
theorem pF (l:List (iX (.int .nil))):(nE l).length=l.length:=by simp[nE]
theorem J9 (z:iX cntS):(cntOf z).states.length=z.1.length:=by
 obtain⟨a,b,c⟩:=z
 exact pF a
theorem BI {l:List (iX (.str .nil))} (h:∀a∈l,xg (.str .nil) a):yY (Gk l):=by
 intro s hs
 obtain⟨x,hx,rfl⟩:=List.mem_map.1 hs
 exact(h x hx).1
theorem OC {y:iX qu} (h:xg qu y):IC (nX y):=by
 obtain⟨a,b,c,d,e,f,g,h',i,j,k,l,m,n,o,p,q,r,⟨⟩⟩:=y
 obtain⟨h1,⟨h2,_⟩,⟨h3,_⟩,⟨h4,_⟩,⟨h5,_⟩,⟨h6,_⟩,⟨h7,_⟩,⟨h8,_⟩,⟨h9,_⟩,_⟩:=h
 unfold IC
 simp only[nX,pF,List.length_map]
 omega
theorem MD {l:List (iX qu)} (h:∀a∈l,xg qu a):∀j,j<(l.map nX).length->IC ((l.map nX).getD j ax):=by
 intro j hj
 have hj':j<l.length:=by simpa using hj
 have e:(l.map nX).getD j ax=nX l[j]:=by rw[gD,gL hj];simp
 rw[e]
 exact OC (h _ (List.getElem_mem _))
theorem Hg {y:iX pE} (h:xg pE y):lO (C4 y):=by
 obtain⟨a,b,c,d,e,f,g,h',i,j,a2,b2,c2,d2,e2,f2,⟨⟩⟩:=y
 obtain⟨h1,⟨h2,n2⟩,⟨h3,n3⟩,⟨h4,n4⟩,⟨h5,_⟩,⟨h6,_⟩,⟨h7,_⟩,⟨h8,n8⟩,_⟩:=h
 refine⟨?_,MD n8,BI n2,BI n3,BI n4⟩
 simp only[C4,pF,List.length_map,Gk]
 omega
theorem Hh {y:iX pE} (h:xg pE y):rS (t7 y):=by
 obtain⟨a,b,c,d,e,f,g,h',i,j,a2,b2,c2,d2,e2,f2,⟨⟩⟩:=y
 obtain⟨h1,⟨h2,n2⟩,⟨h3,n3⟩,⟨h4,n4⟩,⟨h5,_⟩,⟨h6,_⟩,⟨h7,_⟩,⟨h8,n8⟩,k1,⟨k2,_⟩,⟨k3,m3⟩,⟨k4,_⟩,⟨k5,_⟩,_⟩:=h
 refine⟨?_,fun j hj=>?_⟩
 ·simp only[t7,pF,List.length_map]
  omega
 ·have hj':j<d2.length:=by simpa[t7] using hj
  have e:(t7 (a,b,c,d,e,f,g,h',i,‹_›,a2,b2,c2,d2,e2,f2,())).bad.getD j b9=cntOf d2[j]:=by
   simp only[t7]
   rw[gD,gL (by simpa using hj')];simp
  rw[e]
  rw[J9]
  exact(m3 _ (List.getElem_mem hj')).1.1
end
section
set_option maxRecDepth 100000
set_option maxHeartbeats 16000000
theorem EL (l:List Int) (hl:l.length<=1000000):ah Tryz.prog 49 [.sl 0 al l, .sl 0 al l] (fun u=>u= .bool true):=by
 refine ah.intro ab ac Tryz.func49 rfl (by decide) ?_;(conv=>whnf)
 refine fI ?_
 conv=>whnf
 refine aJ.loopF ab ac (fun k:Nat=>k<=l.length) (fun k=>[(5, .int .i64 (k:Int))]) (fun _=>[]) (fun k=>l.length-k) 0 (Nat.zero_le _) ?_;conv=>whnf
 refine⟨sI,?_⟩
 rintro k hk
 conv=>whnf
 refine ae ?_ ?_<;>(intro h1;conv=>whnf)
 ·refine dI ?_
  conv=>whnf
  repeat' ((first|refine nI ?_|refine aI ?_|refine tI ?_|refine fI ?_|fail);conv=>whnf)
  exact⟨k+1,sI,by omega,by dsimp only;omega⟩
 ·exact⟨rfl,rfl⟩
def P8:Op->Bool
 |.move _| .fieldAddr _ _ _| .nilCheck _| .indexAddr _ _ _| .build _ _| .field _ _ _| .load _ _=>true
 |_=>false
def Hi (tt:TT) (op:Op) (us:List AV):Rs:=match op with
 |.load t _=>match us with
  |[.pd cells]=>fU tt t cells
  |_=>.no
 |op=>uC tt op us
def Hj (all:List Oper) (q:Nat):Bool:=match all[q]? with
 |none=>false
 |some o=>match o.dst with
  |none=>false
  |some d=>P8 o.op&&o.guard.isNone&&(List.range all.length).all fun j=>Nat.beq j q||match all[j]? with
   |none=>true
   |some x=>x.guard.isNone&&zt d x.dst&&(!(fO d (aG x.op))||gT x q)&&(match x.dst with|none=>true|some e=>!(fO e (aG o.op))||gT o j)
def OD (tt:TT) (all:List Oper) (q:Nat) (fr:List AV) (k1:List AV->Prop) (k2:Prop):Prop:=match all[q]? with
 |none=>k2
 |some o=>AP fr (aG o.op) fun us=>match Hi tt o.op us with
  |.val u=>gX u fun u=>mf fr o.dst u k1
  |_=>k2
def rp (P:Program) (tt:TT) (d:Option aL) (all:List Oper) (qs:List Nat) (K:List AV->ag->Prop):Nat->List Nat->List AV->ag->Prop
 |0,done,fr,M=>match c6 all done with
  |[]=>K fr M
  |_::_=>False
 |n+1,done,fr,M=>match c6 all done with
  |[]=>K fr M
  |i::l=>match xq qs (i::l) with
   |none=>ob (i::l) fun j=>An P tt d all j fr M (rp P tt d all qs K n (j::done))
   |some q=>OD tt all q fr (fun fr'=>rp P tt d all qs K n (q::done) fr' M) (ob (i::l) fun j=>An P tt d all j fr M (rp P tt d all qs K n (j::done)))
section
variable {P:Program} {tt:TT} {dm:Option aL} {all:List Oper} {K K':List AV->ag->Prop} {fr:List AV} {M:ag}
theorem r9 {o:Oper} {d:Nat} {u:AV} (hdm:dm=none\/dm=some .own) (hg:o.guard=none) (hd:o.dst=some d) (hq:P8 o.op=true) (hu:Hi tt o.op ((aG o.op).map (cY fr))= .val u):b8 P tt dm all o fr M K=K (fr.set d u) M:=by
 by_cases hb:NC o.op=true
 ·refine pB hg hd hb ?_
  rw[<-hu]
  unfold NC at hb
  split at hb
  all_goals first
   |(rename_i e;rw[e];rfl)
   |exact absurd hb (by decide)
 ·have:∃t x,o.op= .load t x:=by
   unfold P8 at hq
   unfold NC at hb
   split at hq
   all_goals first
    |exact⟨_,_,by assumption⟩
    |(exfalso;apply hb;rename_i e;rw[e])
    |exact absurd hq (by decide)
  obtain⟨t,x,e⟩:=this
  rw[e] at hu
  have hu2:Hi tt (.load t x) [cY fr x]= .val u:=hu
  unfold b8 kY
  rw[hg]
  simp only[fS,fj,hd,cA]
  unfold aZ
  rw[e]
  show gY (m5 dm tt (.load t x) [cY fr x] M) (fun u=>K (fr.set d u) M)=K (fr.set d u) M
  have hm:m5 dm tt (.load t x) [cY fr x] M=gm tt t M (cY fr x):=by
   rcases hdm with rfl|rfl<;>rfl
  rw[hm]
  unfold Hi at hu2
  cases hx:cY fr x with
  |pd cells=>
   rw[hx] at hu2
   show gY (fU tt t cells) _=_
   have h3:fU tt t cells= .val u:=hu2
   rw[h3]
   simp only[gY,b7]
  |_=>rw[hx] at hu2;cases hu2
theorem J' (hdm:dm=none\/dm=some .own) {q:Nat} {o:Oper} {d:Nat} (hok:Hj all q=true) (ho:all[q]? =some o) (hd:o.dst=some d):∀(n:Nat) (done:List Nat) (fr:List AV) (M:ag) (u:AV),q∈c6 all done->Hi tt o.op ((aG o.op).map (cY fr))= .val u->
  (br P tt dm all K (n+1) done fr M↔br P tt dm all K n (q::done) (fr.set d u) M):=by
 unfold Hj at hok
 rw[ho] at hok
 simp only[hd,Bool.and_eq_true,Option.isNone_iff_eq_none] at hok
 obtain⟨⟨hqt,hg⟩,hall⟩:=hok
 have hpair:∀j x,all[j]? =some x->j≠q->x.guard=none/\zt d x.dst=true/\(fO d (aG x.op)=false\/gT x q=true)/\∀e,x.dst=some e->fO e (aG o.op)=false\/gT o j=true:=fun j x hx hne=>by
  have hj:j<all.length:=by
   rcases Nat.lt_or_ge j all.length with h|h
   ·exact h
   ·rw[List.getElem?_eq_none h] at hx;cases hx
  have:=List.all_eq_true.1 hall j (List.mem_range.2 hj)
  rw[hx] at this
  have hb:Nat.beq j q=false:=by cases h:Nat.beq j q with|false=>rfl|true=>exact absurd (Nat.eq_of_beq_eq_true h) hne
  simp only[hb,Bool.false_or,Bool.and_eq_true,Option.isNone_iff_eq_none,Bool.or_eq_true,Bool.not_eq_true'] at this
  obtain⟨⟨⟨h1,h2⟩,h3⟩,h4⟩:=this
  refine⟨h1,h2,h3,fun e he=>?_⟩
  rw[he] at h4
  simpa using h4
 have edge:∀{x:Oper} {k:Nat} {done:List Nat},gT x k=true->(∀e∈x.after.toList,Region.binds .any e=true->e.on<all.length/\e.on∈done)->k∈done:=fun{x k done} he h=>by
  unfold gT at he
  obtain⟨e,hm,hb⟩:=List.any_eq_true.1 he
  rw[Bool.and_eq_true] at hb
  have:=(h e hm hb.1).2
  rwa [Nat.eq_of_beq_eq_true hb.2] at this
 intro n
 induction n with
 |zero=>
  intro done fr M u hq hu
  have hne:c6 all done≠[]:=List.ne_nil_of_mem hq
  rw[fv hne]
  constructor
  ·intro h
   have:=h q hq
   rw[cJ ho,r9 hdm hg hd hqt hu] at this
   exact this
  ·intro h j hj
   by_cases e:j=q
   ·subst e
    rw[cJ ho,r9 hdm hg hd hqt hu]
    exact h
   ·exfalso
    have hj2:j∈c6 all (q::done):=by
     rw[dc] at hj⊢
     obtain⟨h1,x,hx,h2⟩:=hj
     exact⟨fun h=>by rcases List.mem_cons.1 h with h|h;exact e h;exact h1 h,x,hx,fun e he hb=>⟨(h2 e he hb).1,List.mem_cons_of_mem _ (h2 e he hb).2⟩⟩
    rw[br] at h
    cases hr:c6 all (q::done) with
    |nil=>rw[hr] at hj2;cases hj2
    |cons a l=>rw[hr] at h;exact h
 |succ m ih=>
  intro done fr M u hq hu
  have hne:c6 all done≠[]:=List.ne_nil_of_mem hq
  rw[fv hne]
  constructor
  ·intro h
   have:=h q hq
   rw[cJ ho,r9 hdm hg hd hqt hu] at this
   exact this
  ·intro h j hj
   by_cases e:j=q
   ·subst e
    rw[cJ ho,r9 hdm hg hd hqt hu]
    exact h
   ·have hj':=dc.1 hj
    have hq':=dc.1 hq
    obtain⟨h1,x,hx,h2⟩:=hj'
    obtain⟨g1,o',ho',g2⟩:=hq'
    rw[ho] at ho';cases ho'
    obtain⟨p1,p2,p3,p4⟩:=hpair j x hx e
    have hj2:j∈c6 all (q::done):=dc.2 ⟨fun h=>by rcases List.mem_cons.1 h with h|h;exact e h;exact h1 h,x,hx,fun e he hb=>⟨(h2 e he hb).1,List.mem_cons_of_mem _ (h2 e he hb).2⟩⟩
    have hq2:q∈c6 all (j::done):=dc.2 ⟨fun h=>by rcases List.mem_cons.1 h with h|h;exact e h.symm;exact g1 h,o,ho,fun e he hb=>⟨(g2 e he hb).1,List.mem_cons_of_mem _ (g2 e he hb).2⟩⟩
    have hux:fO d (aG x.op)=false:=p3.resolve_right fun he=>g1 (edge he h2)
    have h3:=(fv (List.ne_nil_of_mem hj2)).1 h j hj2
    rw[cJ hx,qC p1 p2 hux] at h3
    rw[cJ hx]
    refine Eq.mp (mK p1 fun w M'=>?_) h3
    rw[lz m (j::q::done) (q::j::done) fun i=>by simp only[List.mem_cons];exact⟨fun h=>by rcases h with h|h|h<;>simp[h],fun h=>by rcases h with h|h|h<;>simp[h]⟩]
    refine propext (ih (j::done) (cA fr x.dst w) M' u hq2 ?_).symm
    rw[<-hu]
    congr 1
    cases hxd:x.dst with
    |none=>rfl
    |some e2=>
     have:fO e2 (aG o.op)=false:=(p4 e2 hxd).resolve_right fun he=>h1 (edge he g2)
     exact kB this
theorem zE (hdm:dm=none\/dm=some .own) {qs:List Nat} (hqs:qs.all (Hj all)=true):∀(n:Nat) (done:List Nat),rp P tt dm all qs K n done=br P tt dm all K n done
 |0,done=>by
  funext fr M
  rw[rp,br]
  cases c6 all done<;>rfl
 |n+1,done=>by
  funext fr M
  have e:∀j,rp P tt dm all qs K n (j::done)=br P tt dm all K n (j::done):=fun j=>zE hdm hqs n _
  rw[rp]
  simp only[e]
  cases hr:c6 all done with
  |nil=>rw[br,hr]
  |cons i l=>
   have hk:br P tt dm all K (n+1) done fr M=ob (i::l) fun j=>An P tt dm all j fr M (br P tt dm all K n (j::done)):=by rw[br,hr]
   simp only
   cases hf:xq qs (i::l) with
   |none=>exact hk.symm
   |some q=>
    simp only
    obtain⟨h1,h2⟩:=pA hf
    have hok:=List.all_eq_true.1 hqs q h1
    rw[<-hk]
    unfold OD
    cases ho:all[q]? with
    |none=>rfl
    |some o=>
     simp only[fS]
     cases hu:Hi tt o.op ((aG o.op).map (cY fr)) with
     |val u=>
      simp only[b7,fj]
      have hok':=hok
      unfold Hj at hok'
      rw[ho] at hok'
      cases hd:o.dst with
      |none=>simp only[hd] at hok';cases hok'
      |some d=>exact propext (J' hdm hok ho hd n done fr M u (by rw[hr];exact h2) hu).symm
     |_=>rfl
end
theorem fC {P:Program} {tt:TT} {ops:List Oper} {fr:List AV} {M:ag} {K:List AV->ag->Prop} (qs:List Nat) (hqs:qs.all (Hj ops)=true) (h:rp P tt (some .own) ops qs K ops.length [] fr M):gQ P tt ops fr M K:=
 nU (by rw[zE (.inr rfl) hqs] at h;exact h)
end
section
set_option maxRecDepth 100000
set_option maxHeartbeats 16000000
def lW:aP:=⟨⟨#[117,110,102]⟩,1,[0],[⟨[3],1⟩],[],[]⟩
theorem P9:ah Tryz.prog 45 [] (fun u=>u= .agg [.str ⟨#[117,110,102]⟩, .int .i64 1, .sl 0 al [0], .sl b9 iQ [⟨[3],1⟩], .nilsl, .nilsl]):=by
 refine ah.intro ab ac Tryz.func45 rfl (by decide) ?_;(conv=>whnf)
 repeat' first
  |exact⟨rfl,rfl⟩
  |(refine bp 0 al [0] rfl ?_;conv=>whnf)
  |(refine bp 0 al [3] rfl ?_;conv=>whnf)
  |(refine bp b9 iQ [⟨[3],1⟩] rfl ?_;conv=>whnf)
  |(refine bU ?_;conv=>whnf)
  |fail
def P':cf:=⟨⟨#[114,49]⟩,1,1,2,0,0,[],[],[],[],-1,-1,[0],0,[],[],[],0⟩
def OE:cf:=⟨⟨#[114,50]⟩,1,0,2,0,0,[],[⟨0,1,⟨1,0,1,0⟩⟩],[],[],-1,-1,[0],0,[],[],[],0⟩
def OG:cf:=⟨⟨#[114,51]⟩,1,2,3,0,0,[],[⟨0,1,⟨0,1,-1,0⟩⟩],[],[],-1,-1,[],0,[],[],[],0⟩
def fx:av:=⟨⟨#[115,116]⟩,1,[⟨#[118,48]⟩,⟨#[118,49]⟩,⟨#[115,101]⟩,⟨#[97,99]⟩],[⟨#[101,99,104,111]⟩],[],3,[⟨-1,1,-3,0⟩,⟨0,0,1,-1⟩],[0,1],[],[P',OE,OG]⟩
theorem OH:ah Tryz.prog 44 [] (fun u=>u= .agg [.str ⟨#[115,116]⟩, .int .i64 1, .sl t0 fo fx.states, .sl t0 fo fx.messages, .nilsl, .int .i64 3, .sl eX cq fx.resilience, .sl 0 al [0,1], .nilsl, .sl ax iL fx.rules]):=by
 refine ah.intro ab ac Tryz.func44 rfl (by decide) ?_;(conv=>whnf)
 repeat' first
  |exact⟨rfl,rfl⟩
  |(refine bp t0 fo fx.states rfl ?_;conv=>whnf)
  |(refine bp t0 fo fx.messages rfl ?_;conv=>whnf)
  |(refine bp eX cq fx.resilience rfl ?_;conv=>whnf)
  |(refine bp aM cg OE.guards rfl ?_;conv=>whnf)
  |(refine bp aM cg OG.guards rfl ?_;conv=>whnf)
  |(refine bp ax iL fx.rules rfl ?_;conv=>whnf)
  |(refine FF ax iL fx.rules ?_ ?_;conv=>whnf)
  |(refine bU ?_;conv=>whnf)
  |fail
 all_goals
  repeat' (first|exact True.intro|(refine And.intro ?_ ?_)|exact .inl rfl|exact .inr ⟨rfl,_,_,_,rfl⟩)
theorem pG:dq fx lW=0:=by decide+kernel
theorem Ka:(aO fx).length=5:=by decide+kernel
theorem Hk:(az fx lW []).length=5:=by decide+kernel
theorem Hl:(az fx lW [0]).length=7:=by decide+kernel
theorem Hm:(tQ fx lW [0] 0).length=17:=by decide+kernel
theorem Kb:L3 fx.rules fx.states.length=[1,0,2]:=by decide+kernel
theorem ME:dS (ay fx.rules).length [0]:=by decide+kernel
theorem MF:dS (ay fx.rules).length []:=by decide+kernel
theorem ah.tell {P:Program} {f:FuncId} {args:List AV} {u0 u1:AV} (n m:Nat) (h:ah P f args (fun u=>u=u0)) (ha:oW [] n u0 u1) (hp:dl m u1=true):ah P f args (fun u=>u=u1):=by
 rw[dM] at*
 refine⟨h.1,fun S F vs w h0 h1 h2 h3 hv=>(h.2 S F vs w h0 h1 h2 h3 hv).mono ?_⟩
 rintro e w' ⟨v,u,S',a,rfl,b,c,d,e2,hr,hw⟩
 exact⟨v,u1,S',a,rfl,b,c,d,e2,me m hp ((eU (S:=S') (ρ:=fun _=>none) n).1 _ _ v ha (.p hr)),hw⟩
theorem OI:ah Tryz.prog 44 [] (fun u=>u= .agg (cV fx)):=ah.tell 400 5 OH (aa) rfl
theorem Qa:ah Tryz.prog 45 [] (fun u=>u= .agg (eO lW)):=ah.tell 400 5 P9 (aa) rfl
theorem t8:lO fx:=by
 refine⟨by decide+kernel,fun j hj=>?_,by unfold yY;decide+kernel,by unfold yY;decide+kernel,by unfold yY;decide+kernel⟩
 have h3:fx.rules.length=3:=rfl
 obtain rfl|rfl|rfl:j=0\/j=1\/j=2:=by omega
 all_goals
  unfold IC
  decide+kernel
theorem t9:rS lW:=by
 refine⟨by decide+kernel,?_⟩
 decide+kernel
theorem OJ:ah Tryz.prog 13 [] (fun u=>u= .bool true):=by
 have hE:=OI
 have hU:=Qa
 have h1:=G3 fx lW t8 t9
 rw[tV pG] at h1
 have h2:=Bt fx lW t8 t9 [] (by simp)
 rw[Mk,if_neg (by rw[pG];omega),if_neg (fun h=>h MF)] at h2
 have h2:ah Tryz.prog 47 [.agg (cV fx), .agg (eO lW), .nilsl] (fun u=>u= .tup [.sl d8 fM (az fx lW []), .int .i64 0]):=h2.weak fun S vs hv=>by
  obtain⟨v,vs',rfl,a1,a2⟩:=hv.cons_inv
  obtain⟨v2,vs2,rfl,b1,b2⟩:=a2.cons_inv
  obtain⟨v3,vs3,rfl,c1,c2⟩:=b2.cons_inv
  exact ir.cons a1 (ir.cons b1 (ir.cons (zr 0 al v3 c1) c2))
 have hr:(gy fx lW [0] 0).length=17:=by unfold gy;rw[List.length_map];exact Hm
 have h3:=My fx lW t8 t9 [0] (by simp) 0
 rw[xt,if_neg (by rw[pG];omega),if_neg (by
  have:(db fx lW:Int)=1:=by decide+kernel
  rintro(h|h|h)
  ·exact h ME
  ·omega
  ·omega),Hl] at h3
 have h4:=Mq fx lW t8 t9
 rw[Mp,if_neg (by rw[pG];omega),Kb] at h4
 have h5:=Mi fx lW t8 t9
 rw[pG] at h5
 have hl:=Ka
 have hv:=Hk
 have h6:=EL [1,0,2] (by simp)
 generalize aO fx=SL at*
 generalize az fx lW []=VL at*
 generalize gy fx lW [0] 0=RB at*
 generalize fx=p at*
 generalize lW=q at*
 refine ah.intro ab ac Tryz.func13 rfl (by decide) ?_;(conv=>whnf)
 (refine oP (hE) ?_;conv=>whnf)
 (refine oP (hU) ?_;conv=>whnf)
 (refine oP (h1) ?_;conv=>whnf)
 (refine oP (h2) ?_;conv=>whnf)
 refine aj.hand 28 rfl ?_
 (refine oP (h3) ?_;conv=>whnf)
 (refine oP (h4) ?_;conv=>whnf)
 repeat' ((first|refine nI ?_|refine aI ?_|refine tI ?_|refine fI ?_|fail);conv=>whnf)
 refine aj.hand 75 rfl ?_
 (refine oP (h6) ?_;conv=>whnf)
 (refine oP (h5) ?_;conv=>whnf)
 repeat' ((first|refine nI ?_|refine aI ?_|refine tI ?_|refine fI ?_|fail);conv=>whnf)
 exact⟨rfl,rfl⟩
end
section
open Go.ChangeShapes Go.WideShapes Go.ChangeAt Go.RowKit
end
end Go.Proofs.YtekmminpfhacpaaGreatDoor
