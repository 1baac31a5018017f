import Derived.Test.YtnjggjhkfncnlaaGreatDoorM6
import Derived.Test.YtnjggjhkfncnlaaGreatDoorRdZ
import Derived.Test.YtnjggjhkfncnlaaGreatDoorP1
import Derived.Test.YtnjggjhkfncnlaaGreatDoorFwJ
import Derived.Test.YtnjggjhkfncnlaaGreatDoorW2
import Derived.Test.YtnjggjhkfncnlaaGreatDoorW3
import Derived.Test.YtnjggjhkfncnlaaGreatDoorFwL
import Derived.Test.YtnjggjhkfncnlaaGreatDoorW0
set_option linter.unusedVariables false
set_option linter.unusedSimpArgs false
namespace Go.Proofs.YtnjggjhkfncnlaaGreatDoor
open Go.ChangeShapes Go.WideShapes Go.ChangeAt Go.RowKit
def mP:Sh:=.str (.int (.sl (.str .nil) (.sl (.str .nil) (.sl (.str .nil) (.int (.sl sW (gn (gn (.sl nv (.str (.int (gn (.sl cntS (gn (gn .nil)))))))))))))))
theorem HK:pD Tryz.prog 9 32=some mP:=by kernel_rfl
theorem Fr:qW Tryz.prog 9 32=true:=by kernel_rfl
def yC:fT mP->au
 |(a,b,c,d,e,f,g,h,i,j,_)=>⟨a,b,BK c,BK d,BK e,f,List.map yb g,jH h,jH i,List.map lz j⟩
def qj:fT mP->aV
 |(_,_,_,_,_,_,_,_,_,_,a,b,c,d,e,f,_)=>⟨a,b,jH c,List.map cntOf d,jH e,jH f⟩
def Gg (p:au) (q:aV):List AV:=aO p++fg q
theorem Fs {S:ai} (y:fT mP):v5 S (ce mP y) (Gg (yC y) (qj y)):=by
 obtain⟨a,b,c,d,e,f,g,h,i,j,a2,b2,c2,d2,e2,f2,⟨⟩⟩:=y
 exact⟨Cv.refl _ _,Cv.refl _ _,Cv.strs c,Cv.strs d,Cv.strs e,Cv.refl _ _,EM g,Cv.ints h,Cv.ints i,EO j,Cv.refl _ _,Cv.refl _ _,Cv.ints c2,cv_cnts d2,Cv.ints e2,Cv.ints f2,trivial⟩
theorem jj (l:List (fT (.int .nil))):(jH l).length=l.length:=by simp[jH]
theorem Ft (z:fT cntS):(cntOf z).states.length=z.1.length:=by
 obtain⟨a,b,c⟩:=z
 exact jj a
theorem xt {l:List (fT (.str .nil))} (h:∀a∈l,qV (.str .nil) a):uQ (BK l):=by
 intro s hs
 obtain⟨x,hx,rfl⟩:=List.mem_map.1 hs
 exact(h x hx).1
theorem Jr {y:fT nv} (h:qV nv y):D2 (lz y):=by
 obtain⟨a,b,c,d,e,f,g,h',i,j,k,l,m,n,o,p,q,r,⟨⟩⟩:=y
 obtain⟨h1,⟨h2,_⟩,⟨h3,_⟩,⟨h4,_⟩,⟨h5,_⟩,⟨h6,_⟩,⟨h7,_⟩,⟨h8,_⟩,⟨h9,_⟩,_⟩:=h
 unfold D2
 simp only[lz,jj,List.length_map]
 omega
theorem HL {l:List (fT nv)} (h:∀a∈l,qV nv a):∀j,j<(l.map lz).length->D2 ((l.map lz).getD j ar):=by
 intro j hj
 have hj':j<l.length:=by simpa using hj
 have e:(l.map lz).getD j ar=lz l[j]:=by rw[gD,gL hj];simp
 rw[e]
 exact Jr (h _ (List.getElem_mem _))
theorem Da {y:fT mP} (h:qV mP y):gM (yC y):=by
 obtain⟨a,b,c,d,e,f,g,h',i,j,a2,b2,c2,d2,e2,f2,⟨⟩⟩:=y
 obtain⟨h1,⟨h2,n2⟩,⟨h3,n3⟩,⟨h4,n4⟩,⟨h5,_⟩,⟨h6,_⟩,⟨h7,_⟩,⟨h8,n8⟩,_⟩:=h
 refine⟨?_,HL n8,xt n2,xt n3,xt n4⟩
 simp only[yC,jj,List.length_map,BK]
 omega
theorem Db {y:fT mP} (h:qV mP y):qP (qj y):=by
 obtain⟨a,b,c,d,e,f,g,h',i,j,a2,b2,c2,d2,e2,f2,⟨⟩⟩:=y
 obtain⟨h1,⟨h2,n2⟩,⟨h3,n3⟩,⟨h4,n4⟩,⟨h5,_⟩,⟨h6,_⟩,⟨h7,_⟩,⟨h8,n8⟩,k1,⟨k2,_⟩,⟨k3,m3⟩,⟨k4,_⟩,⟨k5,_⟩,_⟩:=h
 refine⟨?_,fun j hj=>?_⟩
 ·simp only[qj,jj,List.length_map]
  omega
 ·have hj':j<d2.length:=by simpa[qj] using hj
  have e:(qj (a,b,c,d,e,f,g,h',i,‹_›,a2,b2,c2,d2,e2,f2,())).bad.getD j bP=cntOf d2[j]:=by
   simp only[qj]
   rw[gD,gL (by simpa using hj')];simp
  rw[e]
  rw[Ft]
  exact(m3 _ (List.getElem_mem hj')).1.1
end Go.Proofs.YtnjggjhkfncnlaaGreatDoor
namespace Go.Proofs.YtnjggjhkfncnlaaGreatDoor
set_option maxRecDepth 100000
set_option maxHeartbeats 16000000
theorem jk (l:List Int) (hl:l.length<=1000000):ab Tryz.prog 8 [.sl 0 an l, .sl 0 an l] (fun u=>u= .bool true):=by
 refine ab.intro ac ag Tryz.func8 rfl (by decide) ?_;(conv=>whnf)
 refine fI ?_
 conv=>whnf
 refine aH.loopF ac ag (fun k:Nat=>k<=l.length) (fun k=>[(5, .int .i64 (k:Int))]) (fun _=>[]) (fun k=>l.length-k) 0 (Nat.zero_le _) ?_;conv=>whnf
 refine⟨sI,?_⟩
 rintro k hk
 conv=>whnf
 refine ah ?_ ?_<;>(intro h1;conv=>whnf)
 ·refine dI ?_
  conv=>whnf
  repeat' ((first|refine nI ?_|refine aI ?_|refine tI ?_|refine fI ?_|fail);conv=>whnf)
  exact⟨k+1,sI,by omega,by dsimp only;omega⟩
 ·exact⟨rfl,rfl⟩
def Ku:Op->Bool
 |.move _| .fieldAddr _ _ _| .nilCheck _| .indexAddr _ _ _| .build _ _| .field _ _ _| .load _ _=>true
 |_=>false
def Dc (tt:TT) (op:Op) (us:List AV):Rs:=match op with
 |.load t _=>match us with
  |[.pd cells]=>e7 tt t cells
  |_=>.no
 |op=>qC tt op us
def Dd (all:List Oper) (q:Nat):Bool:=match all[q]? with
 |none=>false
 |some o=>match o.dst with
  |none=>false
  |some d=>Ku o.op&&o.guard.isNone&&(List.range all.length).all fun j=>Nat.beq j q||match all[j]? with
   |none=>true
   |some x=>x.guard.isNone&&vD d x.dst&&(!(eN d (aJ x.op))||fN x q)&&(match x.dst with|none=>true|some e=>!(eN e (aJ o.op))||fN o j)
def Js (tt:TT) (all:List Oper) (q:Nat) (fr:List AV) (k1:List AV->Prop) (k2:Prop):Prop:=match all[q]? with
 |none=>k2
 |some o=>wv fr (aJ o.op) fun us=>match Dc tt o.op us with
  |.val u=>kc u fun u=>lh fr o.dst u k1
  |_=>k2
def oj (P:Program) (tt:TT) (d:Option aM) (all:List Oper) (qs:List Nat) (K:List AV->aj->Prop):Nat->List Nat->List AV->aj->Prop
 |0,done,fr,M=>match cC all done with
  |[]=>K fr M
  |_::_=>False
 |n+1,done,fr,M=>match cC all done with
  |[]=>K fr M
  |i::l=>match tu qs (i::l) with
   |none=>lJ (i::l) fun j=>v4 P tt d all j fr M (oj P tt d all qs K n (j::done))
   |some q=>Js tt all q fr (fun fr'=>oj P tt d all qs K n (q::done) fr' M) (lJ (i::l) fun j=>v4 P tt d all j fr M (oj P tt d all qs K n (j::done)))
section
variable {P:Program} {tt:TT} {dm:Option aM} {all:List Oper} {K K':List AV->aj->Prop} {fr:List AV} {M:aj}
theorem oO {o:Oper} {d:Nat} {u:AV} (hdm:dm=none\/dm=some .own) (hg:o.guard=none) (hd:o.dst=some d) (hq:Ku o.op=true) (hu:Dc tt o.op ((aJ o.op).map (db fr))= .val u):bN P tt dm all o fr M K=K (fr.set d u) M:=by
 by_cases hb:Iu o.op=true
 ·refine mL hg hd hb ?_
  rw[<-hu]
  unfold Iu at hb
  split at hb
  all_goals first
   |(rename_i e;rw[e];rfl)
   |exact absurd hb (by decide)
 ·have:∃t x,o.op= .load t x:=by
   unfold Ku at hq
   unfold Iu at hb
   split at hq
   all_goals first
    |exact⟨_,_,by assumption⟩
    |(exfalso;apply hb;rename_i e;rw[e])
    |exact absurd hq (by decide)
  obtain⟨t,x,e⟩:=this
  rw[e] at hu
  have hu2:Dc tt (.load t x) [db fr x]= .val u:=hu
  unfold bN jw
  rw[hg]
  simp only[eU,eT,hd,cB]
  unfold bc
  rw[e]
  show fQ (kV dm tt (.load t x) [db fr x] M) (fun u=>K (fr.set d u) M)=K (fr.set d u) M
  have hm:kV dm tt (.load t x) [db fr x] M=fp tt t M (db fr x):=by
   rcases hdm with rfl|rfl<;>rfl
  rw[hm]
  unfold Dc at hu2
  cases hx:db fr x with
  |pd cells=>
   rw[hx] at hu2
   show fQ (e7 tt t cells) _=_
   have h3:e7 tt t cells= .val u:=hu2
   rw[h3]
   simp only[fQ,bW]
  |_=>rw[hx] at hu2;cases hu2
theorem Fu (hdm:dm=none\/dm=some .own) {q:Nat} {o:Oper} {d:Nat} (hok:Dd all q=true) (ho:all[q]? =some o) (hd:o.dst=some d):∀(n:Nat) (done:List Nat) (fr:List AV) (M:aj) (u:AV),q∈cC all done->Dc tt o.op ((aJ o.op).map (db fr))= .val u->
  (bd P tt dm all K (n+1) done fr M↔bd P tt dm all K n (q::done) (fr.set d u) M):=by
 unfold Dd at hok
 rw[ho] at hok
 simp only[hd,Bool.and_eq_true,Option.isNone_iff_eq_none] at hok
 obtain⟨⟨hqt,hg⟩,hall⟩:=hok
 have hpair:∀j x,all[j]? =some x->j≠q->x.guard=none/\vD d x.dst=true/\(eN d (aJ x.op)=false\/fN x q=true)/\∀e,x.dst=some e->eN e (aJ o.op)=false\/fN o j=true:=fun j x hx hne=>by
  have hj:j<all.length:=by
   rcases Nat.lt_or_ge j all.length with h|h
   ·exact h
   ·rw[List.getElem?_eq_none h] at hx;cases hx
  have:=List.all_eq_true.1 hall j (List.mem_range.2 hj)
  rw[hx] at this
  have hb:Nat.beq j q=false:=by cases h:Nat.beq j q with|false=>rfl|true=>exact absurd (Nat.eq_of_beq_eq_true h) hne
  simp only[hb,Bool.false_or,Bool.and_eq_true,Option.isNone_iff_eq_none,Bool.or_eq_true,Bool.not_eq_true'] at this
  obtain⟨⟨⟨h1,h2⟩,h3⟩,h4⟩:=this
  refine⟨h1,h2,h3,fun e he=>?_⟩
  rw[he] at h4
  simpa using h4
 have edge:∀{x:Oper} {k:Nat} {done:List Nat},fN x k=true->(∀e∈x.after.toList,Region.binds .any e=true->e.on<all.length/\e.on∈done)->k∈done:=fun{x k done} he h=>by
  unfold fN at he
  obtain⟨e,hm,hb⟩:=List.any_eq_true.1 he
  rw[Bool.and_eq_true] at hb
  have:=(h e hm hb.1).2
  rwa [Nat.eq_of_beq_eq_true hb.2] at this
 intro n
 induction n with
 |zero=>
  intro done fr M u hq hu
  have hne:cC all done≠[]:=List.ne_nil_of_mem hq
  rw[d8 hne]
  constructor
  ·intro h
   have:=h q hq
   rw[cl ho,oO hdm hg hd hqt hu] at this
   exact this
  ·intro h j hj
   by_cases e:j=q
   ·subst e
    rw[cl ho,oO hdm hg hd hqt hu]
    exact h
   ·exfalso
    have hj2:j∈cC all (q::done):=by
     rw[cG] at hj⊢
     obtain⟨h1,x,hx,h2⟩:=hj
     exact⟨fun h=>by rcases List.mem_cons.1 h with h|h;exact e h;exact h1 h,x,hx,fun e he hb=>⟨(h2 e he hb).1,List.mem_cons_of_mem _ (h2 e he hb).2⟩⟩
    rw[bd] at h
    cases hr:cC all (q::done) with
    |nil=>rw[hr] at hj2;cases hj2
    |cons a l=>rw[hr] at h;exact h
 |succ m ih=>
  intro done fr M u hq hu
  have hne:cC all done≠[]:=List.ne_nil_of_mem hq
  rw[d8 hne]
  constructor
  ·intro h
   have:=h q hq
   rw[cl ho,oO hdm hg hd hqt hu] at this
   exact this
  ·intro h j hj
   by_cases e:j=q
   ·subst e
    rw[cl ho,oO hdm hg hd hqt hu]
    exact h
   ·have hj':=cG.1 hj
    have hq':=cG.1 hq
    obtain⟨h1,x,hx,h2⟩:=hj'
    obtain⟨g1,o',ho',g2⟩:=hq'
    rw[ho] at ho';cases ho'
    obtain⟨p1,p2,p3,p4⟩:=hpair j x hx e
    have hj2:j∈cC all (q::done):=cG.2 ⟨fun h=>by rcases List.mem_cons.1 h with h|h;exact e h;exact h1 h,x,hx,fun e he hb=>⟨(h2 e he hb).1,List.mem_cons_of_mem _ (h2 e he hb).2⟩⟩
    have hq2:q∈cC all (j::done):=cG.2 ⟨fun h=>by rcases List.mem_cons.1 h with h|h;exact e h.symm;exact g1 h,o,ho,fun e he hb=>⟨(g2 e he hb).1,List.mem_cons_of_mem _ (g2 e he hb).2⟩⟩
    have hux:eN d (aJ x.op)=false:=p3.resolve_right fun he=>g1 (edge he h2)
    have h3:=(d8 (List.ne_nil_of_mem hj2)).1 h j hj2
    rw[cl hx,nJ p1 p2 hux] at h3
    rw[cl hx]
    refine Eq.mp (kJ p1 fun w M'=>?_) h3
    rw[jL m (j::q::done) (q::j::done) fun i=>by simp only[List.mem_cons];exact⟨fun h=>by rcases h with h|h|h<;>simp[h],fun h=>by rcases h with h|h|h<;>simp[h]⟩]
    refine propext (ih (j::done) (cB fr x.dst w) M' u hq2 ?_).symm
    rw[<-hu]
    congr 1
    cases hxd:x.dst with
    |none=>rfl
    |some e2=>
     have:eN e2 (aJ o.op)=false:=(p4 e2 hxd).resolve_right fun he=>h1 (edge he g2)
     exact ji this
theorem vJ (hdm:dm=none\/dm=some .own) {qs:List Nat} (hqs:qs.all (Dd all)=true):∀(n:Nat) (done:List Nat),oj P tt dm all qs K n done=bd P tt dm all K n done
 |0,done=>by
  funext fr M
  rw[oj,bd]
  cases cC all done<;>rfl
 |n+1,done=>by
  funext fr M
  have e:∀j,oj P tt dm all qs K n (j::done)=bd P tt dm all K n (j::done):=fun j=>vJ hdm hqs n _
  rw[oj]
  simp only[e]
  cases hr:cC all done with
  |nil=>rw[bd,hr]
  |cons i l=>
   have hk:bd P tt dm all K (n+1) done fr M=lJ (i::l) fun j=>v4 P tt dm all j fr M (bd P tt dm all K n (j::done)):=by rw[bd,hr]
   simp only
   cases hf:tu qs (i::l) with
   |none=>exact hk.symm
   |some q=>
    simp only
    obtain⟨h1,h2⟩:=mK hf
    have hok:=List.all_eq_true.1 hqs q h1
    rw[<-hk]
    unfold Js
    cases ho:all[q]? with
    |none=>rfl
    |some o=>
     simp only[eU]
     cases hu:Dc tt o.op ((aJ o.op).map (db fr)) with
     |val u=>
      simp only[bW,eT]
      have hok':=hok
      unfold Dd at hok'
      rw[ho] at hok'
      cases hd:o.dst with
      |none=>simp only[hd] at hok';cases hok'
      |some d=>exact propext (Fu hdm hok ho hd n done fr M u (by rw[hr];exact h2) hu).symm
     |_=>rfl
end
theorem em {P:Program} {tt:TT} {ops:List Oper} {fr:List AV} {M:aj} {K:List AV->aj->Prop} (qs:List Nat) (hqs:qs.all (Dd ops)=true) (h:oj P tt (some .own) ops qs K ops.length [] fr M):fL P tt ops fr M K:=
 mn (by rw[vJ (.inr rfl) hqs] at h;exact h)
end Go.Proofs.YtnjggjhkfncnlaaGreatDoor
namespace Go.Proofs.YtnjggjhkfncnlaaGreatDoor
set_option maxRecDepth 100000
set_option maxHeartbeats 16000000
def jZ:aV:=⟨⟨#[117,110,102]⟩,1,[0],[⟨[3],1⟩],[],[]⟩
theorem Kv:ab Tryz.prog 30 [] (fun u=>u= .agg [.str ⟨#[117,110,102]⟩, .int .i64 1, .sl 0 an [0], .sl bP gz [⟨[3],1⟩], .nilsl, .nilsl]):=by
 refine ab.intro ac ag Tryz.func30 rfl (by decide) ?_;(conv=>whnf)
 repeat' first
  |exact⟨rfl,rfl⟩
  |(refine bw 0 an [0] rfl ?_;conv=>whnf)
  |(refine bw 0 an [3] rfl ?_;conv=>whnf)
  |(refine bw bP gz [⟨[3],1⟩] rfl ?_;conv=>whnf)
  |(refine cb ?_;conv=>whnf)
  |fail
def Kw:bp:=⟨⟨#[114,49]⟩,1,1,2,0,0,[],[],[],[],-1,-1,[0],0,[],[],[],0⟩
def Jt:bp:=⟨⟨#[114,50]⟩,1,0,2,0,0,[],[⟨0,1,⟨1,0,1,0⟩⟩],[],[],-1,-1,[0],0,[],[],[],0⟩
def Ju:bp:=⟨⟨#[114,51]⟩,1,2,3,0,0,[],[⟨0,1,⟨0,1,-1,0⟩⟩],[],[],-1,-1,[],0,[],[],[],0⟩
def d9:au:=⟨⟨#[115,116]⟩,1,[⟨#[118,48]⟩,⟨#[118,49]⟩,⟨#[115,101]⟩,⟨#[97,99]⟩],[⟨#[101,99,104,111]⟩],[],3,[⟨-1,1,-3,0⟩,⟨0,0,1,-1⟩],[0,1],[],[Kw,Jt,Ju]⟩
theorem Jv:ab Tryz.prog 29 [] (fun u=>u= .agg [.str ⟨#[115,116]⟩, .int .i64 1, .sl t0 dX d9.states, .sl t0 dX d9.messages, .nilsl, .int .i64 3, .sl dc bM d9.resilience, .sl 0 an [0,1], .nilsl, .sl ar dF d9.rules]):=by
 refine ab.intro ac ag Tryz.func29 rfl (by decide) ?_;(conv=>whnf)
 repeat' first
  |exact⟨rfl,rfl⟩
  |(refine bw t0 dX d9.states rfl ?_;conv=>whnf)
  |(refine bw t0 dX d9.messages rfl ?_;conv=>whnf)
  |(refine bw dc bM d9.resilience rfl ?_;conv=>whnf)
  |(refine bw aE bT Jt.guards rfl ?_;conv=>whnf)
  |(refine bw aE bT Ju.guards rfl ?_;conv=>whnf)
  |(refine bw ar dF d9.rules rfl ?_;conv=>whnf)
  |(refine Ix ar dF d9.rules ?_ ?_;conv=>whnf)
  |(refine cb ?_;conv=>whnf)
  |fail
 all_goals
  repeat' (first|exact True.intro|(refine And.intro ?_ ?_)|exact .inl rfl|exact .inr ⟨rfl,_,_,_,rfl⟩)
theorem mQ:cV d9 jZ=0:=by decide+kernel
theorem Fv:(tc d9).length=5:=by decide+kernel
theorem De:(ao d9 jZ []).length=5:=by decide+kernel
theorem Df:(ao d9 jZ [0]).length=7:=by decide+kernel
theorem Dg:(ip d9 jZ [0] 0).length=17:=by decide+kernel
theorem Fw:jY d9.rules d9.states.length=[1,0,2]:=by decide+kernel
theorem HM:cM (aA d9.rules).length [0]:=by decide+kernel
theorem HN:cM (aA d9.rules).length []:=by decide+kernel
theorem ab.tell {P:Program} {f:FuncId} {args:List AV} {u0 u1:AV} (n m:Nat) (h:ab P f args (fun u=>u=u0)) (ha:jr [] n u0 u1) (hp:cJ m u1=true):ab P f args (fun u=>u=u1):=by
 rw[dj] at*
 refine⟨h.1,fun S F vs w h0 h1 h2 h3 hv=>(h.2 S F vs w h0 h1 h2 h3 hv).mono ?_⟩
 rintro e w' ⟨v,u,S',a,rfl,b,c,d,e2,hr,hw⟩
 exact⟨v,u1,S',a,rfl,b,c,d,e2,ki m hp ((km (S:=S') (ρ:=fun _=>none) n).1 _ _ v ha (.p hr)),hw⟩
theorem Jw:ab Tryz.prog 29 [] (fun u=>u= .agg (aO d9)):=ab.tell 400 5 Jv (aa) rfl
theorem Kx:ab Tryz.prog 30 [] (fun u=>u= .agg (fg jZ)):=ab.tell 400 5 Kv (aa) rfl
theorem qk:gM d9:=by
 refine⟨by decide+kernel,fun j hj=>?_,by unfold uQ;decide+kernel,by unfold uQ;decide+kernel,by unfold uQ;decide+kernel⟩
 have h3:d9.rules.length=3:=rfl
 obtain rfl|rfl|rfl:j=0\/j=1\/j=2:=by omega
 all_goals
  unfold D2
  decide+kernel
theorem ql:qP jZ:=by
 refine⟨by decide+kernel,?_⟩
 decide+kernel
theorem Jx:ab Tryz.prog 9 [] (fun u=>u= .bool true):=by
 have hE:=Jw
 have hU:=Kx
 have h1:=CT d9 jZ qk ql
 rw[CP mQ] at h1
 have h2:=xi d9 jZ qk ql [] (by simp)
 rw[Ho,if_neg (by rw[mQ];omega),if_neg (fun h=>h HN)] at h2
 have h2:ab Tryz.prog 32 [.agg (aO d9), .agg (fg jZ), .nilsl] (fun u=>u= .tup [.sl cm dJ (ao d9 jZ []), .int .i64 0]):=h2.weak fun S vs hv=>by
  obtain⟨v,vs',rfl,a1,a2⟩:=hv.cons_inv
  obtain⟨v2,vs2,rfl,b1,b2⟩:=a2.cons_inv
  obtain⟨v3,vs3,rfl,c1,c2⟩:=b2.cons_inv
  exact ir.cons a1 (ir.cons b1 (ir.cons (vC 0 an v3 c1) c2))
 have hr:(dq d9 jZ [0] 0).length=17:=by unfold dq;rw[List.length_map];exact Dg
 have h3:=HC d9 jZ qk ql [0] (by simp) 0
 rw[qi,if_neg (by rw[mQ];omega),if_neg (by
  have:(ta d9 jZ:Int)=1:=by decide+kernel
  rintro(h|h|h)
  ·exact h HM
  ·omega
  ·omega),Df] at h3
 have h4:=Hs d9 jZ qk ql
 rw[Hr,if_neg (by rw[mQ];omega),Fw] at h4
 have h5:=Hm d9 jZ qk ql
 rw[mQ] at h5
 have hl:=Fv
 have hv:=De
 have h6:=jk [1,0,2] (by simp)
 generalize tc d9=SL at*
 generalize ao d9 jZ []=VL at*
 generalize dq d9 jZ [0] 0=RB at*
 generalize d9=p at*
 generalize jZ=q at*
 refine ab.intro ac ag Tryz.func9 rfl (by decide) ?_;(conv=>whnf)
 (refine oP (hE) ?_;conv=>whnf)
 (refine oP (hU) ?_;conv=>whnf)
 (refine oP (h1) ?_;conv=>whnf)
 (refine oP (h2) ?_;conv=>whnf)
 refine ak.hand 28 rfl ?_
 (refine oP (h3) ?_;conv=>whnf)
 (refine oP (h4) ?_;conv=>whnf)
 repeat' ((first|refine nI ?_|refine aI ?_|refine tI ?_|refine fI ?_|fail);conv=>whnf)
 refine ak.hand 75 rfl ?_
 (refine oP (h6) ?_;conv=>whnf)
 (refine oP (h5) ?_;conv=>whnf)
 repeat' ((first|refine nI ?_|refine aI ?_|refine tI ?_|refine fI ?_|fail);conv=>whnf)
 exact⟨rfl,rfl⟩
end Go.Proofs.YtnjggjhkfncnlaaGreatDoor
namespace Go.Proofs.YtnjggjhkfncnlaaGreatDoor
open Go.ChangeShapes Go.WideShapes Go.ChangeAt Go.RowKit
theorem HO:pD Tryz.prog 9 24=some (gn .nil):=by kernel_rfl
theorem Fx:qW Tryz.prog 9 24=true:=by kernel_rfl
theorem Fy {S:ai} {v:Value} (y:fT (gn .nil)) (h:ir S [v] (ce (gn .nil) y)):RP S v (.sl 0 an (jH y.1)):=by
 obtain⟨l,⟨⟩⟩:=y
 obtain⟨x,xs,e,hr,_⟩:=h.cons_inv
 injection e with e1 _
 subst e1
 exact Cv.ints l v hr
end Go.Proofs.YtnjggjhkfncnlaaGreatDoor
