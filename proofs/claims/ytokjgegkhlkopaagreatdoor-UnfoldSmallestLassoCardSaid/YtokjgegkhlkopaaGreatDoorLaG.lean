import Derived.Test.YtokjgegkhlkopaaGreatDoorLaF
set_option linter.unusedVariables false
set_option linter.unusedSimpArgs false
namespace Go.Proofs.YtokjgegkhlkopaaGreatDoor
set_option maxRecDepth 100000
set_option maxHeartbeats 16000000
def C7 (o:Oper):Oper:=match o.op with
 |.insert t m k x=>{o with op:=.mapUpdate t m k x}
 |_=>o
section
variable {P:Program} {tt:TT} {D:List Nat} {M:ai}
theorem sK {ops:Array Oper} {Q:Exit->Act->World->Prop}:∀(l:List Oper) (a:Act) (w:World),wpList P ops Q (l.map C7) a w->wpList P ops Q l a w
 |[],_,_,h=>h
 |o::l,a,w,h=>by
  have ih:=fun a w=>sK (ops:=ops) (Q:=Q) l a w
  rw[List.map_cons] at h
  have e:∀(K:Act->World->Prop),(C7 o).wp P a w K Q->o.wp P a w K Q:=by
   intro K hk
   obtain⟨dst,op,ty,ps,af,gd⟩:=o
   cases op<;>exact hk
  have e1:Region.wanted (C7 o) (yielded ops a.tmps)=Region.wanted o (yielded ops a.tmps):=by
   obtain⟨dst,op,ty,ps,af,gd⟩:=o
   cases op<;>rfl
  have e2:(C7 o).dst=o.dst:=by
   obtain⟨dst,op,ty,ps,af,gd⟩:=o
   cases op<;>rfl
  unfold wpList at h⊢
  rw[e1,e2] at h
  split
  ·rename_i hw
   rw[if_pos hw] at h
   rcases h with h|h
   ·exact .inl (Oper.wp_mono ih (e _ h))
   ·refine .inr ⟨?_,h.2⟩
    have h:=h.1
    obtain⟨dst,op,ty,ps,af,gd⟩:=o
    cases op<;>exact h
  ·rename_i hw
   rw[if_neg hw] at h
   exact ih _ _ h
theorem aE.regU (hT:aW P tt=true) {id:Nat} {ops:Array Oper} {fr:List AV} {Q:bR} (h:fW P tt none ops.toList (ops.toList.map C7) fr M (Q .normal)):aE P D (.region id ops false) fr M Q:=by
 rw[cp]
 intro S F ρ0 ρ a w h0 h1 hM hF
 have e:ops=ops.toList.toArray:=by simp
 rw[e]
 refine wp_region_lit (sK _ _ _ ?_)
 exact u5 hT (ops.toList.map C7) S ρ w a fr M h hM hF fun a' w' ⟨f,M',S',ρ',k,k1,k2,k3⟩=>⟨.normal,rfl,f,M',S',ρ',k,k1,aw.le_trans h1 k2,k3⟩
end
theorem v9 {P:Program} {tt:TT} {ops:List Oper} {fr:List AV} {M:ai} {K:List AV->ai->Prop} (qs:List Nat) (hqs:qs.all (FG ops)=true) (h:pH P tt none ops qs K ops.length [] fr M):g7 P tt ops fr M K:=
 LY (by rw[ye hqs] at h;exact h)
theorem pj:mB Tryz.prog 3 (Value.int .i64):=by
 refine mB.now Tryz.underlying3 (fun a b h=>by cases h;rfl) ?_ ?_ ?_
 ·intro e k w
  have h4:∀n,(Instr.checkKey e (n+1) 3 (Value.int .i64 k)).run Tryz.prog w= .ok () w:=fun n=>by
   simp[Instr.checkKey,run_underlying Tryz.underlying3]
  exact h4 9999
 ·intro a b
  refine⟨decide (a=b),?_,?_⟩
  ·simp only[Instr.sameNow,Option.some.injEq]
   by_cases e:a=b<;>simp[e]
  ·simp
 ·intro k
  have h4:∀n,Instr.sameBits (n+1) (Value.int .i64 k) (Value.int .i64 k)=true:=fun n=>by simp[Instr.sameBits]
  exact h4 9999
def NU (x:aQ):Value:=.agg #[.int .i64 x.rule, .int .i64 x.process, .int .i64 x.partner]
def Gd (es:List (List gP)) (i:Nat) (x:aQ) (j:Nat):Prop:=(⟨(j:Int),x⟩:gP)∈es.getD i []
section
variable {p:ao} {q:bn} {s:az} {y:iV} {es:List (List gP)} {t:TS}
theorem yJ.gph (h:yJ p q s y es t):ym p q s (fun i=>i<es.length) (fun i=>(bu y.1 i).c) (Gd es):=by
 have:=h.x.gph h.l
 rw[<-h.l] at this
 exact this
theorem yJ.ha (h:yJ p q s y es t):∀x,x<es.length->t.pt x≠none:=fun x hx=>(h.t.v x).1 hx
theorem yJ.kp (h:yJ p q s y es t):KP (fun i=>i<es.length) (fun a b=>∃x,Gd es a x b) t.inn.length t.pt:=by
 refine F1.kp h.t.g h.t.v fun i j _=>⟨?_,fun hj=>?_⟩
 ·rintro⟨x,hx⟩
  exact List.mem_map.2 ⟨_,hx,tN j⟩
 ·obtain⟨e,he,rfl⟩:=List.mem_map.1 hj
  obtain⟨j,e1,_⟩:=h.ok.e i e he
  refine⟨e.stp,?_⟩
  show(⟨((e.to.toNat:Nat):Int),e.stp⟩:gP)∈es.getD i []
  have:(⟨((e.to.toNat:Nat):Int),e.stp⟩:gP)=e:=by
   obtain⟨a,b⟩:=e
   have e1:a=(j:Int):=e1
   rw[e1];rfl
  rw[this];exact he
def MY (es:List (List gP)) (i k:Nat) (x:aQ) (j:Nat):Prop:=∃m,m<k/\(es.getD i []).getD m gW=⟨(j:Int),x⟩
structure It (es:List (List gP)) (t:TS) (a:Nat) (fd:List Nat) (F:Int->Option Int) (B:Int->Option aQ) (h:Nat) (D:aQ->Nat->Prop) (w:List Int) (lo:Nat):Prop where
 b:tk (Gd es) t.pt a fd F B h D
 lt:∀x∈fd,x<es.length
 q:w.drop lo=bM (fd.drop h)
 lo:lo<=w.length
 n:w.length<=fd.length
theorem It.le {a fd F B h D w lo} (I:It es t a fd F B h D w lo):fd.length<=es.length:=by
 have:=List.Nodup.length_le_of_subset I.b.nd (l₂:=List.range es.length) fun x hx=>List.mem_range.2 (I.lt x hx)
 rw[List.length_range] at this
 exact this
theorem It.qlen {a fd F B h D w lo} (I:It es t a fd F B h D w lo):w.length-lo=fd.length-h:=by
 have:=congrArg List.length I.q
 rw[List.length_drop,eL,List.length_drop] at this
 exact this
theorem iz (l:List Nat) (x:Nat):bM (l++[x])=bM l++[(x:Int)]:=by simp[bM]
theorem C8 (l:List Nat) (k:Nat):bM (l.drop k)=(bM l).drop k:=by unfold bM;rw[List.map_drop]
abbrev Oz:=List Nat×(Int->Option Int)×(Int->Option aQ)×Nat×List Int×Nat
def OA (F:Int->Option Int) (B:Int->Option aQ) (w:List Int):List (Nat×aX):=[(20, .map (Value.int .i64) (Value.int .i64) F),(24, .map (Value.int .i64) NU B),(1000,bG w)]
theorem Ge (h:yJ p q s y es t) (a b:Nat) (ha:a<es.length) (hb:b<es.length) (hp:t.pt b=t.pt a):
  ae Tryz.prog 44 [.pd (Nn p s y.1 es t), .int .i64 (a:Int), .int .i64 (b:Int)] (fun u=>∃l,Gw p q s (bu y.1 a).c l (bu y.1 b).c/\l.length<=4000/\u= .sl aR cH l):=by
 refine ae.sub (R:=fun u=>(∃l,Gw p q s (bu y.1 a).c l (bu y.1 b).c/\l.length<=4000/\u= .sl aR cH l)\/(a=b/\u= .nilsl)) ?_ ?_
 case refine_2=>
  rintro u (⟨l,h1,h2,rfl⟩|⟨rfl,rfl⟩)
  ·exact⟨_,⟨l,h1,h2,rfl⟩,rfl,rfl⟩
  ·exact⟨_,⟨[], .nil _,Nat.zero_le _,rfl⟩,rfl,rfl⟩
 have hes:=h.ok
 have hn:=hes.n
 have hpl:=sy es.length t.pt
 have G:=h.gph
 have hall:=fun(fd F B D) (I:tk (Gd es) t.pt a fd F B fd.length D)=>I.all G h.kp h.ha ha hb hp
 refine ae.endD ?_
 refine an.introW ab [] Tryz.func44 rfl (by decide) ?_
 dsimp only[mv,List.append,List.length,Nat.sub]
 refine aE.seqC ab ac ?_
 conv=>whnf
 refine aE.seqC ab ac ?_
 conv=>whnf
 refine ah ?_ ?_<;>(intro g0;conv=>whnf)
 ·exact⟨[],5, .inr ⟨by omega,rfl⟩⟩
 refine aE.seqW (aE.regU ab ?_)
 conv=>whnf
 refine GQ (Value.int .i64) (Value.int .i64) ?_
 conv=>whnf
 refine GR pj (a:Int) (a:Int) rfl rfl ?_
 conv=>whnf
 refine aE.seqC ab ac ?_
 conv=>whnf
 refine GQ (Value.int .i64) NU ?_
 conv=>whnf
 refine aZ ab ac _ _ _ _ ?_
 conv=>whnf
 refine aE.loopF ab ac (fun z:Oz=>It es t a z.1 z.2.1 z.2.2.1 z.2.2.2.1 (fun _ _=>False) z.2.2.2.2.1 z.2.2.2.2.2) (fun z=>[(26, .top),(9, .part 1000 z.2.2.2.2.2 (z.2.2.2.2.1.length-z.2.2.2.2.2) 1)]) (fun z=>OA z.2.1 z.2.2.1 z.2.2.2.2.1) (fun z=>4001-z.2.2.2.1) ([a],fJ (fun _=>none) (a:Int) (a:Int),fun _=>none,0,[(a:Int)],0) ⟨tk.zero a,fun x hx=>by rw[List.mem_singleton.1 hx];exact ha,rfl,Nat.zero_le _,Nat.le_refl _⟩ ?_;conv=>whnf
 refine⟨aM.by_ [(20, .old 20),(24, .old 24),(1000, .old 26)] _ 400 rfl (aa) (aa),?_⟩
 rintro⟨fd,F,B,hd,w,lo⟩ hI
 dsimp only at hI⊢
 have hfl:=hI.le
 have hql:=hI.qlen
 have hlo:=hI.lo
 have hwn:=hI.n
 have hbl:=hI.b.le
 conv=>whnf
 refine ah ?_ ?_<;>(intro g1;conv=>whnf)
 ·have hhl:hd<fd.length:=by omega
  obtain⟨i,hi⟩:∃i,fd.getD hd 0=i:=⟨_,rfl⟩
  have hin:i<es.length:=hI.lt i (by rw[<-hi];exact dX hhl)
  have hat:w.getD (lo+0) 0=(i:Int):=by
   have e1:(w.drop lo).getD 0 0=w.getD (lo+0) 0:=by rw[gD,List.getElem?_drop,gD]
   rw[<-e1,hI.q,js,<-hi]
   rw[gD,List.getElem?_drop,gD,Nat.add_zero]
  have hdl:=hes.l i
  have hei:=hes.e i
  refine nI ?_
  conv=>whnf
  rw[show(0:Int).toNat=0 from rfl,hat]
  conv=>whnf
  refine nI ?_
  rw[tN]
  conv=>whnf
  refine aE.loopF ab ac (fun z:Oz=>z.1.length<=es.length/\z.2.2.2.1<=(es.getD i []).length/\It es t a z.1 z.2.1 z.2.2.1 hd (MY es i z.2.2.2.1) z.2.2.2.2.1 z.2.2.2.2.2/\z.1.getD hd 0=i/\hd<z.1.length) (fun z=>[(9, .part 1000 z.2.2.2.2.2 (z.2.2.2.2.1.length-z.2.2.2.2.2) 1),(12, .top),(27, .top),(30, .top),(31, .top),(32, .top),(33, .top),(43, .int .i64 (z.2.2.2.1:Int))]) (fun z=>OA z.2.1 z.2.2.1 z.2.2.2.2.1) (fun z=>(es.getD i []).length-z.2.2.2.1) (fd,F,B,0,w,lo) ⟨hfl,Nat.zero_le _,⟨hI.b.weak fun _ _ ⟨m,hm,_⟩=>absurd hm (Nat.not_lt_zero _),hI.lt,hI.q,hI.lo,hI.n⟩,hi,hhl⟩ ?_;conv=>whnf
  refine⟨aM.by_ [(20, .old 20),(24, .old 24),(1000, .old 1000)] _ 400 rfl (aa) (aa),?_⟩
  clear hI hfl hql hlo hwn hbl hi hhl hat g1
  rintro⟨fd,F,B,k,w,lo⟩ ⟨hfl,hk,hI,hi,hhl⟩
  dsimp only at hfl hk hI hi hhl⊢
  have hql:=hI.qlen
  have hlo:=hI.lo
  have hwn:=hI.n
  conv=>whnf
  refine ah ?_ ?_<;>(intro g3;conv=>whnf)
  ·have hml:k<(es.getD i []).length:=by omega
   obtain⟨z,x,hyx,hyn⟩:∃(z:Nat) (x:aQ),(es.getD i []).getD k gW=⟨(z:Int),x⟩/\z<es.length:=by
    obtain⟨z,h1,h2⟩:=hei _ (aG gW hml)
    refine⟨z,((es.getD i []).getD k gW).stp,?_,h2⟩
    rw[<-h1]
   have hed:Gd es (fd.getD hd 0) x z:=by
    rw[hi]
    show(⟨(z:Int),x⟩:gP)∈es.getD i []
    rw[<-hyx];exact aG gW hml
   have hpi:=yp hyn ha t.pt
   have hdn:∀(D:aQ->Nat->Prop),(∀x' y',MY es i k x' y'->D x' y')->D x z->∀x' y',MY es i (k+1) x' y'->D x' y':=by
    rintro D h1 h2 x' y' ⟨m,hm,e⟩
    by_cases e2:m=k
    ·subst e2
     rw[hyx] at e
     cases e
     exact h2
    ·exact h1 _ _ ⟨m,by omega,e⟩
   have hold:(F (z:Int)≠none\/t.pt z≠t.pt a)->It es t a fd F B hd (MY es i (k+1)) w lo:=fun hno=>
    ⟨(hI.b.old (x:=x) hno).weak (hdn _ (fun _ _ h=>.inl h) (.inr ⟨rfl,rfl⟩)),hI.lt,hI.q,hI.lo,hI.n⟩
   refine nI ?_
   rw[tN,hyx]
   conv=>whnf
   refine Aj pj (z:Int) rfl (fun b0 hb0=>?_) (fun hno=>?_)
   ·have h1:=hold (.inl (by rw[hb0];exact fun h=>nomatch h))
    conv=>whnf
    refine dI ?_
    conv=>whnf
    repeat' ((first|refine nI ?_|refine aI ?_|refine tI ?_|refine fI ?_|fail);conv=>whnf)
    refine⟨(fd,F,B,k+1,w,lo),aM.by_ [(20, .old 20),(24, .old 24),(1000, .old 1000)] _ 400 rfl (aa) (aa),⟨hfl,by dsimp only;omega,h1,hi,hhl⟩,by dsimp only;omega⟩
   ·conv=>whnf
    refine dI ?_
    conv=>whnf
    refine nI ?_
    rw[tN]
    conv=>whnf
    refine nI ?_
    rw[tN]
    conv=>whnf
    refine ah ?_ ?_<;>(intro g4;conv=>whnf)
    ·have hb1:=hI.b.add hhl hed hno (hpi.1 g4)
     rw[hi] at hb1
     have hpos:0<w.length-lo/\lo+(w.length-lo)=w.length:=by omega
     have hq1:(w++[(z:Int)]).drop lo=bM ((fd++[z]).drop hd):=by
      rw[List.drop_append_of_le_length hlo,hI.q,List.drop_append_of_le_length (by omega),iz]
     have hq2:(w.drop lo++[(z:Int)]).drop 0=bM ((fd++[z]).drop hd):=by
      rw[List.drop_zero,hI.q,List.drop_append_of_le_length (by omega),iz]
     have hm1:∀w' lo',w'.drop lo'=bM ((fd++[z]).drop hd)->lo'<=w'.length->w'.length<=fd.length+1->It es t a (fd++[z]) (fJ F (z:Int) (i:Int)) (fJ B (z:Int) x) hd (MY es i (k+1)) w' lo':=fun w' lo' h1 h2 h3=>
      ⟨hb1.weak (hdn _ (fun _ _ h=>.inl h) (.inr rfl)),fun c hc=>by
       rcases List.mem_append.1 hc with hc|hc
       ·exact hI.lt c hc
       ·rw[List.mem_singleton.1 hc];exact hyn,h1,h2,by rw[List.length_append];exact h3⟩
     have h1:=hm1 _ _ hq1 (by rw[List.length_append];omega) (by rw[List.length_append,List.length_singleton];omega)
     have h2:=hm1 _ _ hq2 (Nat.zero_le _) (by rw[List.length_append,List.length_drop,List.length_singleton];omega)
     have hi':(fd++[z]).getD hd 0=i:=by rw[gu hhl];exact hi
     have hfl':(fd++[z]).length<=es.length:=(h1.le)
     have hhl':hd<(fd++[z]).length:=by rw[List.length_append];omega
     have e1:(w++[(z:Int)]).length-lo=w.length-lo+1:=by rw[List.length_append,List.length_singleton];omega
     have e2:(w.drop lo++[(z:Int)]).length-0=w.length-lo+1:=by rw[List.length_append,List.length_drop,List.length_singleton];omega
     clear hm1 hb1 hq1 hq2
     refine v9 [0,1,3,4,6,7] (by decide+kernel) ?_
     conv=>whnf
     repeat' first
      |exact True.intro
      |(refine GR pj (z:Int) (i:Int) rfl rfl ?_;conv=>whnf)
      |(refine GR pj (z:Int) x rfl rfl ?_;conv=>whnf)
      |(refine d7 hpos ?_;conv=>whnf)
      |(refine cB [(z:Int)] rfl (by dsimp only[List.length];omega) ⟨?_,?_⟩
        ·conv=>whnf
         repeat' ((first|refine nI ?_|refine aI ?_|refine tI ?_|refine fI ?_|fail);conv=>whnf)
         refine⟨(fd++[z],fJ F (z:Int) (i:Int),fJ B (z:Int) x,k+1,w++[(z:Int)],lo),?_,⟨hfl',by dsimp only;omega,h1,hi',hhl'⟩,by dsimp only;omega⟩
         dsimp only
         rw[e1]
         exact aM.by_ [(20, .old 20),(24, .old 24),(1000, .old 87)] _ 400 rfl (aa) (aa)
        ·conv=>whnf
         repeat' ((first|refine nI ?_|refine aI ?_|refine tI ?_|refine fI ?_|fail);conv=>whnf)
         refine⟨(fd++[z],fJ F (z:Int) (i:Int),fJ B (z:Int) x,k+1,w.drop lo++[(z:Int)],0),?_,⟨hfl',by dsimp only;omega,h2,hi',hhl'⟩,by dsimp only;omega⟩
         dsimp only
         rw[e2]
         exact aM.by_ [(20, .old 20),(24, .old 24),(1000, .old 87)] _ 400 rfl (aa) (aa))
      |(refine And.intro ?_ ?_<;>conv=>whnf)
      |fail
    ·have h1:=hold (.inr fun h=>g4 (hpi.2 h))
     repeat' ((first|refine nI ?_|refine aI ?_|refine tI ?_|refine fI ?_|fail);conv=>whnf)
     refine⟨(fd,F,B,k+1,w,lo),aM.by_ [(20, .old 20),(24, .old 24),(1000, .old 1000)] _ 400 rfl (aa) (aa),⟨hfl,by dsimp only;omega,h1,hi,hhl⟩,by dsimp only;omega⟩
  ·obtain rfl:k=(es.getD i []).length:=by omega
   have hnx:It es t a fd F B (hd+1) (fun _ _=>False) w (lo+1):=by
    refine⟨hI.b.next hhl fun x' y' he=>?_,hI.lt,?_,by omega,hI.n⟩
    ·rw[hi] at he
     obtain⟨m,hm,e⟩:=bp gW he
     exact⟨m,hm,e⟩
    ·rw[<-List.drop_drop,hI.q,<-C8,List.drop_drop]
   refine nI ?_
   conv=>whnf
   repeat' ((first|refine nI ?_|refine aI ?_|refine tI ?_|refine fI ?_|fail);conv=>whnf)
   refine⟨(fd,F,B,hd+1,w,lo+1),?_,hnx,by dsimp only;omega⟩
   dsimp only
   rw[show w.length-(lo+1)=w.length-lo-1 by omega]
   exact aM.by_ [(20, .old 20),(24, .old 24),(1000, .old 1000)] _ 400 rfl (aa) (aa)
 ·obtain rfl:hd=fd.length:=by omega
  have hbm:=hall fd F B _ hI.b
  obtain⟨jb,hjb,ejb⟩:=j8 hbm
  have hV:∀x∈fd,x<es.length:=hI.lt
  have hIb:=hI.b
  clear hI hwn hql hlo hbl g1 hall
  refine aE.loopF ab ac (fun z:Nat×List aQ=>z.1<fd.length/\z.2.length+z.1<=fd.length/\Gw p q s (bu y.1 (fd.getD z.1 0)).c z.2 (bu y.1 b).c) (fun z=>[(9, .top),(15, .row 1001 z.2.length 3),(27, .top),(16, .int .i64 ((fd.getD z.1 0:Nat):Int))]) (fun z=>[(20, .map (Value.int .i64) (Value.int .i64) F),(24, .map (Value.int .i64) NU B),(1001, .row 83 aR cH z.2)]) (fun z=>z.1) (jb,[]) ⟨hjb,by simp only[List.length_nil];omega,by rw[ejb];exact .nil _⟩ ?_;conv=>whnf
  refine⟨?_,?_⟩
  ·dsimp only
   rw[ejb]
   exact aM.by_ [(20, .old 20),(24, .old 24),(1001, .nil 3)] _ 400 rfl (aa) (aa)
  rintro⟨j,l⟩ ⟨hj,hlj,hw⟩
  dsimp only at hj hlj hw⊢
  conv=>whnf
  refine ah ?_ ?_<;>(intro g3;conv=>whnf)
  ·obtain⟨i,x,h1,h2,h3,h4⟩:=hIb.back G hV hj (fun e=>g3 (by rw[e])) hw
   refine Aj pj ((fd.getD j 0:Nat):Int) rfl (fun b0 hb0=>?_) (fun hno=>by rw[h3] at hno;cases hno)
   obtain rfl:x=b0:=by rw[h3] at hb0;exact Option.some.inj hb0
   conv=>whnf
   refine cA aR cH [x] rfl ?_
   conv=>whnf
   refine cB l rfl (by dsimp only[List.length];omega) ?_
   conv=>whnf
   refine Aj pj ((fd.getD j 0:Nat):Int) rfl (fun b1 hb1=>?_) (fun hno=>by rw[h2] at hno;cases hno)
   obtain rfl:((fd.getD i 0:Nat):Int)=b1:=by rw[h2] at hb1;exact Option.some.inj hb1
   conv=>whnf
   repeat' ((first|refine nI ?_|refine aI ?_|refine tI ?_|refine fI ?_|fail);conv=>whnf)
   refine⟨(i,x::l),?_,⟨by dsimp only;omega,by dsimp only[List.length_cons];omega,h4⟩,by dsimp only;omega⟩
   exact aM.by_ [(20, .old 20),(24, .old 24),(1001, .old 101)] _ 400 rfl (aa) (aa)
  ·obtain e:fd.getD j 0=a:=by omega
   rw[e] at hw
   exact⟨[1001],5, .inl ⟨l,hw,by omega,rfl⟩⟩
end
end Go.Proofs.YtokjgegkhlkopaaGreatDoor
