import Derived.Test.YtnjggjhkfncnlaaGreatDoorFwJ
set_option linter.unusedVariables false
set_option linter.unusedSimpArgs false
namespace Go.Proofs.YtnjggjhkfncnlaaGreatDoor
set_option maxRecDepth 100000
set_option maxHeartbeats 16000000
def CO (p:au) (q:aV):AV:=if cV p q=0 then .tup [.sl [] zn (tc p), .int .i64 0] else .tup [.nilsl, .int .i64 (cV p q)]
theorem Ht {p:au} {q:aV} (h:cV p q≠0):CO p q= .tup [.nilsl, .int .i64 (cV p q)]:=by unfold CO;rw[if_neg h]
theorem CP {p:au} {q:aV} (h:cV p q=0):CO p q= .tup [.sl [] zn (tc p), .int .i64 0]:=by unfold CO;rw[if_pos h]
theorem CQ (k:Nat):cM k []:=fun i hi=>absurd hi (Nat.not_lt_zero _)
theorem Hu {k m:Nat} (hk:k<=3) (hm:m<=3):(k+1)^m<=64:=by
 have a:(k+1)^m<=4^m:=Nat.pow_le_pow_left (by omega) m
 have b:4^m<=4^3:=Nat.pow_le_pow_right (by omega) hm
 omega
theorem vC {S:ai} {α:Type} (d:α) (enc:α->List AV) (v:Value) (h:RP S v .nilsl):RP S v (.sl d enc []):=by
 cases h
 exact .sl d enc [] none 0 1 (fun _ _=>.int .i64 0) (by simp) (by simp) (by simp) (fun i j hi=>by simp at hi) (by simp) (fun i a j u hi=>by simp at hi)
theorem ab.weak {P:Program} {f:FuncId} {args args':List AV} {R:AV->Prop} (h:ab P f args' R) (hw:∀S vs,ir S vs args->ir S vs args'):ab P f args R:=by
 rw[dj] at*
 exact⟨h.1,fun S F vs w h1 h2 h3 h4 hv=>h.2 S F vs w h1 h2 h3 h4 (hw S vs hv)⟩
def K2 (l:List Int) (u:AV):Prop:=(l=[]/\u= .nilsl)\/(l≠[]/\u= .sl 0 an l)
theorem zW {l:List Int} {u:AV} (h:K2 l u) (s:Int) (hl:l.length<=4503599627370496):ab Tryz.prog 20 [u, .int .i64 s] (fun u=>u= .bool (decide (s∈l))):=by
 rcases h with ⟨rfl,rfl⟩|⟨_,rfl⟩
 ·exact(bV [] s (by simp)).weak fun S vs hv=>by
   obtain⟨v,vs',rfl,h1,h2⟩:=hv.cons_inv
   exact ir.cons (vC 0 an v h1) h2
 ·exact bV l s hl
theorem Hv (l:List Int) (hl:l.length<=1000) (h0:l≠[]):ak Tryz.prog 98 [.sl 0 an l] (aj.ofL []) (fun u M=>∃ℓ,u= .row ℓ l.length 1/\M ℓ=some (.row 3 0 an l)):=by
 refine ak.intro ac ag [] Tryz.func98 rfl (by decide) ?_
 conv=>whnf
 refine bI h0 ?_
 conv=>whnf
 refine bw 0 an [] rfl ?_
 conv=>whnf
 refine bD l rfl (by simp only[List.length_nil];omega) ?_
 conv=>whnf
 exact⟨7,congrArg (AV.row 7 · 1) (Nat.zero_add _),rfl⟩
theorem Hw:ab Tryz.prog 98 [.nilsl] (fun u=>u= .nilsl):=by
 refine ab.intro ac ag Tryz.func98 rfl (by decide) ?_;(conv=>whnf)
 conv=>whnf
 exact⟨rfl,rfl⟩
def Hx (p:au) (q:aV) (outs:List (List Int)):List (Nat×cn):=[(200, .box 86 [.row 201 outs.length 1]),(201,Bl outs),(202, .box 169 [.fn 161 [.ptr 200 0, .pd [.pd (ez p q)], .ptr 202 0]])]
def JT (p:au) (q:aV) (outs:List (List Int)):List (Nat×cn):=[(200, .box 86 [.row 204 outs.length 1]),(201, .dead),(204,Bl outs),(202, .box 169 [.fn 161 [.ptr 200 0, .pd [.pd (ez p q)], .ptr 202 0]])]
def Ke (p:au) (q:aV) (m:Nat):Prop:=∀(at_:List Int) (outs:List (List Int)),at_≠[]->m<=3->cM (aA p.rules).length at_->(aA p.rules).length-at_.length<=m->outs.length+((aA p.rules).length+1)^m<=1000000->
  ak Tryz.prog 161 [.sl 0 an at_, .ptr 200 0, .pd [.pd (ez p q)], .ptr 202 0] (aj.ofL (Hx p q outs)) (fun u M=>u= .tup []/\M=aj.ofL (JT p q (outs++tb (aA p.rules).length m at_)))
theorem KJ (p:au) (q:aV) (hk:(aA p.rules).length<=3) (m:Nat) (ih:0<m->Ke p q (m-1)):Ke p q m:=by
 intro at_ outs h0 hm hs hl hb
 have hal:=cH hs
 have eL:=yv hs hl
 have hx1:=fun i=>vB (aA p.rules).length m at_ i
 have hx2:=fun i=>yu (aA p.rules).length m at_ i
 have hx0:=rY (aA p.rules).length m at_ (outs++[at_])
 generalize hKd:(aA p.rules).length=k at*
 have hp1:1<=(k+1)^m:=Nat.pow_pos (by omega)
 refine ak.intro ac ag (Hx p q outs) Tryz.func161 rfl (by decide) ?_
 conv=>whnf
 refine bw [] zn [at_] rfl ?_
 conv=>whnf
 refine bD [at_] rfl lI ?_
 conv=>whnf
 refine aH.loopF ac ag (fun i:Nat=>i<=k) (fun i=>[(6, .top),(8, .top),(9, .top),(15, .int .i64 (i:Int))]) (fun i=>JT p q (outs++[at_]++ia k m at_ i)) (fun i=>k-i) 0 (Nat.zero_le _) ?_;conv=>whnf
 refine⟨by rw[hx0];exact aL.by_ [(200, .old 200),(201, .old 201),(204, .old 9),(202, .old 202)] _ 400 rfl (aa) (aa),?_⟩
 rintro i hi
 conv=>whnf
 refine ah ?_ ?_<;>(intro h1;conv=>whnf)
 ·have hik:i<k:=by omega
  have eu:=hx2 i
  refine dC (bV at_ (i:Int) (by omega)) (fun _=>?_) (fun _=>?_)<;>(conv=>whnf)
  ·rename_i hm2
   rw[if_pos hm2,List.append_nil] at eu
   repeat' ((first|refine nI ?_|refine aI ?_|refine tI ?_|refine fI ?_|fail);conv=>whnf)
   refine⟨i+1,?_,by omega,by dsimp only;omega⟩
   dsimp only
   rw[eu]
   exact aL.by_ [(200, .old 200),(201, .old 201),(204, .old 204),(202, .old 202)] _ 400 rfl (aa) (aa)
  ·rename_i hm2
   rw[if_neg hm2] at eu
   have hm0:0<m:=Nat.pos_of_ne_zero fun h0=>hm2 (qf hs (by omega) hik)
   have hx:(outs++[at_]++ia k m at_ i).length+(k+1)^(m-1)<=1000000:=by
    have a:=hx1 i
    obtain⟨n,rfl⟩:∃n,m=n+1:=⟨m-1,by omega⟩
    rw[Nat.add_sub_cancel] at a⊢
    rw[Nat.pow_succ] at hb
    have b:(i+1)*(k+1)^n<=k*(k+1)^n:=Nat.mul_le_mul_right _ (by omega)
    have c:1<=(k+1)^n:=Nat.pow_pos (by omega)
    simp only[List.length_append,List.length_cons,List.length_nil]
    rw[Nat.add_mul,Nat.one_mul] at b
    rw[Nat.mul_add,Nat.mul_one,Nat.mul_comm _ k] at hb
    omega
   have hc:=ih hm0 (at_++[(i:Int)]) (outs++[at_]++ia k m at_ i) (by simp) (by omega) (by rw[hKd];exact vz hs hik hm2) (by rw[hKd];simp only[List.length_append,List.length_cons,List.length_nil];omega) (by rw[hKd];exact hx)
   rw[hKd] at hc
   refine mn ?_
   conv=>whnf
   repeat' first
    |exact True.intro
    |(refine And.intro ?_ ?_<;>conv=>whnf)
    |(refine ak.fresh 24 (Hv at_ (by omega) h0) rfl (aa) ?_;conv=>whnf)
    |(refine bw 0 an [(i:Int)] rfl ?_;conv=>whnf)
    |(refine bD [(i:Int)] rfl lI ?_;conv=>whnf)
    |(refine cb ?_;conv=>whnf)
    |fail
   all_goals first
    |(refine ak.hand 27 rfl ?_
      refine ak.call [(200, .old 200),(201, .old 204),(202, .old 202)] (Hx p q (outs++[at_]++ia k m at_ i)) 400 rfl (aa) (aa) hc ?_
      rintro u M' ⟨rfl,rfl⟩
      refine⟨[(200, .old 200),(204, .old 201),(205, .old 204),(202, .old 202)],[(200, .box 86 [.row 205 (outs++[at_]++ia k m at_ i++tb k (m-1) (at_++[(i:Int)])).length 1]),(204, .dead),(205,Bl (outs++[at_]++ia k m at_ i++tb k (m-1) (at_++[(i:Int)]))),(202, .box 169 [.fn 161 [.ptr 200 0, .pd [.pd (ez p q)], .ptr 202 0]])], .tup [],rfl,(aa),trivial,?_⟩
      conv=>whnf
      repeat' ((first|refine nI ?_|refine aI ?_|refine tI ?_|refine fI ?_|fail);conv=>whnf)
      refine⟨i+1,?_,by omega,by dsimp only;omega⟩
      dsimp only
      rw[eu,<-List.append_assoc]
      exact aL.by_ [(200, .old 200),(201, .old 201),(204, .old 205),(202, .old 202)] _ 400 rfl (aa) (aa))
    |trace_state
 ·obtain rfl:i=k:=by omega
  have e:outs++tb i m at_=outs++[at_]++ia i m at_ i:=by rw[eL,List.append_assoc];rfl
  rw[e]
  exact⟨rfl,rfl⟩
theorem KK (p:au) (q:aV) (hk:(aA p.rules).length<=3):∀m,Ke p q m
 |0=>KJ p q hk 0 fun h=>absurd h (Nat.lt_irrefl _)
 |m+1=>KJ p q hk (m+1) fun _=>KK p q hk m
theorem Kf (p:au) (q:aV) (hk:(aA p.rules).length<=3):ak Tryz.prog 161 [.nilsl, .ptr 200 0, .pd [.pd (ez p q)], .ptr 202 0] (aj.ofL (Hx p q [])) (fun u M=>u= .tup []/\M=aj.ofL (JT p q (tc p))):=by
 have ih:=KK p q hk ((aA p.rules).length-1)
 have hz:=Hu (k:=(aA p.rules).length) (m:=(aA p.rules).length) hk hk
 obtain⟨m,hm',hm⟩:∃m,m=(aA p.rules).length/\m<=3:=⟨_,rfl,hk⟩
 obtain⟨outs,ho⟩:∃outs:List (List Int),outs=[]:=⟨_,rfl⟩
 obtain⟨at_,ha⟩:∃at_:List Int,at_=[]:=⟨_,rfl⟩
 have hs:cM (aA p.rules).length at_:=by rw[ha];exact CQ _
 have hl:(aA p.rules).length-at_.length<=m:=by omega
 have hb:outs.length+((aA p.rules).length+1)^m<=1000000:=by rw[ho,hm'];simp only[List.length_nil];omega
 have hF:tc p=outs++tb (aA p.rules).length m at_:=by rw[ho,ha,hm'];rfl
 rw[hF,<-ho]
 rw[<-hm'] at ih
 clear hF hz hm'
 have hal:=cH hs
 have eL:=yv hs hl
 have hx1:=fun i=>vB (aA p.rules).length m at_ i
 have hx2:=fun i=>yu (aA p.rules).length m at_ i
 have hx0:=rY (aA p.rules).length m at_ (outs++[at_])
 generalize hKd:(aA p.rules).length=k at*
 have hp1:1<=(k+1)^m:=Nat.pow_pos (by omega)
 refine ak.intro ac ag (Hx p q outs) Tryz.func161 rfl (by decide) ?_
 conv=>whnf
 refine Ix [] zn [at_] ⟨⟨.inr ⟨rfl,Int,0,an,by rw[ha]⟩,trivial⟩,trivial⟩ ?_
 conv=>whnf
 refine bD [at_] rfl lI ?_
 conv=>whnf
 refine aH.loopF ac ag (fun i:Nat=>i<=k) (fun i=>[(6, .top),(8, .top),(9, .top),(15, .int .i64 (i:Int))]) (fun i=>JT p q (outs++[at_]++ia k m at_ i)) (fun i=>k-i) 0 (Nat.zero_le _) ?_;conv=>whnf
 refine⟨by rw[hx0];exact aL.by_ [(200, .old 200),(201, .old 201),(204, .old 9),(202, .old 202)] _ 400 rfl (aa) (aa),?_⟩
 rintro i hi
 conv=>whnf
 refine ah ?_ ?_<;>(intro h1;conv=>whnf)
 ·have hik:i<k:=by omega
  have eu:=hx2 i
  refine dC (zW (.inl ⟨ha,rfl⟩) (i:Int) (by omega)) (fun _=>?_) (fun _=>?_)<;>(conv=>whnf)
  ·rename_i hm2
   rw[if_pos hm2,List.append_nil] at eu
   repeat' ((first|refine nI ?_|refine aI ?_|refine tI ?_|refine fI ?_|fail);conv=>whnf)
   refine⟨i+1,?_,by omega,by dsimp only;omega⟩
   dsimp only
   rw[eu]
   exact aL.by_ [(200, .old 200),(201, .old 201),(204, .old 204),(202, .old 202)] _ 400 rfl (aa) (aa)
  ·rename_i hm2
   rw[if_neg hm2] at eu
   have hm0:0<m:=Nat.pos_of_ne_zero fun h0=>hm2 (qf hs (by omega) hik)
   have hx:(outs++[at_]++ia k m at_ i).length+(k+1)^(m-1)<=1000000:=by
    have a:=hx1 i
    obtain⟨n,rfl⟩:∃n,m=n+1:=⟨m-1,by omega⟩
    rw[Nat.add_sub_cancel] at a⊢
    rw[Nat.pow_succ] at hb
    have b:(i+1)*(k+1)^n<=k*(k+1)^n:=Nat.mul_le_mul_right _ (by omega)
    have c:1<=(k+1)^n:=Nat.pow_pos (by omega)
    simp only[List.length_append,List.length_cons,List.length_nil]
    rw[Nat.add_mul,Nat.one_mul] at b
    rw[Nat.mul_add,Nat.mul_one,Nat.mul_comm _ k] at hb
    omega
   have hc:=ih (at_++[(i:Int)]) (outs++[at_]++ia k m at_ i) (by simp) (by omega) (by rw[hKd];exact vz hs hik hm2) (by rw[hKd];simp only[List.length_append,List.length_cons,List.length_nil];omega) (by rw[hKd];exact hx)
   rw[hKd] at hc
   have hq:at_++[(i:Int)]=[(i:Int)]:=by rw[ha];rfl
   rw[hq] at hc eu
   refine mn ?_
   conv=>whnf
   repeat' first
    |exact True.intro
    |(refine And.intro ?_ ?_<;>conv=>whnf)
    |(refine ak.of_pure (n:=5) Hw (by rfl) ?_;rintro u rfl;conv=>whnf)
    |(refine bw 0 an [(i:Int)] rfl ?_;conv=>whnf)
    |(refine bD [(i:Int)] rfl lI ?_;conv=>whnf)
    |(refine cb ?_;conv=>whnf)
    |(refine bI (show 1*8<=140737488355328 by omega) ?_;conv=>whnf)
    |fail
   all_goals first
    |(refine ak.hand 27 rfl ?_
      refine ak.call [(200, .old 200),(201, .old 204),(202, .old 202)] (Hx p q (outs++[at_]++ia k m at_ i)) 400 rfl (aa) (aa) hc ?_
      rintro u M' ⟨rfl,rfl⟩
      refine⟨[(200, .old 200),(204, .old 201),(205, .old 204),(202, .old 202)],[(200, .box 86 [.row 205 (outs++[at_]++ia k m at_ i++tb k (m-1) [(i:Int)]).length 1]),(204, .dead),(205,Bl (outs++[at_]++ia k m at_ i++tb k (m-1) [(i:Int)])),(202, .box 169 [.fn 161 [.ptr 200 0, .pd [.pd (ez p q)], .ptr 202 0]])], .tup [],rfl,(aa),trivial,?_⟩
      conv=>whnf
      repeat' ((first|refine nI ?_|refine aI ?_|refine tI ?_|refine fI ?_|fail);conv=>whnf)
      refine⟨i+1,?_,by omega,by dsimp only;omega⟩
      dsimp only
      rw[eu,<-List.append_assoc]
      exact aL.by_ [(200, .old 200),(201, .old 201),(204, .old 205),(202, .old 202)] _ 400 rfl (aa) (aa))
    |trace_state
 ·obtain rfl:i=k:=by omega
  have e:outs++tb i m at_=outs++[at_]++ia i m at_ i:=by rw[eL,List.append_assoc];rfl
  rw[e]
  exact⟨rfl,rfl⟩
theorem CS (p:au) (q:aV) (hk:(aA p.rules).length<=3):ab Tryz.prog 85 [.pd (ez p q)] (fun u=>u= .sl [] zn (tc p)):=by
 refine ab.intro ac ag Tryz.func85 rfl (by decide) ?_;(conv=>whnf)
 refine al rfl ?_
 conv=>whnf
 refine ak.call [(200, .old 3),(201, .nil 1),(202, .old 4)] (Hx p q []) 400 rfl (aa) (aa) (Kf p q hk) ?_
 rintro u M' ⟨rfl,rfl⟩
 refine⟨[(3, .old 200),(204, .old 204),(4, .old 202)],[(3, .box 86 [.row 204 (tc p).length 1]),(204,Bl (tc p)),(4, .box 169 [.fn 161 [.ptr 3 0, .pd [.pd (ez p q)], .ptr 4 0]])], .tup [],rfl,(aa),trivial,?_⟩
 conv=>whnf
 exact⟨rfl,rfl⟩
theorem CT (p:au) (q:aV) (hp:gM p) (hq:qP q):ab Tryz.prog 31 [.agg (aO p), .agg (fg q)] (fun u=>u=CO p q):=by
 refine ab.intro ac ag Tryz.func31 rfl (by decide) ?_;(conv=>whnf)
 refine al rfl ?_
 conv=>whnf
 refine al rfl ?_
 conv=>whnf
 refine ak.of_pure (n:=5) (rR p q hp hq) (by rfl) ?_
 rintro u rfl
 by_cases h0:cV p q=0
 ·rw[iL h0]
  have hv:=(aQ (c8 h0)).vld
  have hT:=(aK hv).thr
  conv=>whnf
  refine fI ?_
  conv=>whnf
  (refine oP (CS p q (by omega)) ?_;conv=>whnf)
  exact⟨(CP h0).symm,rfl⟩
 ·rw[gg rfl h0]
  conv=>whnf
  refine ah ?_ ?_<;>(intro h;conv=>whnf)
  ·exact⟨(Ht h0).symm,rfl⟩
  ·exact absurd h0 (fun e=>h e)
end Go.Proofs.YtnjggjhkfncnlaaGreatDoor
