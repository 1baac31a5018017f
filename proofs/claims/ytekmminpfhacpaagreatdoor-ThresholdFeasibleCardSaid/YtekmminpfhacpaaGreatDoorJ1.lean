import Derived.Test.YtekmminpfhacpaaGreatDoorW0
set_option linter.unusedVariables false
set_option linter.unusedSimpArgs false
namespace Go.Proofs.YtekmminpfhacpaaGreatDoor
set_option maxRecDepth 100000
set_option maxHeartbeats 16000000
def jp (k m:Nat) (at_:List Int) (i:Nat):List (List Int):=(List.range i).flatMap fun i:Nat=>if(i:Int)∈at_ then[] else w7 k (m-1) (at_++[(i:Int)])
theorem vL (k m:Nat) (at_:List Int) (l:List (List Int)):l++jp k m at_ 0=l:=by simp[jp]
theorem C2 (k m:Nat) (at_:List Int) (i:Nat):jp k m at_ (i+1)=jp k m at_ i++if(i:Int)∈at_ then[] else w7 k (m-1) (at_++[(i:Int)]):=by
 unfold jp;rw[List.range_succ,List.flatMap_append];simp
theorem tP {k:Nat} {l:List Int} (h:dM k l) (hl:k<=l.length) {i:Nat} (hi:i<k):(i:Int)∈l:=by
 refine Classical.byContradiction fun hn=>?_
 have h1:((i:Int)::l).Nodup:=List.nodup_cons.2 ⟨hn,vy h⟩
 have h2:=qH (n:=k) h1 fun x hx=>by
  rcases List.mem_cons.1 hx with rfl|hx
  ·omega
  ·obtain⟨j,hj,e⟩:=List.getElem_of_mem hx
   have:=(h j hj).1
   rwa [am 0 hj,e] at this
 simp only[List.length_cons] at h2
 omega
theorem zk {k:Nat} {l:List Int} (h:dM k l) {i:Nat} (hi:i<k) (hn:(i:Int)∉l):dM k (l++[(i:Int)]):=by
 intro j hj
 rw[List.length_append,List.length_singleton] at hj
 by_cases e:j<l.length
 ·have e1:(l++[(i:Int)]).getD j 0=l.getD j 0:=by
   rw[gD,List.getElem?_append_left e,<-gD]
  rw[e1,List.take_append_of_le_length (by omega)]
  exact h j e
 ·obtain rfl:j=l.length:=by omega
  have e1:(l++[(i:Int)]).getD l.length 0=(i:Int):=by
   rw[gD,List.getElem?_append_right (Nat.le_refl _),Nat.sub_self];rfl
  rw[e1,List.take_left']
  ·exact⟨by omega,hn⟩
  ·rfl
theorem C3 {k m:Nat} {at_:List Int} (h:dM k at_) (hm:k-at_.length<=m):w7 k m at_=at_::jp k m at_ k:=by
 cases m with
 |zero=>
  rw[w7]
  have:jp k 0 at_ k=[]:=by
   unfold jp
   rw[List.flatMap_eq_nil_iff]
   intro i hi
   rw[if_pos (tP h (by omega) (List.mem_range.1 hi))]
  rw[this]
 |succ m=>rfl
theorem C4 (k:Nat):∀(m:Nat) (at_:List Int),(w7 k m at_).length<=(k+1)^m
 |0,at_=>by simp[w7]
 |m+1,at_=>by
  rw[w7,List.length_cons]
  have hp:1<=(k+1)^m:=Nat.pow_pos (by omega)
  have:=pC (fun i:Nat=>if(i:Int)∈at_ then[] else w7 k m (at_++[(i:Int)])) ((k+1)^m) (List.range k) fun i _=>by
   split
   ·simp
   ·exact C4 k m _
  rw[List.length_range] at this
  rw[Nat.pow_succ,Nat.mul_add,Nat.mul_one]
  omega
theorem zl (k m:Nat) (at_:List Int) (i:Nat):(jp k m at_ i).length<=i*(k+1)^(m-1):=by
 have:=pC (fun i:Nat=>if(i:Int)∈at_ then[] else w7 k (m-1) (at_++[(i:Int)])) ((k+1)^(m-1)) (List.range i) fun i _=>by
  split
  ·simp
  ·exact C4 k (m-1) _
 rw[List.length_range,Nat.mul_comm] at this
 exact this
def HJ (p:ap) (q:aJ):AV:=if dL p q=0 then .tup [.sl [] Et (rG p), .int .i64 0] else .tup [.nilsl, .int .i64 (dL p q)]
theorem Ol {p:ap} {q:aJ} (h:dL p q≠0):HJ p q= .tup [.nilsl, .int .i64 (dL p q)]:=by unfold HJ;rw[if_neg h]
theorem HK {p:ap} {q:aJ} (h:dL p q=0):HJ p q= .tup [.sl [] Et (rG p), .int .i64 0]:=by unfold HJ;rw[if_pos h]
theorem HL (k:Nat):dM k []:=fun i hi=>absurd hi (Nat.not_lt_zero _)
theorem Om {k m:Nat} (hk:k<=3) (hm:m<=3):(k+1)^m<=64:=by
 have a:(k+1)^m<=4^m:=Nat.pow_le_pow_left (by omega) m
 have b:4^m<=4^3:=Nat.pow_le_pow_right (by omega) hm
 omega
theorem zm {S:ah} {α:Type} (d:α) (enc:α->List AV) (v:Value) (h:RP S v .nilsl):RP S v (.sl d enc []):=by
 cases h
 exact .sl d enc [] none 0 1 (fun _ _=>.int .i64 0) (by simp) (by simp) (by simp) (fun i j hi=>by simp at hi) (by simp) (fun i a j u hi=>by simp at hi)
theorem ab.weak {P:Program} {f:FuncId} {args args':List AV} {R:AV->Prop} (h:ab P f args' R) (hw:∀S vs,ib S vs args->ib S vs args'):ab P f args R:=by
 rw[cZ] at*
 exact⟨h.1,fun S F vs w h1 h2 h3 h4 hv=>h.2 S F vs w h1 h2 h3 h4 (hw S vs hv)⟩
def SW (l:List Int) (u:AV):Prop:=(l=[]/\u= .nilsl)\/(l≠[]/\u= .sl 0 ak l)
theorem EX {l:List Int} {u:AV} (h:SW l u) (s:Int) (hl:l.length<=4503599627370496):ab Tryz.prog 82 [u, .int .i64 s] (fun u=>u= .bool (decide (s∈l))):=by
 rcases h with ⟨rfl,rfl⟩|⟨_,rfl⟩
 ·exact(bN [] s (by simp)).weak fun S vs hv=>by
   obtain⟨v,vs',rfl,h1,h2⟩:=hv.cons_inv
   exact ib.cons (zm 0 ak v h1) h2
 ·exact bN l s hl
theorem On (l:List Int) (hl:l.length<=1000) (h0:l≠[]):aj Tryz.prog 39 [.sl 0 ak l] (ac.ofL []) (fun u M=>∃ℓ,u= .row ℓ l.length 1/\M ℓ=some (.row 3 0 ak l)):=by
 refine aj.intro ae ag [] Tryz.func39 rfl (by decide) ?_
 conv=>whnf
 refine bp h0 ?_
 conv=>whnf
 refine c7 0 ak [] rfl ?_
 conv=>whnf
 refine di l rfl (by simp only[List.length_nil];omega) ?_
 conv=>whnf
 exact⟨7,congrArg (AV.row 7 · 1) (Nat.zero_add _),rfl⟩
theorem Oo:ab Tryz.prog 39 [.nilsl] (fun u=>u= .nilsl):=by
 refine ab.intro ae ag Tryz.func39 rfl (by decide) ?_;(conv=>whnf)
 conv=>whnf
 exact⟨rfl,rfl⟩
def Oq (p:ap) (q:aJ) (outs:List (List Int)):List (Nat×aU):=[(200, .box 38 [.row 201 outs.length 1]),(201,Gi outs),(202, .box 128 [.fn 105 [.ptr 200 0, .pd [.pd (fi p q)], .ptr 202 0]])]
def Rd (p:ap) (q:aJ) (outs:List (List Int)):List (Nat×aU):=[(200, .box 38 [.row 204 outs.length 1]),(201, .dead),(204,Gi outs),(202, .box 128 [.fn 105 [.ptr 200 0, .pd [.pd (fi p q)], .ptr 202 0]])]
def RK (p:ap) (q:aJ) (m:Nat):Prop:=∀(at_:List Int) (outs:List (List Int)),at_≠[]->m<=3->dM (aA p.rules).length at_->(aA p.rules).length-at_.length<=m->outs.length+((aA p.rules).length+1)^m<=1000000->
  aj Tryz.prog 105 [.sl 0 ak at_, .ptr 200 0, .pd [.pd (fi p q)], .ptr 202 0] (ac.ofL (Oq p q outs)) (fun u M=>u= .tup []/\M=ac.ofL (Rd p q (outs++w7 (aA p.rules).length m at_)))
theorem SE (p:ap) (q:aJ) (hk:(aA p.rules).length<=3) (m:Nat) (ih:0<m->RK p q (m-1)):RK p q m:=by
 intro at_ outs h0 hm hs hl hb
 have hal:=gf hs
 have eL:=C3 hs hl
 have hx1:=fun i=>zl (aA p.rules).length m at_ i
 have hx2:=fun i=>C2 (aA p.rules).length m at_ i
 have hx0:=vL (aA p.rules).length m at_ (outs++[at_])
 generalize hKd:(aA p.rules).length=k at*
 have hp1:1<=(k+1)^m:=Nat.pow_pos (by omega)
 refine aj.intro ae ag (Oq p q outs) Tryz.func105 rfl (by decide) ?_
 conv=>whnf
 refine c7 [] Et [at_] rfl ?_
 conv=>whnf
 refine di [at_] rfl lI ?_
 conv=>whnf
 refine a8.loopF ae ag (fun i:Nat=>i<=k) (fun i=>[(6, .top),(8, .top),(9, .top),(15, .int .i64 (i:Int))]) (fun i=>Rd p q (outs++[at_]++jp k m at_ i)) (fun i=>k-i) 0 (Nat.zero_le _) ?_;conv=>whnf
 refine⟨by rw[hx0];exact bd.by_ [(200, .old 200),(201, .old 201),(204, .old 9),(202, .old 202)] _ 400 rfl (aa) (aa),?_⟩
 rintro i hi
 conv=>whnf
 refine ai ?_ ?_<;>(intro h1;conv=>whnf)
 ·have hik:i<k:=by omega
  have eu:=hx2 i
  refine dC (bN at_ (i:Int) (by omega)) (fun _=>?_) (fun _=>?_)<;>(conv=>whnf)
  ·rename_i hm2
   rw[if_pos hm2,List.append_nil] at eu
   repeat' ((first|refine nI ?_|refine aI ?_|refine tI ?_|refine fI ?_|fail);conv=>whnf)
   refine⟨i+1,?_,by omega,by dsimp only;omega⟩
   dsimp only
   rw[eu]
   exact bd.by_ [(200, .old 200),(201, .old 201),(204, .old 204),(202, .old 202)] _ 400 rfl (aa) (aa)
  ·rename_i hm2
   rw[if_neg hm2] at eu
   have hm0:0<m:=Nat.pos_of_ne_zero fun h0=>hm2 (tP hs (by omega) hik)
   have hx:(outs++[at_]++jp k m at_ i).length+(k+1)^(m-1)<=1000000:=by
    have a:=hx1 i
    obtain⟨n,rfl⟩:∃n,m=n+1:=⟨m-1,by omega⟩
    rw[Nat.add_sub_cancel] at a⊢
    rw[Nat.pow_succ] at hb
    have b:(i+1)*(k+1)^n<=k*(k+1)^n:=Nat.mul_le_mul_right _ (by omega)
    have c:1<=(k+1)^n:=Nat.pow_pos (by omega)
    simp only[List.length_append,List.length_cons,List.length_nil]
    rw[Nat.add_mul,Nat.one_mul] at b
    rw[Nat.mul_add,Nat.mul_one,Nat.mul_comm _ k] at hb
    omega
   have hc:=ih hm0 (at_++[(i:Int)]) (outs++[at_]++jp k m at_ i) (by simp) (by omega) (by rw[hKd];exact zk hs hik hm2) (by rw[hKd];simp only[List.length_append,List.length_cons,List.length_nil];omega) (by rw[hKd];exact hx)
   rw[hKd] at hc
   refine o9 ?_
   conv=>whnf
   repeat' first
    |exact True.intro
    |(refine And.intro ?_ ?_<;>conv=>whnf)
    |(refine aj.fresh 24 (On at_ (by omega) h0) rfl (aa) ?_;conv=>whnf)
    |(refine c7 0 ak [(i:Int)] rfl ?_;conv=>whnf)
    |(refine di [(i:Int)] rfl lI ?_;conv=>whnf)
    |(refine dn ?_;conv=>whnf)
    |fail
   all_goals first
    |(refine aj.hand 27 rfl ?_
      refine aj.call [(200, .old 200),(201, .old 204),(202, .old 202)] (Oq p q (outs++[at_]++jp k m at_ i)) 400 rfl (aa) (aa) hc ?_
      rintro u M' ⟨rfl,rfl⟩
      refine⟨[(200, .old 200),(204, .old 201),(205, .old 204),(202, .old 202)],[(200, .box 38 [.row 205 (outs++[at_]++jp k m at_ i++w7 k (m-1) (at_++[(i:Int)])).length 1]),(204, .dead),(205,Gi (outs++[at_]++jp k m at_ i++w7 k (m-1) (at_++[(i:Int)]))),(202, .box 128 [.fn 105 [.ptr 200 0, .pd [.pd (fi p q)], .ptr 202 0]])], .tup [],rfl,(aa),trivial,?_⟩
      conv=>whnf
      repeat' ((first|refine nI ?_|refine aI ?_|refine tI ?_|refine fI ?_|fail);conv=>whnf)
      refine⟨i+1,?_,by omega,by dsimp only;omega⟩
      dsimp only
      rw[eu,<-List.append_assoc]
      exact bd.by_ [(200, .old 200),(201, .old 201),(204, .old 205),(202, .old 202)] _ 400 rfl (aa) (aa))
    |trace_state
 ·obtain rfl:i=k:=by omega
  have e:outs++w7 i m at_=outs++[at_]++jp i m at_ i:=by rw[eL,List.append_assoc];rfl
  rw[e]
  exact⟨rfl,rfl⟩
theorem SF (p:ap) (q:aJ) (hk:(aA p.rules).length<=3):∀m,RK p q m
 |0=>SE p q hk 0 fun h=>absurd h (Nat.lt_irrefl _)
 |m+1=>SE p q hk (m+1) fun _=>SF p q hk m
theorem RM (p:ap) (q:aJ) (hk:(aA p.rules).length<=3):aj Tryz.prog 105 [.nilsl, .ptr 200 0, .pd [.pd (fi p q)], .ptr 202 0] (ac.ofL (Oq p q [])) (fun u M=>u= .tup []/\M=ac.ofL (Rd p q (rG p))):=by
 have ih:=SF p q hk ((aA p.rules).length-1)
 have hz:=Om (k:=(aA p.rules).length) (m:=(aA p.rules).length) hk hk
 obtain⟨m,hm',hm⟩:∃m,m=(aA p.rules).length/\m<=3:=⟨_,rfl,hk⟩
 obtain⟨outs,ho⟩:∃outs:List (List Int),outs=[]:=⟨_,rfl⟩
 obtain⟨at_,ha⟩:∃at_:List Int,at_=[]:=⟨_,rfl⟩
 have hs:dM (aA p.rules).length at_:=by rw[ha];exact HL _
 have hl:(aA p.rules).length-at_.length<=m:=by omega
 have hb:outs.length+((aA p.rules).length+1)^m<=1000000:=by rw[ho,hm'];simp only[List.length_nil];omega
 have hF:rG p=outs++w7 (aA p.rules).length m at_:=by rw[ho,ha,hm'];rfl
 rw[hF,<-ho]
 rw[<-hm'] at ih
 clear hF hz hm'
 have hal:=gf hs
 have eL:=C3 hs hl
 have hx1:=fun i=>zl (aA p.rules).length m at_ i
 have hx2:=fun i=>C2 (aA p.rules).length m at_ i
 have hx0:=vL (aA p.rules).length m at_ (outs++[at_])
 generalize hKd:(aA p.rules).length=k at*
 have hp1:1<=(k+1)^m:=Nat.pow_pos (by omega)
 refine aj.intro ae ag (Oq p q outs) Tryz.func105 rfl (by decide) ?_
 conv=>whnf
 refine J4 [] Et [at_] ⟨⟨.inr ⟨rfl,Int,0,ak,by rw[ha]⟩,trivial⟩,trivial⟩ ?_
 conv=>whnf
 refine di [at_] rfl lI ?_
 conv=>whnf
 refine a8.loopF ae ag (fun i:Nat=>i<=k) (fun i=>[(6, .top),(8, .top),(9, .top),(15, .int .i64 (i:Int))]) (fun i=>Rd p q (outs++[at_]++jp k m at_ i)) (fun i=>k-i) 0 (Nat.zero_le _) ?_;conv=>whnf
 refine⟨by rw[hx0];exact bd.by_ [(200, .old 200),(201, .old 201),(204, .old 9),(202, .old 202)] _ 400 rfl (aa) (aa),?_⟩
 rintro i hi
 conv=>whnf
 refine ai ?_ ?_<;>(intro h1;conv=>whnf)
 ·have hik:i<k:=by omega
  have eu:=hx2 i
  refine dC (EX (.inl ⟨ha,rfl⟩) (i:Int) (by omega)) (fun _=>?_) (fun _=>?_)<;>(conv=>whnf)
  ·rename_i hm2
   rw[if_pos hm2,List.append_nil] at eu
   repeat' ((first|refine nI ?_|refine aI ?_|refine tI ?_|refine fI ?_|fail);conv=>whnf)
   refine⟨i+1,?_,by omega,by dsimp only;omega⟩
   dsimp only
   rw[eu]
   exact bd.by_ [(200, .old 200),(201, .old 201),(204, .old 204),(202, .old 202)] _ 400 rfl (aa) (aa)
  ·rename_i hm2
   rw[if_neg hm2] at eu
   have hm0:0<m:=Nat.pos_of_ne_zero fun h0=>hm2 (tP hs (by omega) hik)
   have hx:(outs++[at_]++jp k m at_ i).length+(k+1)^(m-1)<=1000000:=by
    have a:=hx1 i
    obtain⟨n,rfl⟩:∃n,m=n+1:=⟨m-1,by omega⟩
    rw[Nat.add_sub_cancel] at a⊢
    rw[Nat.pow_succ] at hb
    have b:(i+1)*(k+1)^n<=k*(k+1)^n:=Nat.mul_le_mul_right _ (by omega)
    have c:1<=(k+1)^n:=Nat.pow_pos (by omega)
    simp only[List.length_append,List.length_cons,List.length_nil]
    rw[Nat.add_mul,Nat.one_mul] at b
    rw[Nat.mul_add,Nat.mul_one,Nat.mul_comm _ k] at hb
    omega
   have hc:=ih (at_++[(i:Int)]) (outs++[at_]++jp k m at_ i) (by simp) (by omega) (by rw[hKd];exact zk hs hik hm2) (by rw[hKd];simp only[List.length_append,List.length_cons,List.length_nil];omega) (by rw[hKd];exact hx)
   rw[hKd] at hc
   have hq:at_++[(i:Int)]=[(i:Int)]:=by rw[ha];rfl
   rw[hq] at hc eu
   refine o9 ?_
   conv=>whnf
   repeat' first
    |exact True.intro
    |(refine And.intro ?_ ?_<;>conv=>whnf)
    |(refine aj.of_pure (n:=5) Oo (by rfl) ?_;rintro u rfl;conv=>whnf)
    |(refine c7 0 ak [(i:Int)] rfl ?_;conv=>whnf)
    |(refine di [(i:Int)] rfl lI ?_;conv=>whnf)
    |(refine dn ?_;conv=>whnf)
    |(refine bp (show 1*8<=140737488355328 by omega) ?_;conv=>whnf)
    |fail
   all_goals first
    |(refine aj.hand 27 rfl ?_
      refine aj.call [(200, .old 200),(201, .old 204),(202, .old 202)] (Oq p q (outs++[at_]++jp k m at_ i)) 400 rfl (aa) (aa) hc ?_
      rintro u M' ⟨rfl,rfl⟩
      refine⟨[(200, .old 200),(204, .old 201),(205, .old 204),(202, .old 202)],[(200, .box 38 [.row 205 (outs++[at_]++jp k m at_ i++w7 k (m-1) [(i:Int)]).length 1]),(204, .dead),(205,Gi (outs++[at_]++jp k m at_ i++w7 k (m-1) [(i:Int)])),(202, .box 128 [.fn 105 [.ptr 200 0, .pd [.pd (fi p q)], .ptr 202 0]])], .tup [],rfl,(aa),trivial,?_⟩
      conv=>whnf
      repeat' ((first|refine nI ?_|refine aI ?_|refine tI ?_|refine fI ?_|fail);conv=>whnf)
      refine⟨i+1,?_,by omega,by dsimp only;omega⟩
      dsimp only
      rw[eu,<-List.append_assoc]
      exact bd.by_ [(200, .old 200),(201, .old 201),(204, .old 205),(202, .old 202)] _ 400 rfl (aa) (aa))
    |trace_state
 ·obtain rfl:i=k:=by omega
  have e:outs++w7 i m at_=outs++[at_]++jp i m at_ i:=by rw[eL,List.append_assoc];rfl
  rw[e]
  exact⟨rfl,rfl⟩
theorem HM (p:ap) (q:aJ) (hk:(aA p.rules).length<=3):ab Tryz.prog 37 [.pd (fi p q)] (fun u=>u= .sl [] Et (rG p)):=by
 refine ab.intro ae ag Tryz.func37 rfl (by decide) ?_;(conv=>whnf)
 refine ar rfl ?_
 conv=>whnf
 refine aj.call [(200, .old 3),(201, .nil 1),(202, .old 4)] (Oq p q []) 400 rfl (aa) (aa) (RM p q hk) ?_
 rintro u M' ⟨rfl,rfl⟩
 refine⟨[(3, .old 200),(204, .old 204),(4, .old 202)],[(3, .box 38 [.row 204 (rG p).length 1]),(204,Gi (rG p)),(4, .box 128 [.fn 105 [.ptr 3 0, .pd [.pd (fi p q)], .ptr 4 0]])], .tup [],rfl,(aa),trivial,?_⟩
 conv=>whnf
 exact⟨rfl,rfl⟩
theorem HN (p:ap) (q:aJ) (hp:qz p) (hq:Bj q):ab Tryz.prog 46 [.agg (dg p), .agg (mK q)] (fun u=>u=HJ p q):=by
 refine ab.intro ae ag Tryz.func46 rfl (by decide) ?_;(conv=>whnf)
 refine ar rfl ?_
 conv=>whnf
 refine ar rfl ?_
 conv=>whnf
 refine aj.of_pure (n:=5) (vG p q hp hq) (by rfl) ?_
 rintro u rfl
 by_cases h0:dL p q=0
 ·rw[jR h0]
  have hv:=(bf (eM h0)).vld
  have hT:=(a9 hv).thr
  conv=>whnf
  refine fI ?_
  conv=>whnf
  (refine oP (HM p q (by omega)) ?_;conv=>whnf)
  exact⟨(HK h0).symm,rfl⟩
 ·rw[g9 rfl h0]
  conv=>whnf
  refine ai ?_ ?_<;>(intro h;conv=>whnf)
  ·exact⟨(Ol h0).symm,rfl⟩
  ·exact absurd h0 (fun e=>h e)
theorem RN (n:Int):ab Tryz.prog 9 [.int .i64 n] (fun u=>u= .int .i64 (if 40<n then 40 else n)):=by
 refine ab.intro ae ag Tryz.func9 rfl (by decide) ?_;(conv=>whnf)
 exact⟨rfl,rfl⟩
end Go.Proofs.YtekmminpfhacpaaGreatDoor
