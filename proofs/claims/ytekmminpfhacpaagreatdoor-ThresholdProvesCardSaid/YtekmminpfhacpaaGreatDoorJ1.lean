import Derived.Test.YtekmminpfhacpaaGreatDoorW0
set_option linter.unusedVariables false
set_option linter.unusedSimpArgs false
namespace Go.Proofs.YtekmminpfhacpaaGreatDoor
set_option maxRecDepth 100000
set_option maxHeartbeats 16000000
def fZ (k m:Nat) (at_:List Int) (i:Nat):List (List Int):=(List.range i).flatMap fun i:Nat=>if(i:Int)∈at_ then[] else oe k (m-1) (at_++[(i:Int)])
theorem qB (k m:Nat) (at_:List Int) (l:List (List Int)):l++fZ k m at_ 0=l:=by simp[fZ]
theorem xm (k m:Nat) (at_:List Int) (i:Nat):fZ k m at_ (i+1)=fZ k m at_ i++if(i:Int)∈at_ then[] else oe k (m-1) (at_++[(i:Int)]):=by
 unfold fZ;rw[List.range_succ,List.flatMap_append];simp
theorem pr {k:Nat} {l:List Int} (h:dS k l) (hl:k<=l.length) {i:Nat} (hi:i<k):(i:Int)∈l:=by
 refine Classical.byContradiction fun hn=>?_
 have h1:((i:Int)::l).Nodup:=List.nodup_cons.2 ⟨hn,vN h⟩
 have h2:=qw (n:=k) h1 fun x hx=>by
  rcases List.mem_cons.1 hx with rfl|hx
  ·omega
  ·obtain⟨j,hj,e⟩:=List.getElem_of_mem hx
   have:=(h j hj).1
   rwa [ap 0 hj,e] at this
 simp only[List.length_cons] at h2
 omega
theorem pu {k:Nat} {l:List Int} (h:dS k l) {i:Nat} (hi:i<k) (hn:(i:Int)∉l):dS k (l++[(i:Int)]):=by
 intro j hj
 rw[List.length_append,List.length_singleton] at hj
 by_cases e:j<l.length
 ·have e1:(l++[(i:Int)]).getD j 0=l.getD j 0:=by
   rw[gD,List.getElem?_append_left e,<-gD]
  rw[e1,List.take_append_of_le_length (by omega)]
  exact h j e
 ·obtain rfl:j=l.length:=by omega
  have e1:(l++[(i:Int)]).getD l.length 0=(i:Int):=by
   rw[gD,List.getElem?_append_right (Nat.le_refl _),Nat.sub_self];rfl
  rw[e1,List.take_left']
  ·exact⟨by omega,hn⟩
  ·rfl
theorem xn {k m:Nat} {at_:List Int} (h:dS k at_) (hm:k-at_.length<=m):oe k m at_=at_::fZ k m at_ k:=by
 cases m with
 |zero=>
  rw[oe]
  have:fZ k 0 at_ k=[]:=by
   unfold fZ
   rw[List.flatMap_eq_nil_iff]
   intro i hi
   rw[if_pos (pr h (by omega) (List.mem_range.1 hi))]
  rw[this]
 |succ m=>rfl
theorem xo (k:Nat):∀(m:Nat) (at_:List Int),(oe k m at_).length<=(k+1)^m
 |0,at_=>by simp[oe]
 |m+1,at_=>by
  rw[oe,List.length_cons]
  have hp:1<=(k+1)^m:=Nat.pow_pos (by omega)
  have:=rZ (fun i:Nat=>if(i:Int)∈at_ then[] else oe k m (at_++[(i:Int)])) ((k+1)^m) (List.range k) fun i _=>by
   split
   ·simp
   ·exact xo k m _
  rw[List.length_range] at this
  rw[Nat.pow_succ,Nat.mul_add,Nat.mul_one]
  omega
def QY (k m:Nat) (at_:List Int) (outs:List (List Int)):AV->ag->Prop:=fun u M=>u= .row 8001 (outs++oe k m at_).length 1/\M=ag.ofL [(8000, .dead),(8001,ph (outs++oe k m at_))]
theorem tU (k m:Nat) (at_:List Int) (i:Nat):(fZ k m at_ i).length<=i*(k+1)^(m-1):=by
 have:=rZ (fun i:Nat=>if(i:Int)∈at_ then[] else oe k (m-1) (at_++[(i:Int)])) ((k+1)^(m-1)) (List.range i) fun i _=>by
  split
  ·simp
  ·exact xo k (m-1) _
 rw[List.length_range,Nat.mul_comm] at this
 exact this
def PQ (k m:Nat):Prop:=∀(at_:List Int) (outs:List (List Int)),m<=3->dS k at_->k-at_.length<=m->outs.length+(k+1)^m<=1000000->
  aj Tryz.prog 42 [.row 8000 outs.length 1, .sl 0 al at_, .int .i64 (k:Int)] (ag.ofL [(8000,ph outs)]) (QY k m at_ outs)
theorem vY (k:Nat) (hk:k<=3) (m:Nat) (ih:0<m->PQ k (m-1)):PQ k m:=by
 intro at_ outs hm hs hl hb
 have hal:=cu hs
 have eL:=xn hs hl
 have hp1:1<=(k+1)^m:=Nat.pow_pos (by omega)
 refine aj.renorm 400 (R:=fun u M=>∃ℓ,u= .row 1000 (outs++oe k m at_).length 1/\bG [(8000, .old 8000),(8001, .old ℓ)] 400 M [(8000, .dead),(8001,ph (outs++oe k m at_))]/\ℓ=1000) ?_ ?_
 case refine_2=>
  rintro u M ⟨ℓ,rfl,hM,rfl⟩
  exact⟨[(8000, .old 8000),(8001, .old 1000)],_, .row 8001 (outs++oe k m at_).length 1,rfl,hM,rfl,rfl,rfl⟩
 refine aj.intro ab ac [(8000,ph outs)] Tryz.func42 rfl (by decide) ?_
 conv=>whnf
 refine bp 0 al [] rfl ?_
 conv=>whnf
 refine bq _ rfl (by simp only[List.length_nil];omega) ?_
 conv=>whnf
 refine bp [] A7 [at_] rfl ?_
 conv=>whnf
 refine bq [at_] rfl lI ?_
 conv=>whnf
 refine aJ.loopF ab ac (fun i:Nat=>i<=k) (fun i=>[(9, .top),(10, .top),(12, .top),(13, .top),(14, .top),(7, .int .i64 (i:Int)),(0, .row 1000 (outs++[at_]++fZ k m at_ i).length 1)]) (fun i=>[(8000, .dead),(1000,ph (outs++[at_]++fZ k m at_ i))]) (fun i=>k-i) 0 (Nat.zero_le _) ?_;conv=>whnf
 refine⟨by rw[qB];exact aH.by_ [(8000, .old 8000),(1000, .old 14)] _ 400 rfl (aa) (aa),?_⟩
 rintro i hi
 conv=>whnf
 refine ae ?_ ?_<;>(intro h1;conv=>whnf)
 ·have hik:i<k:=by omega
  have eu:=xm k m at_ i
  refine dC (Bu at_ (i:Int) (by omega)) (fun _=>?_) (fun _=>?_)<;>(conv=>whnf)
  ·rename_i hm2
   rw[if_pos hm2,List.append_nil] at eu
   repeat' ((first|refine nI ?_|refine aI ?_|refine tI ?_|refine fI ?_|fail);conv=>whnf)
   refine⟨i+1,?_,by omega,by dsimp only;omega⟩
   dsimp only
   rw[eu]
   exact aH.by_ [(8000, .old 8000),(1000, .old 1000)] _ 400 rfl (aa) (aa)
  ·rename_i hm2
   rw[if_neg hm2] at eu
   have hm0:0<m:=Nat.pos_of_ne_zero fun h0=>hm2 (pr hs (by omega) hik)
   refine bp 0 al [] rfl ?_
   conv=>whnf
   refine bq _ rfl (by simp only[List.length_nil];omega) ?_
   conv=>whnf
   refine bq [(i:Int)] rfl (by simp only[List.nil_append,List.length_cons,List.length_nil];omega) ?_
   conv=>whnf
   have hx:(outs++[at_]++fZ k m at_ i).length+(k+1)^(m-1)<=1000000:=by
    have a:=tU k m at_ i
    obtain⟨n,rfl⟩:∃n,m=n+1:=⟨m-1,by omega⟩
    rw[Nat.add_sub_cancel] at a⊢
    rw[Nat.pow_succ] at hb
    have b:(i+1)*(k+1)^n<=k*(k+1)^n:=Nat.mul_le_mul_right _ (by omega)
    have c:1<=(k+1)^n:=Nat.pow_pos (by omega)
    simp only[List.length_append,List.length_cons,List.length_nil]
    rw[Nat.add_mul,Nat.one_mul] at b
    rw[Nat.mul_add,Nat.mul_one,Nat.mul_comm _ k] at hb
    omega
   refine aj.hand 30 rfl ?_
   refine aj.call [(8000, .old 1000)] [(8000,ph (outs++[at_]++fZ k m at_ i))] 400 rfl (aa) (aa) (ih hm0 (at_++[(i:Int)]) (outs++[at_]++fZ k m at_ i) (by omega) (pu hs hik hm2) (by simp only[List.length_append,List.length_cons,List.length_nil];omega) hx) ?_
   rintro u M' ⟨rfl,rfl⟩
   refine⟨[(1000, .old 8000),(1001, .old 8001)],[(1000, .dead),(1001,ph (outs++[at_]++fZ k m at_ i++oe k (m-1) (at_++[(i:Int)])))], .row 1001 (outs++[at_]++fZ k m at_ i++oe k (m-1) (at_++[(i:Int)])).length 1,rfl,(aa),rfl,?_⟩
   conv=>whnf
   repeat' ((first|refine nI ?_|refine aI ?_|refine tI ?_|refine fI ?_|fail);conv=>whnf)
   refine⟨i+1,?_,by omega,by dsimp only;omega⟩
   dsimp only
   rw[eu,<-List.append_assoc]
   exact aH.by_ [(8000, .old 8000),(1000, .old 1001)] _ 400 rfl (aa) (aa)
 ·obtain rfl:i=k:=by omega
  have e:outs++oe i m at_=outs++[at_]++fZ i m at_ i:=by rw[eL,List.append_assoc];rfl
  rw[e]
  exact⟨1000,rfl,(aa),rfl⟩
theorem vZ (k:Nat) (hk:k<=3):∀m,PQ k m
 |0=>vY k hk 0 (fun h=>absurd h (Nat.lt_irrefl _))
 |m+1=>vY k hk (m+1) (fun _=>vZ k hk m)
def EE (p:av) (q:aP):AV:=if dq p q=0 then .tup [.sl [] A7 (aO p), .int .i64 0] else .tup [.nilsl, .int .i64 (dq p q)]
theorem xp {p:av} {q:aP} (h:dq p q≠0):EE p q= .tup [.nilsl, .int .i64 (dq p q)]:=by unfold EE;rw[if_neg h]
theorem tV {p:av} {q:aP} (h:dq p q=0):EE p q= .tup [.sl [] A7 (aO p), .int .i64 0]:=by unfold EE;rw[if_pos h]
theorem tW (k:Nat):dS k []:=fun i hi=>absurd hi (Nat.not_lt_zero _)
theorem BA {k m:Nat} (hk:k<=3) (hm:m<=3):(k+1)^m<=64:=by
 have a:(k+1)^m<=4^m:=Nat.pow_le_pow_left (by omega) m
 have b:4^m<=4^3:=Nat.pow_le_pow_right (by omega) hm
 omega
theorem zq (p:av) (q:aP) (hp:lO p) (hq:rS q):ah Tryz.prog 11 [.agg (cV p), .agg (eO q)] (fun u=>u=EE p q):=by
 refine ah.intro ab ac Tryz.func11 rfl (by decide) ?_;(conv=>whnf)
 refine au rfl ?_
 conv=>whnf
 refine au rfl ?_
 conv=>whnf
 (refine oP (Bv p q hp hq) ?_;conv=>whnf)
 refine ae ?_ ?_<;>(intro h;conv=>whnf)
 ·exact⟨(xp h).symm,rfl⟩
 have h0:dq p q=0:=by omega
 have hv:=(aW (du h0)).vld
 have hT:=(aN hv).thr
 have hx:=BA (k:=(ay p.rules).length) (m:=(ay p.rules).length) (by omega) (by omega)
 (refine oP (im p hp hv) ?_;conv=>whnf)
 refine aj.call [(8000, .nil 1)] [(8000,ph [])] 400 rfl (aa) (aa) (vZ (ay p.rules).length (by omega) (ay p.rules).length [] [] (by omega) (tW _) (by simp) (by simp only[List.length_nil];omega)) ?_
 rintro u M' ⟨rfl,rfl⟩
 refine⟨[(8001, .old 8001)],[(8001,ph (aO p))], .row 8001 (aO p).length 1,rfl,(aa),(aa),?_⟩
 conv=>whnf
 exact⟨(tV h0).symm,rfl⟩
theorem zr {S:ai} {α:Type} (d:α) (enc:α->List AV) (v:Value) (h:RP S v .nilsl):RP S v (.sl d enc []):=by
 cases h
 exact .sl d enc [] none 0 1 (fun _ _=>.int .i64 0) (by simp) (by simp) (by simp) (fun i j hi=>by simp at hi) (by simp) (fun i a j u hi=>by simp at hi)
theorem ah.weak {P:Program} {f:FuncId} {args args':List AV} {R:AV->Prop} (h:ah P f args' R) (hw:∀S vs,ir S vs args->ir S vs args'):ah P f args R:=by
 rw[dM] at*
 exact⟨h.1,fun S F vs w h1 h2 h3 h4 hv=>h.2 S F vs w h1 h2 h3 h4 (hw S vs hv)⟩
def QZ (l:List Int) (u:AV):Prop:=(l=[]/\u= .nilsl)\/(l≠[]/\u= .sl 0 al l)
theorem EF {l:List Int} {u:AV} (h:QZ l u) (s:Int) (hl:l.length<=4503599627370496):ah Tryz.prog 82 [u, .int .i64 s] (fun u=>u= .bool (decide (s∈l))):=by
 rcases h with ⟨rfl,rfl⟩|⟨_,rfl⟩
 ·exact(dB [] s (by simp)).weak fun S vs hv=>by
   obtain⟨v,vs',rfl,h1,h2⟩:=hv.cons_inv
   exact ir.cons (zr 0 al v h1) h2
 ·exact dB l s hl
theorem Mr (l:List Int) (hl:l.length<=1000) (h0:l≠[]):aj Tryz.prog 39 [.sl 0 al l] (ag.ofL []) (fun u M=>∃ℓ,u= .row ℓ l.length 1/\M ℓ=some (.row 3 0 al l)):=by
 refine aj.intro ab ac [] Tryz.func39 rfl (by decide) ?_
 conv=>whnf
 refine bg h0 ?_
 conv=>whnf
 refine bp 0 al [] rfl ?_
 conv=>whnf
 refine bq l rfl (by simp only[List.length_nil];omega) ?_
 conv=>whnf
 exact⟨7,congrArg (AV.row 7 · 1) (Nat.zero_add _),rfl⟩
theorem Ms:ah Tryz.prog 39 [.nilsl] (fun u=>u= .nilsl):=by
 refine ah.intro ab ac Tryz.func39 rfl (by decide) ?_;(conv=>whnf)
 conv=>whnf
 exact⟨rfl,rfl⟩
def Mt (p:av) (q:aP) (outs:List (List Int)):List (Nat×bf):=[(200, .box 38 [.row 201 outs.length 1]),(201,ph outs),(202, .box 128 [.fn 105 [.ptr 200 0, .pd [.pd (fE p q)], .ptr 202 0]])]
def Pp (p:av) (q:aP) (outs:List (List Int)):List (Nat×bf):=[(200, .box 38 [.row 204 outs.length 1]),(201, .dead),(204,ph outs),(202, .box 128 [.fn 105 [.ptr 200 0, .pd [.pd (fE p q)], .ptr 202 0]])]
def PR (p:av) (q:aP) (m:Nat):Prop:=∀(at_:List Int) (outs:List (List Int)),at_≠[]->m<=3->dS (ay p.rules).length at_->(ay p.rules).length-at_.length<=m->outs.length+((ay p.rules).length+1)^m<=1000000->
  aj Tryz.prog 105 [.sl 0 al at_, .ptr 200 0, .pd [.pd (fE p q)], .ptr 202 0] (ag.ofL (Mt p q outs)) (fun u M=>u= .tup []/\M=ag.ofL (Pp p q (outs++oe (ay p.rules).length m at_)))
theorem QG (p:av) (q:aP) (hk:(ay p.rules).length<=3) (m:Nat) (ih:0<m->PR p q (m-1)):PR p q m:=by
 intro at_ outs h0 hm hs hl hb
 have hal:=cu hs
 have eL:=xn hs hl
 have hx1:=fun i=>tU (ay p.rules).length m at_ i
 have hx2:=fun i=>xm (ay p.rules).length m at_ i
 have hx0:=qB (ay p.rules).length m at_ (outs++[at_])
 generalize hKd:(ay p.rules).length=k at*
 have hp1:1<=(k+1)^m:=Nat.pow_pos (by omega)
 refine aj.intro ab ac (Mt p q outs) Tryz.func105 rfl (by decide) ?_
 conv=>whnf
 refine bp [] A7 [at_] rfl ?_
 conv=>whnf
 refine bq [at_] rfl lI ?_
 conv=>whnf
 refine aJ.loopF ab ac (fun i:Nat=>i<=k) (fun i=>[(6, .top),(8, .top),(9, .top),(15, .int .i64 (i:Int))]) (fun i=>Pp p q (outs++[at_]++fZ k m at_ i)) (fun i=>k-i) 0 (Nat.zero_le _) ?_;conv=>whnf
 refine⟨by rw[hx0];exact aH.by_ [(200, .old 200),(201, .old 201),(204, .old 9),(202, .old 202)] _ 400 rfl (aa) (aa),?_⟩
 rintro i hi
 conv=>whnf
 refine ae ?_ ?_<;>(intro h1;conv=>whnf)
 ·have hik:i<k:=by omega
  have eu:=hx2 i
  refine dC (dB at_ (i:Int) (by omega)) (fun _=>?_) (fun _=>?_)<;>(conv=>whnf)
  ·rename_i hm2
   rw[if_pos hm2,List.append_nil] at eu
   repeat' ((first|refine nI ?_|refine aI ?_|refine tI ?_|refine fI ?_|fail);conv=>whnf)
   refine⟨i+1,?_,by omega,by dsimp only;omega⟩
   dsimp only
   rw[eu]
   exact aH.by_ [(200, .old 200),(201, .old 201),(204, .old 204),(202, .old 202)] _ 400 rfl (aa) (aa)
  ·rename_i hm2
   rw[if_neg hm2] at eu
   have hm0:0<m:=Nat.pos_of_ne_zero fun h0=>hm2 (pr hs (by omega) hik)
   have hx:(outs++[at_]++fZ k m at_ i).length+(k+1)^(m-1)<=1000000:=by
    have a:=hx1 i
    obtain⟨n,rfl⟩:∃n,m=n+1:=⟨m-1,by omega⟩
    rw[Nat.add_sub_cancel] at a⊢
    rw[Nat.pow_succ] at hb
    have b:(i+1)*(k+1)^n<=k*(k+1)^n:=Nat.mul_le_mul_right _ (by omega)
    have c:1<=(k+1)^n:=Nat.pow_pos (by omega)
    simp only[List.length_append,List.length_cons,List.length_nil]
    rw[Nat.add_mul,Nat.one_mul] at b
    rw[Nat.mul_add,Nat.mul_one,Nat.mul_comm _ k] at hb
    omega
   have hc:=ih hm0 (at_++[(i:Int)]) (outs++[at_]++fZ k m at_ i) (by simp) (by omega) (by rw[hKd];exact pu hs hik hm2) (by rw[hKd];simp only[List.length_append,List.length_cons,List.length_nil];omega) (by rw[hKd];exact hx)
   rw[hKd] at hc
   refine nU ?_
   conv=>whnf
   repeat' first
    |exact True.intro
    |(refine And.intro ?_ ?_<;>conv=>whnf)
    |(refine aj.fresh 24 (Mr at_ (by omega) h0) rfl (aa) ?_;conv=>whnf)
    |(refine bp 0 al [(i:Int)] rfl ?_;conv=>whnf)
    |(refine bq [(i:Int)] rfl lI ?_;conv=>whnf)
    |(refine bU ?_;conv=>whnf)
    |fail
   all_goals first
    |(refine aj.hand 27 rfl ?_
      refine aj.call [(200, .old 200),(201, .old 204),(202, .old 202)] (Mt p q (outs++[at_]++fZ k m at_ i)) 400 rfl (aa) (aa) hc ?_
      rintro u M' ⟨rfl,rfl⟩
      refine⟨[(200, .old 200),(204, .old 201),(205, .old 204),(202, .old 202)],[(200, .box 38 [.row 205 (outs++[at_]++fZ k m at_ i++oe k (m-1) (at_++[(i:Int)])).length 1]),(204, .dead),(205,ph (outs++[at_]++fZ k m at_ i++oe k (m-1) (at_++[(i:Int)]))),(202, .box 128 [.fn 105 [.ptr 200 0, .pd [.pd (fE p q)], .ptr 202 0]])], .tup [],rfl,(aa),trivial,?_⟩
      conv=>whnf
      repeat' ((first|refine nI ?_|refine aI ?_|refine tI ?_|refine fI ?_|fail);conv=>whnf)
      refine⟨i+1,?_,by omega,by dsimp only;omega⟩
      dsimp only
      rw[eu,<-List.append_assoc]
      exact aH.by_ [(200, .old 200),(201, .old 201),(204, .old 205),(202, .old 202)] _ 400 rfl (aa) (aa))
    |trace_state
 ·obtain rfl:i=k:=by omega
  have e:outs++oe i m at_=outs++[at_]++fZ i m at_ i:=by rw[eL,List.append_assoc];rfl
  rw[e]
  exact⟨rfl,rfl⟩
theorem QH (p:av) (q:aP) (hk:(ay p.rules).length<=3):∀m,PR p q m
 |0=>QG p q hk 0 fun h=>absurd h (Nat.lt_irrefl _)
 |m+1=>QG p q hk (m+1) fun _=>QH p q hk m
theorem PS (p:av) (q:aP) (hk:(ay p.rules).length<=3):aj Tryz.prog 105 [.nilsl, .ptr 200 0, .pd [.pd (fE p q)], .ptr 202 0] (ag.ofL (Mt p q [])) (fun u M=>u= .tup []/\M=ag.ofL (Pp p q (aO p))):=by
 have ih:=QH p q hk ((ay p.rules).length-1)
 have hz:=BA (k:=(ay p.rules).length) (m:=(ay p.rules).length) hk hk
 obtain⟨m,hm',hm⟩:∃m,m=(ay p.rules).length/\m<=3:=⟨_,rfl,hk⟩
 obtain⟨outs,ho⟩:∃outs:List (List Int),outs=[]:=⟨_,rfl⟩
 obtain⟨at_,ha⟩:∃at_:List Int,at_=[]:=⟨_,rfl⟩
 have hs:dS (ay p.rules).length at_:=by rw[ha];exact tW _
 have hl:(ay p.rules).length-at_.length<=m:=by omega
 have hb:outs.length+((ay p.rules).length+1)^m<=1000000:=by rw[ho,hm'];simp only[List.length_nil];omega
 have hF:aO p=outs++oe (ay p.rules).length m at_:=by rw[ho,ha,hm'];rfl
 rw[hF,<-ho]
 rw[<-hm'] at ih
 clear hF hz hm'
 have hal:=cu hs
 have eL:=xn hs hl
 have hx1:=fun i=>tU (ay p.rules).length m at_ i
 have hx2:=fun i=>xm (ay p.rules).length m at_ i
 have hx0:=qB (ay p.rules).length m at_ (outs++[at_])
 generalize hKd:(ay p.rules).length=k at*
 have hp1:1<=(k+1)^m:=Nat.pow_pos (by omega)
 refine aj.intro ab ac (Mt p q outs) Tryz.func105 rfl (by decide) ?_
 conv=>whnf
 refine FF [] A7 [at_] ⟨⟨.inr ⟨rfl,Int,0,al,by rw[ha]⟩,trivial⟩,trivial⟩ ?_
 conv=>whnf
 refine bq [at_] rfl lI ?_
 conv=>whnf
 refine aJ.loopF ab ac (fun i:Nat=>i<=k) (fun i=>[(6, .top),(8, .top),(9, .top),(15, .int .i64 (i:Int))]) (fun i=>Pp p q (outs++[at_]++fZ k m at_ i)) (fun i=>k-i) 0 (Nat.zero_le _) ?_;conv=>whnf
 refine⟨by rw[hx0];exact aH.by_ [(200, .old 200),(201, .old 201),(204, .old 9),(202, .old 202)] _ 400 rfl (aa) (aa),?_⟩
 rintro i hi
 conv=>whnf
 refine ae ?_ ?_<;>(intro h1;conv=>whnf)
 ·have hik:i<k:=by omega
  have eu:=hx2 i
  refine dC (EF (.inl ⟨ha,rfl⟩) (i:Int) (by omega)) (fun _=>?_) (fun _=>?_)<;>(conv=>whnf)
  ·rename_i hm2
   rw[if_pos hm2,List.append_nil] at eu
   repeat' ((first|refine nI ?_|refine aI ?_|refine tI ?_|refine fI ?_|fail);conv=>whnf)
   refine⟨i+1,?_,by omega,by dsimp only;omega⟩
   dsimp only
   rw[eu]
   exact aH.by_ [(200, .old 200),(201, .old 201),(204, .old 204),(202, .old 202)] _ 400 rfl (aa) (aa)
  ·rename_i hm2
   rw[if_neg hm2] at eu
   have hm0:0<m:=Nat.pos_of_ne_zero fun h0=>hm2 (pr hs (by omega) hik)
   have hx:(outs++[at_]++fZ k m at_ i).length+(k+1)^(m-1)<=1000000:=by
    have a:=hx1 i
    obtain⟨n,rfl⟩:∃n,m=n+1:=⟨m-1,by omega⟩
    rw[Nat.add_sub_cancel] at a⊢
    rw[Nat.pow_succ] at hb
    have b:(i+1)*(k+1)^n<=k*(k+1)^n:=Nat.mul_le_mul_right _ (by omega)
    have c:1<=(k+1)^n:=Nat.pow_pos (by omega)
    simp only[List.length_append,List.length_cons,List.length_nil]
    rw[Nat.add_mul,Nat.one_mul] at b
    rw[Nat.mul_add,Nat.mul_one,Nat.mul_comm _ k] at hb
    omega
   have hc:=ih (at_++[(i:Int)]) (outs++[at_]++fZ k m at_ i) (by simp) (by omega) (by rw[hKd];exact pu hs hik hm2) (by rw[hKd];simp only[List.length_append,List.length_cons,List.length_nil];omega) (by rw[hKd];exact hx)
   rw[hKd] at hc
   have hq:at_++[(i:Int)]=[(i:Int)]:=by rw[ha];rfl
   rw[hq] at hc eu
   refine nU ?_
   conv=>whnf
   repeat' first
    |exact True.intro
    |(refine And.intro ?_ ?_<;>conv=>whnf)
    |(refine aj.of_pure (n:=5) Ms (by rfl) ?_;rintro u rfl;conv=>whnf)
    |(refine bp 0 al [(i:Int)] rfl ?_;conv=>whnf)
    |(refine bq [(i:Int)] rfl lI ?_;conv=>whnf)
    |(refine bU ?_;conv=>whnf)
    |(refine bg (show 1*8<=140737488355328 by omega) ?_;conv=>whnf)
    |fail
   all_goals first
    |(refine aj.hand 27 rfl ?_
      refine aj.call [(200, .old 200),(201, .old 204),(202, .old 202)] (Mt p q (outs++[at_]++fZ k m at_ i)) 400 rfl (aa) (aa) hc ?_
      rintro u M' ⟨rfl,rfl⟩
      refine⟨[(200, .old 200),(204, .old 201),(205, .old 204),(202, .old 202)],[(200, .box 38 [.row 205 (outs++[at_]++fZ k m at_ i++oe k (m-1) [(i:Int)]).length 1]),(204, .dead),(205,ph (outs++[at_]++fZ k m at_ i++oe k (m-1) [(i:Int)])),(202, .box 128 [.fn 105 [.ptr 200 0, .pd [.pd (fE p q)], .ptr 202 0]])], .tup [],rfl,(aa),trivial,?_⟩
      conv=>whnf
      repeat' ((first|refine nI ?_|refine aI ?_|refine tI ?_|refine fI ?_|fail);conv=>whnf)
      refine⟨i+1,?_,by omega,by dsimp only;omega⟩
      dsimp only
      rw[eu,<-List.append_assoc]
      exact aH.by_ [(200, .old 200),(201, .old 201),(204, .old 205),(202, .old 202)] _ 400 rfl (aa) (aa))
    |trace_state
 ·obtain rfl:i=k:=by omega
  have e:outs++oe i m at_=outs++[at_]++fZ i m at_ i:=by rw[eL,List.append_assoc];rfl
  rw[e]
  exact⟨rfl,rfl⟩
theorem tX (p:av) (q:aP) (hk:(ay p.rules).length<=3):ah Tryz.prog 37 [.pd (fE p q)] (fun u=>u= .sl [] A7 (aO p)):=by
 refine ah.intro ab ac Tryz.func37 rfl (by decide) ?_;(conv=>whnf)
 refine au rfl ?_
 conv=>whnf
 refine aj.call [(200, .old 3),(201, .nil 1),(202, .old 4)] (Mt p q []) 400 rfl (aa) (aa) (PS p q hk) ?_
 rintro u M' ⟨rfl,rfl⟩
 refine⟨[(3, .old 200),(204, .old 204),(4, .old 202)],[(3, .box 38 [.row 204 (aO p).length 1]),(204,ph (aO p)),(4, .box 128 [.fn 105 [.ptr 3 0, .pd [.pd (fE p q)], .ptr 4 0]])], .tup [],rfl,(aa),trivial,?_⟩
 conv=>whnf
 exact⟨rfl,rfl⟩
theorem G3 (p:av) (q:aP) (hp:lO p) (hq:rS q):ah Tryz.prog 46 [.agg (cV p), .agg (eO q)] (fun u=>u=EE p q):=by
 refine ah.intro ab ac Tryz.func46 rfl (by decide) ?_;(conv=>whnf)
 refine au rfl ?_
 conv=>whnf
 refine au rfl ?_
 conv=>whnf
 refine aj.of_pure (n:=5) (tS p q hp hq) (by rfl) ?_
 rintro u rfl
 by_cases h0:dq p q=0
 ·rw[ja h0]
  have hv:=(aW (du h0)).vld
  have hT:=(aN hv).thr
  conv=>whnf
  refine fI ?_
  conv=>whnf
  (refine oP (tX p q (by omega)) ?_;conv=>whnf)
  exact⟨(tV h0).symm,rfl⟩
 ·rw[gz rfl h0]
  conv=>whnf
  refine ae ?_ ?_<;>(intro h;conv=>whnf)
  ·exact⟨(xp h0).symm,rfl⟩
  ·exact absurd h0 (fun e=>h e)
theorem PT (n:Int):ah Tryz.prog 9 [.int .i64 n] (fun u=>u= .int .i64 (if 40<n then 40 else n)):=by
 refine ah.intro ab ac Tryz.func9 rfl (by decide) ?_;(conv=>whnf)
 exact⟨rfl,rfl⟩
end Go.Proofs.YtekmminpfhacpaaGreatDoor
