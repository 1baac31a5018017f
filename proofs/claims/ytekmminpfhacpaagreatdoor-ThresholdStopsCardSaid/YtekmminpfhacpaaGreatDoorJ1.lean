import Derived.Test.YtekmminpfhacpaaGreatDoorW0
set_option linter.unusedVariables false
set_option linter.unusedSimpArgs false
namespace Go.Proofs.YtekmminpfhacpaaGreatDoor
set_option maxRecDepth 100000
set_option maxHeartbeats 16000000
def gq (k m:Nat) (at_:List Int) (i:Nat):List (List Int):=(List.range i).flatMap fun i:Nat=>if(i:Int)∈at_ then[] else rD k (m-1) (at_++[(i:Int)])
theorem qz (k m:Nat) (at_:List Int) (l:List (List Int)):l++gq k m at_ 0=l:=by simp[gq]
theorem wJ (k m:Nat) (at_:List Int) (i:Nat):gq k m at_ (i+1)=gq k m at_ i++if(i:Int)∈at_ then[] else rD k (m-1) (at_++[(i:Int)]):=by
 unfold gq;rw[List.range_succ,List.flatMap_append];simp
theorem oU {k:Nat} {l:List Int} (h:eM k l) (hl:k<=l.length) {i:Nat} (hi:i<k):(i:Int)∈l:=by
 refine Classical.byContradiction fun hn=>?_
 have h1:((i:Int)::l).Nodup:=List.nodup_cons.2 ⟨hn,qp h⟩
 have h2:=jX (n:=k) h1 fun x hx=>by
  rcases List.mem_cons.1 hx with rfl|hx
  ·omega
  ·obtain⟨j,hj,e⟩:=List.getElem_of_mem hx
   have:=(h j hj).1
   rwa [au 0 hj,e] at this
 simp only[List.length_cons] at h2
 omega
theorem tV {k:Nat} {l:List Int} (h:eM k l) {i:Nat} (hi:i<k) (hn:(i:Int)∉l):eM k (l++[(i:Int)]):=by
 intro j hj
 rw[List.length_append,List.length_singleton] at hj
 by_cases e:j<l.length
 ·have e1:(l++[(i:Int)]).getD j 0=l.getD j 0:=by
   rw[gD,List.getElem?_append_left e,<-gD]
  rw[e1,List.take_append_of_le_length (by omega)]
  exact h j e
 ·obtain rfl:j=l.length:=by omega
  have e1:(l++[(i:Int)]).getD l.length 0=(i:Int):=by
   rw[gD,List.getElem?_append_right (Nat.le_refl _),Nat.sub_self];rfl
  rw[e1,List.take_left']
  ·exact⟨by omega,hn⟩
  ·rfl
theorem wK {k m:Nat} {at_:List Int} (h:eM k at_) (hm:k-at_.length<=m):rD k m at_=at_::gq k m at_ k:=by
 cases m with
 |zero=>
  rw[rD]
  have:gq k 0 at_ k=[]:=by
   unfold gq
   rw[List.flatMap_eq_nil_iff]
   intro i hi
   rw[if_pos (oU h (by omega) (List.mem_range.1 hi))]
  rw[this]
 |succ m=>rfl
theorem wL (k:Nat):∀(m:Nat) (at_:List Int),(rD k m at_).length<=(k+1)^m
 |0,at_=>by simp[rD]
 |m+1,at_=>by
  rw[rD,List.length_cons]
  have hp:1<=(k+1)^m:=Nat.pow_pos (by omega)
  have:=rJ (fun i:Nat=>if(i:Int)∈at_ then[] else rD k m (at_++[(i:Int)])) ((k+1)^m) (List.range k) fun i _=>by
   split
   ·simp
   ·exact wL k m _
  rw[List.length_range] at this
  rw[Nat.pow_succ,Nat.mul_add,Nat.mul_one]
  omega
theorem tW (k m:Nat) (at_:List Int) (i:Nat):(gq k m at_ i).length<=i*(k+1)^(m-1):=by
 have:=rJ (fun i:Nat=>if(i:Int)∈at_ then[] else rD k (m-1) (at_++[(i:Int)])) ((k+1)^(m-1)) (List.range i) fun i _=>by
  split
  ·simp
  ·exact wL k (m-1) _
 rw[List.length_range,Nat.mul_comm] at this
 exact this
def AU (p:an) (q:aE):AV:=if dl p q=0 then .tup [.sl [] xB (rE p), .int .i64 0] else .tup [.nilsl, .int .i64 (dl p q)]
theorem Fz {p:an} {q:aE} (h:dl p q≠0):AU p q= .tup [.nilsl, .int .i64 (dl p q)]:=by unfold AU;rw[if_neg h]
theorem AW {p:an} {q:aE} (h:dl p q=0):AU p q= .tup [.sl [] xB (rE p), .int .i64 0]:=by unfold AU;rw[if_pos h]
theorem AX (k:Nat):eM k []:=fun i hi=>absurd hi (Nat.not_lt_zero _)
theorem FA {k m:Nat} (hk:k<=3) (hm:m<=3):(k+1)^m<=64:=by
 have a:(k+1)^m<=4^m:=Nat.pow_le_pow_left (by omega) m
 have b:4^m<=4^3:=Nat.pow_le_pow_right (by omega) hm
 omega
theorem tX {S:ai} {α:Type} (d:α) (enc:α->List AV) (v:Value) (h:RP S v .nilsl):RP S v (.sl d enc []):=by
 cases h
 exact .sl d enc [] none 0 1 (fun _ _=>.int .i64 0) (by simp) (by simp) (by simp) (fun i j hi=>by simp at hi) (by simp) (fun i a j u hi=>by simp at hi)
theorem ab.weak {P:Program} {f:FuncId} {args args':List AV} {R:AV->Prop} (h:ab P f args' R) (hw:∀S vs,f9 S vs args->f9 S vs args'):ab P f args R:=by
 rw[dY] at*
 exact⟨h.1,fun S F vs w h1 h2 h3 h4 hv=>h.2 S F vs w h1 h2 h3 h4 (hw S vs hv)⟩
def IY (l:List Int) (u:AV):Prop:=(l=[]/\u= .nilsl)\/(l≠[]/\u= .sl 0 ao l)
theorem x7 {l:List Int} {u:AV} (h:IY l u) (s:Int) (hl:l.length<=4503599627370496):ab Tryz.prog 82 [u, .int .i64 s] (fun u=>u= .bool (decide (s∈l))):=by
 rcases h with ⟨rfl,rfl⟩|⟨_,rfl⟩
 ·exact(bo [] s (by simp)).weak fun S vs hv=>by
   obtain⟨v,vs',rfl,h1,h2⟩:=hv.cons_inv
   exact f9.cons (tX 0 ao v h1) h2
 ·exact bo l s hl
theorem FB (l:List Int) (hl:l.length<=1000) (h0:l≠[]):am Tryz.prog 39 [.sl 0 ao l] (aj.ofL []) (fun u M=>∃ℓ,u= .row ℓ l.length 1/\M ℓ=some (.row 3 0 ao l)):=by
 refine am.intro ac ae [] Tryz.func39 rfl (by decide) ?_
 conv=>whnf
 refine cz h0 ?_
 conv=>whnf
 refine bD 0 ao [] rfl ?_
 conv=>whnf
 refine bQ l rfl (by simp only[List.length_nil];omega) ?_
 conv=>whnf
 exact⟨7,congrArg (AV.row 7 · 1) (Nat.zero_add _),rfl⟩
theorem FC:ab Tryz.prog 39 [.nilsl] (fun u=>u= .nilsl):=by
 refine ab.intro ac ae Tryz.func39 rfl (by decide) ?_;(conv=>whnf)
 conv=>whnf
 exact⟨rfl,rfl⟩
def FD (p:an) (q:aE) (outs:List (List Int)):List (Nat×bP):=[(200, .box 38 [.row 201 outs.length 1]),(201,zw outs),(202, .box 128 [.fn 105 [.ptr 200 0, .pd [.pd (du p q)], .ptr 202 0]])]
def HF (p:an) (q:aE) (outs:List (List Int)):List (Nat×bP):=[(200, .box 38 [.row 204 outs.length 1]),(201, .dead),(204,zw outs),(202, .box 128 [.fn 105 [.ptr 200 0, .pd [.pd (du p q)], .ptr 202 0]])]
def HW (p:an) (q:aE) (m:Nat):Prop:=∀(at_:List Int) (outs:List (List Int)),at_≠[]->m<=3->eM (ar p.rules).length at_->(ar p.rules).length-at_.length<=m->outs.length+((ar p.rules).length+1)^m<=1000000->
  am Tryz.prog 105 [.sl 0 ao at_, .ptr 200 0, .pd [.pd (du p q)], .ptr 202 0] (aj.ofL (FD p q outs)) (fun u M=>u= .tup []/\M=aj.ofL (HF p q (outs++rD (ar p.rules).length m at_)))
theorem IB (p:an) (q:aE) (hk:(ar p.rules).length<=3) (m:Nat) (ih:0<m->HW p q (m-1)):HW p q m:=by
 intro at_ outs h0 hm hs hl hb
 have hal:=dF hs
 have eL:=wK hs hl
 have hx1:=fun i=>tW (ar p.rules).length m at_ i
 have hx2:=fun i=>wJ (ar p.rules).length m at_ i
 have hx0:=qz (ar p.rules).length m at_ (outs++[at_])
 generalize hKd:(ar p.rules).length=k at*
 have hp1:1<=(k+1)^m:=Nat.pow_pos (by omega)
 refine am.intro ac ae (FD p q outs) Tryz.func105 rfl (by decide) ?_
 conv=>whnf
 refine bD [] xB [at_] rfl ?_
 conv=>whnf
 refine bQ [at_] rfl lI ?_
 conv=>whnf
 refine aF.loopF ac ae (fun i:Nat=>i<=k) (fun i=>[(6, .top),(8, .top),(9, .top),(15, .int .i64 (i:Int))]) (fun i=>HF p q (outs++[at_]++gq k m at_ i)) (fun i=>k-i) 0 (Nat.zero_le _) ?_;conv=>whnf
 refine⟨by rw[hx0];exact aR.by_ [(200, .old 200),(201, .old 201),(204, .old 9),(202, .old 202)] _ 400 rfl (aa) (aa),?_⟩
 rintro i hi
 conv=>whnf
 refine ag ?_ ?_<;>(intro h1;conv=>whnf)
 ·have hik:i<k:=by omega
  have eu:=hx2 i
  refine dC (bo at_ (i:Int) (by omega)) (fun _=>?_) (fun _=>?_)<;>(conv=>whnf)
  ·rename_i hm2
   rw[if_pos hm2,List.append_nil] at eu
   repeat' ((first|refine nI ?_|refine aI ?_|refine tI ?_|refine fI ?_|fail);conv=>whnf)
   refine⟨i+1,?_,by omega,by dsimp only;omega⟩
   dsimp only
   rw[eu]
   exact aR.by_ [(200, .old 200),(201, .old 201),(204, .old 204),(202, .old 202)] _ 400 rfl (aa) (aa)
  ·rename_i hm2
   rw[if_neg hm2] at eu
   have hm0:0<m:=Nat.pos_of_ne_zero fun h0=>hm2 (oU hs (by omega) hik)
   have hx:(outs++[at_]++gq k m at_ i).length+(k+1)^(m-1)<=1000000:=by
    have a:=hx1 i
    obtain⟨n,rfl⟩:∃n,m=n+1:=⟨m-1,by omega⟩
    rw[Nat.add_sub_cancel] at a⊢
    rw[Nat.pow_succ] at hb
    have b:(i+1)*(k+1)^n<=k*(k+1)^n:=Nat.mul_le_mul_right _ (by omega)
    have c:1<=(k+1)^n:=Nat.pow_pos (by omega)
    simp only[List.length_append,List.length_cons,List.length_nil]
    rw[Nat.add_mul,Nat.one_mul] at b
    rw[Nat.mul_add,Nat.mul_one,Nat.mul_comm _ k] at hb
    omega
   have hc:=ih hm0 (at_++[(i:Int)]) (outs++[at_]++gq k m at_ i) (by simp) (by omega) (by rw[hKd];exact tV hs hik hm2) (by rw[hKd];simp only[List.length_append,List.length_cons,List.length_nil];omega) (by rw[hKd];exact hx)
   rw[hKd] at hc
   refine s4 ?_
   conv=>whnf
   repeat' first
    |exact True.intro
    |(refine And.intro ?_ ?_<;>conv=>whnf)
    |(refine am.fresh 24 (FB at_ (by omega) h0) rfl (aa) ?_;conv=>whnf)
    |(refine bD 0 ao [(i:Int)] rfl ?_;conv=>whnf)
    |(refine bQ [(i:Int)] rfl lI ?_;conv=>whnf)
    |(refine fu ?_;conv=>whnf)
    |fail
   all_goals first
    |(refine am.hand 27 rfl ?_
      refine am.call [(200, .old 200),(201, .old 204),(202, .old 202)] (FD p q (outs++[at_]++gq k m at_ i)) 400 rfl (aa) (aa) hc ?_
      rintro u M' ⟨rfl,rfl⟩
      refine⟨[(200, .old 200),(204, .old 201),(205, .old 204),(202, .old 202)],[(200, .box 38 [.row 205 (outs++[at_]++gq k m at_ i++rD k (m-1) (at_++[(i:Int)])).length 1]),(204, .dead),(205,zw (outs++[at_]++gq k m at_ i++rD k (m-1) (at_++[(i:Int)]))),(202, .box 128 [.fn 105 [.ptr 200 0, .pd [.pd (du p q)], .ptr 202 0]])], .tup [],rfl,(aa),trivial,?_⟩
      conv=>whnf
      repeat' ((first|refine nI ?_|refine aI ?_|refine tI ?_|refine fI ?_|fail);conv=>whnf)
      refine⟨i+1,?_,by omega,by dsimp only;omega⟩
      dsimp only
      rw[eu,<-List.append_assoc]
      exact aR.by_ [(200, .old 200),(201, .old 201),(204, .old 205),(202, .old 202)] _ 400 rfl (aa) (aa))
    |trace_state
 ·obtain rfl:i=k:=by omega
  have e:outs++rD i m at_=outs++[at_]++gq i m at_ i:=by rw[eL,List.append_assoc];rfl
  rw[e]
  exact⟨rfl,rfl⟩
theorem IC (p:an) (q:aE) (hk:(ar p.rules).length<=3):∀m,HW p q m
 |0=>IB p q hk 0 fun h=>absurd h (Nat.lt_irrefl _)
 |m+1=>IB p q hk (m+1) fun _=>IC p q hk m
theorem HX (p:an) (q:aE) (hk:(ar p.rules).length<=3):am Tryz.prog 105 [.nilsl, .ptr 200 0, .pd [.pd (du p q)], .ptr 202 0] (aj.ofL (FD p q [])) (fun u M=>u= .tup []/\M=aj.ofL (HF p q (rE p))):=by
 have ih:=IC p q hk ((ar p.rules).length-1)
 have hz:=FA (k:=(ar p.rules).length) (m:=(ar p.rules).length) hk hk
 obtain⟨m,hm',hm⟩:∃m,m=(ar p.rules).length/\m<=3:=⟨_,rfl,hk⟩
 obtain⟨outs,ho⟩:∃outs:List (List Int),outs=[]:=⟨_,rfl⟩
 obtain⟨at_,ha⟩:∃at_:List Int,at_=[]:=⟨_,rfl⟩
 have hs:eM (ar p.rules).length at_:=by rw[ha];exact AX _
 have hl:(ar p.rules).length-at_.length<=m:=by omega
 have hb:outs.length+((ar p.rules).length+1)^m<=1000000:=by rw[ho,hm'];simp only[List.length_nil];omega
 have hF:rE p=outs++rD (ar p.rules).length m at_:=by rw[ho,ha,hm'];rfl
 rw[hF,<-ho]
 rw[<-hm'] at ih
 clear hF hz hm'
 have hal:=dF hs
 have eL:=wK hs hl
 have hx1:=fun i=>tW (ar p.rules).length m at_ i
 have hx2:=fun i=>wJ (ar p.rules).length m at_ i
 have hx0:=qz (ar p.rules).length m at_ (outs++[at_])
 generalize hKd:(ar p.rules).length=k at*
 have hp1:1<=(k+1)^m:=Nat.pow_pos (by omega)
 refine am.intro ac ae (FD p q outs) Tryz.func105 rfl (by decide) ?_
 conv=>whnf
 refine Gs [] xB [at_] ⟨⟨.inr ⟨rfl,Int,0,ao,by rw[ha]⟩,trivial⟩,trivial⟩ ?_
 conv=>whnf
 refine bQ [at_] rfl lI ?_
 conv=>whnf
 refine aF.loopF ac ae (fun i:Nat=>i<=k) (fun i=>[(6, .top),(8, .top),(9, .top),(15, .int .i64 (i:Int))]) (fun i=>HF p q (outs++[at_]++gq k m at_ i)) (fun i=>k-i) 0 (Nat.zero_le _) ?_;conv=>whnf
 refine⟨by rw[hx0];exact aR.by_ [(200, .old 200),(201, .old 201),(204, .old 9),(202, .old 202)] _ 400 rfl (aa) (aa),?_⟩
 rintro i hi
 conv=>whnf
 refine ag ?_ ?_<;>(intro h1;conv=>whnf)
 ·have hik:i<k:=by omega
  have eu:=hx2 i
  refine dC (x7 (.inl ⟨ha,rfl⟩) (i:Int) (by omega)) (fun _=>?_) (fun _=>?_)<;>(conv=>whnf)
  ·rename_i hm2
   rw[if_pos hm2,List.append_nil] at eu
   repeat' ((first|refine nI ?_|refine aI ?_|refine tI ?_|refine fI ?_|fail);conv=>whnf)
   refine⟨i+1,?_,by omega,by dsimp only;omega⟩
   dsimp only
   rw[eu]
   exact aR.by_ [(200, .old 200),(201, .old 201),(204, .old 204),(202, .old 202)] _ 400 rfl (aa) (aa)
  ·rename_i hm2
   rw[if_neg hm2] at eu
   have hm0:0<m:=Nat.pos_of_ne_zero fun h0=>hm2 (oU hs (by omega) hik)
   have hx:(outs++[at_]++gq k m at_ i).length+(k+1)^(m-1)<=1000000:=by
    have a:=hx1 i
    obtain⟨n,rfl⟩:∃n,m=n+1:=⟨m-1,by omega⟩
    rw[Nat.add_sub_cancel] at a⊢
    rw[Nat.pow_succ] at hb
    have b:(i+1)*(k+1)^n<=k*(k+1)^n:=Nat.mul_le_mul_right _ (by omega)
    have c:1<=(k+1)^n:=Nat.pow_pos (by omega)
    simp only[List.length_append,List.length_cons,List.length_nil]
    rw[Nat.add_mul,Nat.one_mul] at b
    rw[Nat.mul_add,Nat.mul_one,Nat.mul_comm _ k] at hb
    omega
   have hc:=ih (at_++[(i:Int)]) (outs++[at_]++gq k m at_ i) (by simp) (by omega) (by rw[hKd];exact tV hs hik hm2) (by rw[hKd];simp only[List.length_append,List.length_cons,List.length_nil];omega) (by rw[hKd];exact hx)
   rw[hKd] at hc
   have hq:at_++[(i:Int)]=[(i:Int)]:=by rw[ha];rfl
   rw[hq] at hc eu
   refine s4 ?_
   conv=>whnf
   repeat' first
    |exact True.intro
    |(refine And.intro ?_ ?_<;>conv=>whnf)
    |(refine am.of_pure (n:=5) FC (by rfl) ?_;rintro u rfl;conv=>whnf)
    |(refine bD 0 ao [(i:Int)] rfl ?_;conv=>whnf)
    |(refine bQ [(i:Int)] rfl lI ?_;conv=>whnf)
    |(refine fu ?_;conv=>whnf)
    |(refine cz (show 1*8<=140737488355328 by omega) ?_;conv=>whnf)
    |fail
   all_goals first
    |(refine am.hand 27 rfl ?_
      refine am.call [(200, .old 200),(201, .old 204),(202, .old 202)] (FD p q (outs++[at_]++gq k m at_ i)) 400 rfl (aa) (aa) hc ?_
      rintro u M' ⟨rfl,rfl⟩
      refine⟨[(200, .old 200),(204, .old 201),(205, .old 204),(202, .old 202)],[(200, .box 38 [.row 205 (outs++[at_]++gq k m at_ i++rD k (m-1) [(i:Int)]).length 1]),(204, .dead),(205,zw (outs++[at_]++gq k m at_ i++rD k (m-1) [(i:Int)])),(202, .box 128 [.fn 105 [.ptr 200 0, .pd [.pd (du p q)], .ptr 202 0]])], .tup [],rfl,(aa),trivial,?_⟩
      conv=>whnf
      repeat' ((first|refine nI ?_|refine aI ?_|refine tI ?_|refine fI ?_|fail);conv=>whnf)
      refine⟨i+1,?_,by omega,by dsimp only;omega⟩
      dsimp only
      rw[eu,<-List.append_assoc]
      exact aR.by_ [(200, .old 200),(201, .old 201),(204, .old 205),(202, .old 202)] _ 400 rfl (aa) (aa))
    |trace_state
 ·obtain rfl:i=k:=by omega
  have e:outs++rD i m at_=outs++[at_]++gq i m at_ i:=by rw[eL,List.append_assoc];rfl
  rw[e]
  exact⟨rfl,rfl⟩
theorem AY (p:an) (q:aE) (hk:(ar p.rules).length<=3):ab Tryz.prog 37 [.pd (du p q)] (fun u=>u= .sl [] xB (rE p)):=by
 refine ab.intro ac ae Tryz.func37 rfl (by decide) ?_;(conv=>whnf)
 refine ak rfl ?_
 conv=>whnf
 refine am.call [(200, .old 3),(201, .nil 1),(202, .old 4)] (FD p q []) 400 rfl (aa) (aa) (HX p q hk) ?_
 rintro u M' ⟨rfl,rfl⟩
 refine⟨[(3, .old 200),(204, .old 204),(4, .old 202)],[(3, .box 38 [.row 204 (rE p).length 1]),(204,zw (rE p)),(4, .box 128 [.fn 105 [.ptr 3 0, .pd [.pd (du p q)], .ptr 4 0]])], .tup [],rfl,(aa),trivial,?_⟩
 conv=>whnf
 exact⟨rfl,rfl⟩
theorem AZ (p:an) (q:aE) (hp:g7 p) (hq:qk q):ab Tryz.prog 46 [.agg (aB p), .agg (cJ q)] (fun u=>u=AU p q):=by
 refine ab.intro ac ae Tryz.func46 rfl (by decide) ?_;(conv=>whnf)
 refine ak rfl ?_
 conv=>whnf
 refine ak rfl ?_
 conv=>whnf
 refine am.of_pure (n:=5) (tQ p q hp hq) (by rfl) ?_
 rintro u rfl
 by_cases h0:dl p q=0
 ·rw[i4 h0]
  have hv:=(bl (gp h0)).vld
  have hT:=(bk hv).thr
  conv=>whnf
  refine fI ?_
  conv=>whnf
  (refine oP (AY p q (by omega)) ?_;conv=>whnf)
  exact⟨(AW h0).symm,rfl⟩
 ·rw[fT rfl h0]
  conv=>whnf
  refine ag ?_ ?_<;>(intro h;conv=>whnf)
  ·exact⟨(Fz h0).symm,rfl⟩
  ·exact absurd h0 (fun e=>h e)
theorem ab.arg {P:Program} {f:FuncId} {args args':List AV} {R:AV->Prop} (h:ab P f args' R) (ha:hZ [] 20 args args') (hp:args'.all (cg 5)=true):ab P f args R:=
 h.weak fun S vs hv=>l9 hp ((iG (S:=S) (ρ:=fun _=>none) (lm:=[]) 20).2 args args' vs ha (hv.rv _))
end Go.Proofs.YtekmminpfhacpaaGreatDoor
