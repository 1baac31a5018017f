import Derived.Test.YtekmminpfhacpaaGreatDoorW0
set_option linter.unusedVariables false
set_option linter.unusedSimpArgs false
namespace Go.Proofs.YtekmminpfhacpaaGreatDoor
set_option maxRecDepth 100000
set_option maxHeartbeats 16000000
def iG (k m:Nat) (at_:List Int) (i:Nat):List (List Int):=(List.range i).flatMap fun i:Nat=>if(i:Int)∈at_ then[] else uG k (m-1) (at_++[(i:Int)])
theorem tA (k m:Nat) (at_:List Int) (l:List (List Int)):l++iG k m at_ 0=l:=by simp[iG]
theorem AB (k m:Nat) (at_:List Int) (i:Nat):iG k m at_ (i+1)=iG k m at_ i++if(i:Int)∈at_ then[] else uG k (m-1) (at_++[(i:Int)]):=by
 unfold iG;rw[List.range_succ,List.flatMap_append];simp
theorem rE {k:Nat} {l:List Int} (h:da k l) (hl:k<=l.length) {i:Nat} (hi:i<k):(i:Int)∈l:=by
 refine Classical.byContradiction fun hn=>?_
 have h1:((i:Int)::l).Nodup:=List.nodup_cons.2 ⟨hn,tl h⟩
 have h2:=lY (n:=k) h1 fun x hx=>by
  rcases List.mem_cons.1 hx with rfl|hx
  ·omega
  ·obtain⟨j,hj,e⟩:=List.getElem_of_mem hx
   have:=(h j hj).1
   rwa [av 0 hj,e] at this
 simp only[List.length_cons] at h2
 omega
theorem xj {k:Nat} {l:List Int} (h:da k l) {i:Nat} (hi:i<k) (hn:(i:Int)∉l):da k (l++[(i:Int)]):=by
 intro j hj
 rw[List.length_append,List.length_singleton] at hj
 by_cases e:j<l.length
 ·have e1:(l++[(i:Int)]).getD j 0=l.getD j 0:=by
   rw[gD,List.getElem?_append_left e,<-gD]
  rw[e1,List.take_append_of_le_length (by omega)]
  exact h j e
 ·obtain rfl:j=l.length:=by omega
  have e1:(l++[(i:Int)]).getD l.length 0=(i:Int):=by
   rw[gD,List.getElem?_append_right (Nat.le_refl _),Nat.sub_self];rfl
  rw[e1,List.take_left']
  ·exact⟨by omega,hn⟩
  ·rfl
theorem AC {k m:Nat} {at_:List Int} (h:da k at_) (hm:k-at_.length<=m):uG k m at_=at_::iG k m at_ k:=by
 cases m with
 |zero=>
  rw[uG]
  have:iG k 0 at_ k=[]:=by
   unfold iG
   rw[List.flatMap_eq_nil_iff]
   intro i hi
   rw[if_pos (rE h (by omega) (List.mem_range.1 hi))]
  rw[this]
 |succ m=>rfl
theorem AD (k:Nat):∀(m:Nat) (at_:List Int),(uG k m at_).length<=(k+1)^m
 |0,at_=>by simp[uG]
 |m+1,at_=>by
  rw[uG,List.length_cons]
  have hp:1<=(k+1)^m:=Nat.pow_pos (by omega)
  have:=nG (fun i:Nat=>if(i:Int)∈at_ then[] else uG k m (at_++[(i:Int)])) ((k+1)^m) (List.range k) fun i _=>by
   split
   ·simp
   ·exact AD k m _
  rw[List.length_range] at this
  rw[Nat.pow_succ,Nat.mul_add,Nat.mul_one]
  omega
theorem xk (k m:Nat) (at_:List Int) (i:Nat):(iG k m at_ i).length<=i*(k+1)^(m-1):=by
 have:=nG (fun i:Nat=>if(i:Int)∈at_ then[] else uG k (m-1) (at_++[(i:Int)])) ((k+1)^(m-1)) (List.range i) fun i _=>by
  split
  ·simp
  ·exact AD k (m-1) _
 rw[List.length_range,Nat.mul_comm] at this
 exact this
def FB (p:an) (q:aG):AV:=if cb p q=0 then .tup [.sl [] B3 (uH p), .int .i64 0] else .tup [.nilsl, .int .i64 (cb p q)]
theorem Lb {p:an} {q:aG} (h:cb p q≠0):FB p q= .tup [.nilsl, .int .i64 (cb p q)]:=by unfold FB;rw[if_neg h]
theorem FC {p:an} {q:aG} (h:cb p q=0):FB p q= .tup [.sl [] B3 (uH p), .int .i64 0]:=by unfold FB;rw[if_pos h]
theorem FD (k:Nat):da k []:=fun i hi=>absurd hi (Nat.not_lt_zero _)
theorem Lc {k m:Nat} (hk:k<=3) (hm:m<=3):(k+1)^m<=64:=by
 have a:(k+1)^m<=4^m:=Nat.pow_le_pow_left (by omega) m
 have b:4^m<=4^3:=Nat.pow_le_pow_right (by omega) hm
 omega
theorem xl {S:ai} {α:Type} (d:α) (enc:α->List AV) (v:Value) (h:RP S v .nilsl):RP S v (.sl d enc []):=by
 cases h
 exact .sl d enc [] none 0 1 (fun _ _=>.int .i64 0) (by simp) (by simp) (by simp) (fun i j hi=>by simp at hi) (by simp) (fun i a j u hi=>by simp at hi)
theorem ab.weak {P:Program} {f:FuncId} {args args':List AV} {R:AV->Prop} (h:ab P f args' R) (hw:∀S vs,gU S vs args->gU S vs args'):ab P f args R:=by
 rw[dv] at*
 exact⟨h.1,fun S F vs w h1 h2 h3 h4 hv=>h.2 S F vs w h1 h2 h3 h4 (hw S vs hv)⟩
def OO (l:List Int) (u:AV):Prop:=(l=[]/\u= .nilsl)\/(l≠[]/\u= .sl 0 ao l)
theorem Cy {l:List Int} {u:AV} (h:OO l u) (s:Int) (hl:l.length<=4503599627370496):ab Tryz.prog 82 [u, .int .i64 s] (fun u=>u= .bool (decide (s∈l))):=by
 rcases h with ⟨rfl,rfl⟩|⟨_,rfl⟩
 ·exact(be [] s (by simp)).weak fun S vs hv=>by
   obtain⟨v,vs',rfl,h1,h2⟩:=hv.cons_inv
   exact gU.cons (xl 0 ao v h1) h2
 ·exact be l s hl
theorem Ld (l:List Int) (hl:l.length<=1000) (h0:l≠[]):am Tryz.prog 39 [.sl 0 ao l] (aj.ofL []) (fun u M=>∃ℓ,u= .row ℓ l.length 1/\M ℓ=some (.row 3 0 ao l)):=by
 refine am.intro ae ag [] Tryz.func39 rfl (by decide) ?_
 conv=>whnf
 refine bX h0 ?_
 conv=>whnf
 refine cf 0 ao [] rfl ?_
 conv=>whnf
 refine cz l rfl (by simp only[List.length_nil];omega) ?_
 conv=>whnf
 exact⟨7,congrArg (AV.row 7 · 1) (Nat.zero_add _),rfl⟩
theorem Le:ab Tryz.prog 39 [.nilsl] (fun u=>u= .nilsl):=by
 refine ab.intro ae ag Tryz.func39 rfl (by decide) ?_;(conv=>whnf)
 conv=>whnf
 exact⟨rfl,rfl⟩
def Lf (p:an) (q:aG) (outs:List (List Int)):List (Nat×cp):=[(200, .box 38 [.row 201 outs.length 1]),(201,D4 outs),(202, .box 128 [.fn 105 [.ptr 200 0, .pd [.pd (dQ p q)], .ptr 202 0]])]
def NC (p:an) (q:aG) (outs:List (List Int)):List (Nat×cp):=[(200, .box 38 [.row 204 outs.length 1]),(201, .dead),(204,D4 outs),(202, .box 128 [.fn 105 [.ptr 200 0, .pd [.pd (dQ p q)], .ptr 202 0]])]
def NW (p:an) (q:aG) (m:Nat):Prop:=∀(at_:List Int) (outs:List (List Int)),at_≠[]->m<=3->da (ax p.rules).length at_->(ax p.rules).length-at_.length<=m->outs.length+((ax p.rules).length+1)^m<=1000000->
  am Tryz.prog 105 [.sl 0 ao at_, .ptr 200 0, .pd [.pd (dQ p q)], .ptr 202 0] (aj.ofL (Lf p q outs)) (fun u M=>u= .tup []/\M=aj.ofL (NC p q (outs++uG (ax p.rules).length m at_)))
theorem OA (p:an) (q:aG) (hk:(ax p.rules).length<=3) (m:Nat) (ih:0<m->NW p q (m-1)):NW p q m:=by
 intro at_ outs h0 hm hs hl hb
 have hal:=c5 hs
 have eL:=AC hs hl
 have hx1:=fun i=>xk (ax p.rules).length m at_ i
 have hx2:=fun i=>AB (ax p.rules).length m at_ i
 have hx0:=tA (ax p.rules).length m at_ (outs++[at_])
 generalize hKd:(ax p.rules).length=k at*
 have hp1:1<=(k+1)^m:=Nat.pow_pos (by omega)
 refine am.intro ae ag (Lf p q outs) Tryz.func105 rfl (by decide) ?_
 conv=>whnf
 refine cf [] B3 [at_] rfl ?_
 conv=>whnf
 refine cz [at_] rfl lI ?_
 conv=>whnf
 refine aQ.loopF ae ag (fun i:Nat=>i<=k) (fun i=>[(6, .top),(8, .top),(9, .top),(15, .int .i64 (i:Int))]) (fun i=>NC p q (outs++[at_]++iG k m at_ i)) (fun i=>k-i) 0 (Nat.zero_le _) ?_;conv=>whnf
 refine⟨by rw[hx0];exact bn.by_ [(200, .old 200),(201, .old 201),(204, .old 9),(202, .old 202)] _ 400 rfl (aa) (aa),?_⟩
 rintro i hi
 conv=>whnf
 refine ah ?_ ?_<;>(intro h1;conv=>whnf)
 ·have hik:i<k:=by omega
  have eu:=hx2 i
  refine dC (be at_ (i:Int) (by omega)) (fun _=>?_) (fun _=>?_)<;>(conv=>whnf)
  ·rename_i hm2
   rw[if_pos hm2,List.append_nil] at eu
   repeat' ((first|refine nI ?_|refine aI ?_|refine tI ?_|refine fI ?_|fail);conv=>whnf)
   refine⟨i+1,?_,by omega,by dsimp only;omega⟩
   dsimp only
   rw[eu]
   exact bn.by_ [(200, .old 200),(201, .old 201),(204, .old 204),(202, .old 202)] _ 400 rfl (aa) (aa)
  ·rename_i hm2
   rw[if_neg hm2] at eu
   have hm0:0<m:=Nat.pos_of_ne_zero fun h0=>hm2 (rE hs (by omega) hik)
   have hx:(outs++[at_]++iG k m at_ i).length+(k+1)^(m-1)<=1000000:=by
    have a:=hx1 i
    obtain⟨n,rfl⟩:∃n,m=n+1:=⟨m-1,by omega⟩
    rw[Nat.add_sub_cancel] at a⊢
    rw[Nat.pow_succ] at hb
    have b:(i+1)*(k+1)^n<=k*(k+1)^n:=Nat.mul_le_mul_right _ (by omega)
    have c:1<=(k+1)^n:=Nat.pow_pos (by omega)
    simp only[List.length_append,List.length_cons,List.length_nil]
    rw[Nat.add_mul,Nat.one_mul] at b
    rw[Nat.mul_add,Nat.mul_one,Nat.mul_comm _ k] at hb
    omega
   have hc:=ih hm0 (at_++[(i:Int)]) (outs++[at_]++iG k m at_ i) (by simp) (by omega) (by rw[hKd];exact xj hs hik hm2) (by rw[hKd];simp only[List.length_append,List.length_cons,List.length_nil];omega) (by rw[hKd];exact hx)
   rw[hKd] at hc
   refine ni ?_
   conv=>whnf
   repeat' first
    |exact True.intro
    |(refine And.intro ?_ ?_<;>conv=>whnf)
    |(refine am.fresh 24 (Ld at_ (by omega) h0) rfl (aa) ?_;conv=>whnf)
    |(refine cf 0 ao [(i:Int)] rfl ?_;conv=>whnf)
    |(refine cz [(i:Int)] rfl lI ?_;conv=>whnf)
    |(refine fl ?_;conv=>whnf)
    |fail
   all_goals first
    |(refine am.hand 27 rfl ?_
      refine am.call [(200, .old 200),(201, .old 204),(202, .old 202)] (Lf p q (outs++[at_]++iG k m at_ i)) 400 rfl (aa) (aa) hc ?_
      rintro u M' ⟨rfl,rfl⟩
      refine⟨[(200, .old 200),(204, .old 201),(205, .old 204),(202, .old 202)],[(200, .box 38 [.row 205 (outs++[at_]++iG k m at_ i++uG k (m-1) (at_++[(i:Int)])).length 1]),(204, .dead),(205,D4 (outs++[at_]++iG k m at_ i++uG k (m-1) (at_++[(i:Int)]))),(202, .box 128 [.fn 105 [.ptr 200 0, .pd [.pd (dQ p q)], .ptr 202 0]])], .tup [],rfl,(aa),trivial,?_⟩
      conv=>whnf
      repeat' ((first|refine nI ?_|refine aI ?_|refine tI ?_|refine fI ?_|fail);conv=>whnf)
      refine⟨i+1,?_,by omega,by dsimp only;omega⟩
      dsimp only
      rw[eu,<-List.append_assoc]
      exact bn.by_ [(200, .old 200),(201, .old 201),(204, .old 205),(202, .old 202)] _ 400 rfl (aa) (aa))
    |trace_state
 ·obtain rfl:i=k:=by omega
  have e:outs++uG i m at_=outs++[at_]++iG i m at_ i:=by rw[eL,List.append_assoc];rfl
  rw[e]
  exact⟨rfl,rfl⟩
theorem OB (p:an) (q:aG) (hk:(ax p.rules).length<=3):∀m,NW p q m
 |0=>OA p q hk 0 fun h=>absurd h (Nat.lt_irrefl _)
 |m+1=>OA p q hk (m+1) fun _=>OB p q hk m
theorem NY (p:an) (q:aG) (hk:(ax p.rules).length<=3):am Tryz.prog 105 [.nilsl, .ptr 200 0, .pd [.pd (dQ p q)], .ptr 202 0] (aj.ofL (Lf p q [])) (fun u M=>u= .tup []/\M=aj.ofL (NC p q (uH p))):=by
 have ih:=OB p q hk ((ax p.rules).length-1)
 have hz:=Lc (k:=(ax p.rules).length) (m:=(ax p.rules).length) hk hk
 obtain⟨m,hm',hm⟩:∃m,m=(ax p.rules).length/\m<=3:=⟨_,rfl,hk⟩
 obtain⟨outs,ho⟩:∃outs:List (List Int),outs=[]:=⟨_,rfl⟩
 obtain⟨at_,ha⟩:∃at_:List Int,at_=[]:=⟨_,rfl⟩
 have hs:da (ax p.rules).length at_:=by rw[ha];exact FD _
 have hl:(ax p.rules).length-at_.length<=m:=by omega
 have hb:outs.length+((ax p.rules).length+1)^m<=1000000:=by rw[ho,hm'];simp only[List.length_nil];omega
 have hF:uH p=outs++uG (ax p.rules).length m at_:=by rw[ho,ha,hm'];rfl
 rw[hF,<-ho]
 rw[<-hm'] at ih
 clear hF hz hm'
 have hal:=c5 hs
 have eL:=AC hs hl
 have hx1:=fun i=>xk (ax p.rules).length m at_ i
 have hx2:=fun i=>AB (ax p.rules).length m at_ i
 have hx0:=tA (ax p.rules).length m at_ (outs++[at_])
 generalize hKd:(ax p.rules).length=k at*
 have hp1:1<=(k+1)^m:=Nat.pow_pos (by omega)
 refine am.intro ae ag (Lf p q outs) Tryz.func105 rfl (by decide) ?_
 conv=>whnf
 refine Mm [] B3 [at_] ⟨⟨.inr ⟨rfl,Int,0,ao,by rw[ha]⟩,trivial⟩,trivial⟩ ?_
 conv=>whnf
 refine cz [at_] rfl lI ?_
 conv=>whnf
 refine aQ.loopF ae ag (fun i:Nat=>i<=k) (fun i=>[(6, .top),(8, .top),(9, .top),(15, .int .i64 (i:Int))]) (fun i=>NC p q (outs++[at_]++iG k m at_ i)) (fun i=>k-i) 0 (Nat.zero_le _) ?_;conv=>whnf
 refine⟨by rw[hx0];exact bn.by_ [(200, .old 200),(201, .old 201),(204, .old 9),(202, .old 202)] _ 400 rfl (aa) (aa),?_⟩
 rintro i hi
 conv=>whnf
 refine ah ?_ ?_<;>(intro h1;conv=>whnf)
 ·have hik:i<k:=by omega
  have eu:=hx2 i
  refine dC (Cy (.inl ⟨ha,rfl⟩) (i:Int) (by omega)) (fun _=>?_) (fun _=>?_)<;>(conv=>whnf)
  ·rename_i hm2
   rw[if_pos hm2,List.append_nil] at eu
   repeat' ((first|refine nI ?_|refine aI ?_|refine tI ?_|refine fI ?_|fail);conv=>whnf)
   refine⟨i+1,?_,by omega,by dsimp only;omega⟩
   dsimp only
   rw[eu]
   exact bn.by_ [(200, .old 200),(201, .old 201),(204, .old 204),(202, .old 202)] _ 400 rfl (aa) (aa)
  ·rename_i hm2
   rw[if_neg hm2] at eu
   have hm0:0<m:=Nat.pos_of_ne_zero fun h0=>hm2 (rE hs (by omega) hik)
   have hx:(outs++[at_]++iG k m at_ i).length+(k+1)^(m-1)<=1000000:=by
    have a:=hx1 i
    obtain⟨n,rfl⟩:∃n,m=n+1:=⟨m-1,by omega⟩
    rw[Nat.add_sub_cancel] at a⊢
    rw[Nat.pow_succ] at hb
    have b:(i+1)*(k+1)^n<=k*(k+1)^n:=Nat.mul_le_mul_right _ (by omega)
    have c:1<=(k+1)^n:=Nat.pow_pos (by omega)
    simp only[List.length_append,List.length_cons,List.length_nil]
    rw[Nat.add_mul,Nat.one_mul] at b
    rw[Nat.mul_add,Nat.mul_one,Nat.mul_comm _ k] at hb
    omega
   have hc:=ih (at_++[(i:Int)]) (outs++[at_]++iG k m at_ i) (by simp) (by omega) (by rw[hKd];exact xj hs hik hm2) (by rw[hKd];simp only[List.length_append,List.length_cons,List.length_nil];omega) (by rw[hKd];exact hx)
   rw[hKd] at hc
   have hq:at_++[(i:Int)]=[(i:Int)]:=by rw[ha];rfl
   rw[hq] at hc eu
   refine ni ?_
   conv=>whnf
   repeat' first
    |exact True.intro
    |(refine And.intro ?_ ?_<;>conv=>whnf)
    |(refine am.of_pure (n:=5) Le (by rfl) ?_;rintro u rfl;conv=>whnf)
    |(refine cf 0 ao [(i:Int)] rfl ?_;conv=>whnf)
    |(refine cz [(i:Int)] rfl lI ?_;conv=>whnf)
    |(refine fl ?_;conv=>whnf)
    |(refine bX (show 1*8<=140737488355328 by omega) ?_;conv=>whnf)
    |fail
   all_goals first
    |(refine am.hand 27 rfl ?_
      refine am.call [(200, .old 200),(201, .old 204),(202, .old 202)] (Lf p q (outs++[at_]++iG k m at_ i)) 400 rfl (aa) (aa) hc ?_
      rintro u M' ⟨rfl,rfl⟩
      refine⟨[(200, .old 200),(204, .old 201),(205, .old 204),(202, .old 202)],[(200, .box 38 [.row 205 (outs++[at_]++iG k m at_ i++uG k (m-1) [(i:Int)]).length 1]),(204, .dead),(205,D4 (outs++[at_]++iG k m at_ i++uG k (m-1) [(i:Int)])),(202, .box 128 [.fn 105 [.ptr 200 0, .pd [.pd (dQ p q)], .ptr 202 0]])], .tup [],rfl,(aa),trivial,?_⟩
      conv=>whnf
      repeat' ((first|refine nI ?_|refine aI ?_|refine tI ?_|refine fI ?_|fail);conv=>whnf)
      refine⟨i+1,?_,by omega,by dsimp only;omega⟩
      dsimp only
      rw[eu,<-List.append_assoc]
      exact bn.by_ [(200, .old 200),(201, .old 201),(204, .old 205),(202, .old 202)] _ 400 rfl (aa) (aa))
    |trace_state
 ·obtain rfl:i=k:=by omega
  have e:outs++uG i m at_=outs++[at_]++iG i m at_ i:=by rw[eL,List.append_assoc];rfl
  rw[e]
  exact⟨rfl,rfl⟩
theorem FE (p:an) (q:aG) (hk:(ax p.rules).length<=3):ab Tryz.prog 37 [.pd (dQ p q)] (fun u=>u= .sl [] B3 (uH p)):=by
 refine ab.intro ae ag Tryz.func37 rfl (by decide) ?_;(conv=>whnf)
 refine al rfl ?_
 conv=>whnf
 refine am.call [(200, .old 3),(201, .nil 1),(202, .old 4)] (Lf p q []) 400 rfl (aa) (aa) (NY p q hk) ?_
 rintro u M' ⟨rfl,rfl⟩
 refine⟨[(3, .old 200),(204, .old 204),(4, .old 202)],[(3, .box 38 [.row 204 (uH p).length 1]),(204,D4 (uH p)),(4, .box 128 [.fn 105 [.ptr 3 0, .pd [.pd (dQ p q)], .ptr 4 0]])], .tup [],rfl,(aa),trivial,?_⟩
 conv=>whnf
 exact⟨rfl,rfl⟩
theorem FF (p:an) (q:aG) (hp:iO p) (hq:pN q):ab Tryz.prog 46 [.agg (aR p), .agg (df q)] (fun u=>u=FB p q):=by
 refine ab.intro ae ag Tryz.func46 rfl (by decide) ?_;(conv=>whnf)
 refine al rfl ?_
 conv=>whnf
 refine al rfl ?_
 conv=>whnf
 refine am.of_pure (n:=5) (pD p q hp hq) (by rfl) ?_
 rintro u rfl
 by_cases h0:cb p q=0
 ·rw[gy h0]
  have hv:=(aF (db h0)).vld
  have hT:=(aL hv).thr
  conv=>whnf
  refine fI ?_
  conv=>whnf
  (refine oP (FE p q (by omega)) ?_;conv=>whnf)
  exact⟨(FC h0).symm,rfl⟩
 ·rw[eX rfl h0]
  conv=>whnf
  refine ah ?_ ?_<;>(intro h;conv=>whnf)
  ·exact⟨(Lb h0).symm,rfl⟩
  ·exact absurd h0 (fun e=>h e)
theorem ab.arg {P:Program} {f:FuncId} {args args':List AV} {R:AV->Prop} (h:ab P f args' R) (ha:iP [] 20 args args') (hp:args'.all (cE 5)=true):ab P f args R:=
 h.weak fun S vs hv=>ov hp ((jT (S:=S) (ρ:=fun _=>none) (lm:=[]) 20).2 args args' vs ha (hv.rv _))
end Go.Proofs.YtekmminpfhacpaaGreatDoor
