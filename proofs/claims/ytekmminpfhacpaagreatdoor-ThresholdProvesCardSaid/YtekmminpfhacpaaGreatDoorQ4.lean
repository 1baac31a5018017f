import Derived.Test.YtekmminpfhacpaaGreatDoorQ3
set_option linter.unusedVariables false
set_option linter.unusedSimpArgs false
namespace Go.Proofs.YtekmminpfhacpaaGreatDoor
set_option maxRecDepth 100000
set_option maxHeartbeats 32000000
theorem Kv (n k i:Nat) (b:Br) (h:iT n i b) (h0:0<i) (hk:b.left<k+1) (hW:Fk b) (ih:Qs n k):
  aj Tryz.prog 57 [.ptr 6001 0, .int .i64 (i:Int)] (ag.ofL (oI n b.rows b.nodes b.lines b.left b.gave)) (NI n (lT n (k+1) b i)):=by
 rw[Ks (by omega)]
 have hg:=h.gv
 have hpt:=h.pt
 have hrdy:=h.rdy
 have hlmx:=h.lmx
 have hn96:=h.n96
 have hW1:=hW.1
 have hW2:=hW.2
 have hbl:=h.len
 have ha:=fP.refl n i b
 rw[show oI n b.rows b.nodes b.lines b.left b.gave=oI n b.rows b.nodes b.lines b.left false by rw[hg]]
 refine aj.toP rfl ?_
 refine aj.renorm 400 (R:=fun u M=>u= .tup []/\∃pc,rK (gV n k b i).point pc/\
  (bG (Dw 1000 1001) 400 M (sy n (gV n k b i).rows (gV n k b i).nodes (gV n k b i).lines (gV n k b i).left pc (gV n k b i).gave)\/
   bG (Dw 1002 1003) 400 M (sy n (gV n k b i).rows (gV n k b i).nodes (gV n k b i).lines (gV n k b i).left pc (gV n k b i).gave)\/
   bG (Kp 1005) 400 M (E' n (gV n k b i).rows (gV n k b i).nodes (gV n k b i).lines (gV n k b i).left pc (gV n k b i).gave))) ?_ ?_
 case refine_2=>
  rintro u M' ⟨rfl,pc,hpc,hM|hM|hM⟩
  ·exact⟨_,_, .tup [],rfl,hM,trivial,rfl,pc,hpc, .inl rfl⟩
  ·exact⟨_,_, .tup [],rfl,hM,trivial,rfl,pc,hpc, .inl rfl⟩
  ·exact⟨_,_, .tup [],rfl,hM,trivial,rfl,pc,hpc, .inr rfl⟩
 refine aj.intro ab ac (oI n b.rows b.nodes b.lines b.left false) Tryz.func57 rfl (by decide) ?_
 conv=>whnf
 refine fI ?_
 conv=>whnf
 refine fI ?_
 conv=>whnf
 refine aJ.loopF ab ac (fun j:Nat=>j<=b.rows.length/\∀y,y<j->¬t4 (b.rows.getD y ar)) (fun j=>[(28, .int .i64 (j:Int)),(26, .row 1000 b.rows.length 2)]) (fun _=>Ni n b) (fun j=>b.rows.length-j) 0 ⟨Nat.zero_le _,fun j hj=>absurd hj (Nat.not_lt_zero _)⟩ ?_;conv=>whnf
 refine⟨aH.by_ [(6001, .old 6001),(6002, .old 6002),(6003, .old 6003),(1000, .old 6002),(1001, .old 6003)] _ 400 rfl (aa) (aa),?_⟩
 have hrl:b.rows.length<=5000:=by omega
 have hwd:∀j,j<b.rows.length->(b.rows.getD j ar).coef.length=n:=fun j hj=>(hrdy j hj).1
 have bT:∀(P:Prop),kD b.rows->gV n k b i=b:=fun _ h=>by unfold gV;rw[if_pos h]
 rintro j ⟨hj,hcon⟩
 conv=>whnf
 refine ae ?_ ?_<;>(intro h1;conv=>whnf)
 ·refine nI ?_
  rw[tN]
  conv=>whnf
  refine dC (jC (b.rows.getD j ar) (by have:=hwd j (by omega);omega)) (fun _=>?_) (fun _=>?_)<;>(conv=>whnf)
  ·rename_i h4
   have hs:kD b.rows:=⟨j,by omega,h4⟩
   rw[bT True hs]
   refine⟨rfl, .nilsl,by rw[hpt];rfl, .inl ?_⟩
   rw[hg]
   exact(aa)
  ·rename_i h4
   repeat' ((first|refine nI ?_|refine aI ?_|refine uI ?_|refine vI ?_|refine dI ?_|refine dR ?_|refine dP ?_|refine au rfl ?_|refine pI _ rfl ?_|refine ak _ rfl ?_|refine tI ?_|refine fI ?_|refine ae (fun _=>?_) (fun _=>?_))<;>conv=>whnf)
   refine⟨j+1,sI,⟨by omega,fun y hy=>?_⟩,by dsimp only;omega⟩
   by_cases e:y=j
   ·subst e;exact h4
   ·exact hcon y (by omega)
 have hns:¬kD b.rows:=fun⟨y,h4,h5⟩=>hcon y (by omega) h5
 have hgive:∀(r:Br),r=b.give->gV n k b i=r->rK (gV n k b i).point .nilsl:=fun r h1 h2=>by
  rw[h2,h1]
  show rK b.point .nilsl
  rw[hpt]
  rfl
 clear hcon
 refine rc .any [44] (by decide+kernel) ?_
 conv=>whnf
 refine aj.callG (aq uv) (ag.ofL (wq b.rows)) (La n b) (eW.by_ (lm:=uv) 400 (fun k y h=>h) (aa)) (rB n b.rows (by omega) (by omega) hwd) ?_
 rintro u M' (⟨hnb,rfl,rfl⟩|⟨hnb,x,rfl,hM⟩)
 case inr=>
  refine⟨aq lZ,ag.ofL (IH b.rows), .tup [.top, .bool false],Ij hM,fun x ℓ h=>(by obtain⟨rfl,rfl⟩:=qS h;rfl),fun ℓ y h=>Ld h,kx.by_ (lm:=lZ) 400 (fun k y h=>h) (aa),?_⟩
  conv=>whnf
  have e:gV n k b i=b.give:=by unfold gV;rw[if_neg hns,if_pos hnb]
  refine⟨rfl, .nilsl,hgive _ rfl e, .inl ?_⟩
  rw[e]
  exact(aa)
 have T0:=BQ hwd hnb
 have hTS:=T0.s
 refine⟨_,_, .tup [.ptr 7001 0, .bool true],Ii n b.rows (eP n b.rows),fun x ℓ h=>Lb h,fun ℓ y h=>Lc h,kx.by_ (lm:=dk++lZ) 400 cE (aa),?_⟩
 conv=>whnf
 refine aj.callG (NJ b.rows.length) (aY n (eP n b.rows) b.rows.length (-1) 9000 [] [] (aR (eP n b.rows))) (Le n b (eP n b.rows)) (eW.by_ (lm:=dk++[]) 400 (fun k y h=>cE k y h) (aa)) (H7 n b.rows.length (eP n b.rows) hTS (by omega) (by omega)) ?_
 rintro u M' (⟨t,bad,hsl,rfl,hS,hh,hT⟩|⟨hsl,rfl,hh⟩)
 case inr=>
  refine⟨cw dk (Fj b.rows.length),bh ur (E8 b.rows.length), .bool false,qQ hh,fun x ℓ hx=>qP (by omega) (fun k hk=>H6 hk) hx,fun ℓ y hy=>(BW (M:=II n b (eP n b.rows)) hy),fun S ρ v h=>((eU 400).1 (.bool false) (.bool false) v rfl h).mono (ai.le_refl _) (i6 (lm:=[]) (fun k y h=>by cases h)),?_⟩
  conv=>whnf
  have e:gV n k b i=b.give:=by unfold gV;rw[if_neg hns,if_neg (fun h=>h hnb),hsl]
  refine⟨rfl, .nilsl,hgive _ rfl e, .inl ?_⟩
  rw[e]
  exact(aa)
 refine⟨cw dk (yb b.rows.length (fun k=>20000+k)),bh (dg n t b.rows.length bad 30000 []) (Du b.rows.length (aR t)), .bool true,qO hT hh (by omega),fun x ℓ hx=>qP (by omega) (fun k hk=>H0 hk) hx,fun ℓ y hy=>Lf (by omega) hy,fun S ρ v h=>((eU 400).1 (.bool true) (.bool true) v rfl h).mono (ai.le_refl _) (i6 (lm:=[]) (fun k y h=>by cases h)),?_⟩
 obtain⟨T,hbad⟩:=Dh 5000 T0 hsl
 have hB:=T.b
 have hbs:=T.bs
 have hfs:=T.fs
 have e0:gV n k b i=if 0<=bad then(match Aq n t bad.toNat with|none=>b.give|some d=>(kI n i b d).1) else if(cC n t b.rows.length).1<0 then(if lx (lX n t b.rows.length) then{b with point:=some (lX n t b.rows.length)} else b.give) else d9 n k b i (cC n t b.rows.length).1 (cC n t b.rows.length).2:=by
  unfold gV;rw[if_neg hns,if_neg (fun h=>h hnb),hsl];rfl
 clear hT hh hsl hTS T0
 conv=>whnf
 refine ae ?_ ?_<;>(intro h2;conv=>whnf)
 ·obtain⟨q,rfl⟩:∃q:Nat,bad=(q:Int):=⟨bad.toNat,by omega⟩
  have h2':(0:Int)<=(q:Int):=h2
  rw[if_pos h2',tN] at e0
  have hq:q<b.rows.length:=by rcases hbad with hb1|hb1<;>omega
  have hli:=nt h ha
  refine aj.leakA Lg (aj.of_pure (n:=5) (Ds n b.rows.length t q hS hB (by omega) (by omega) hq (fun i hi=>by have:=hbs i hi;omega) (fun i hi=>by have:=hfs i hi;omega) (fun j hj=>T.cb q j hq hj)) rfl ?_) (kM (kN (by omega)) T.cm)
  rintro u (⟨d,hd,rfl⟩|⟨hd,⟨d,rfl⟩|rfl⟩)
  ·rw[hd] at e0
   dsimp only at e0
   conv=>whnf
   refine aj.call [(6001, .old 6001),(6002, .old 1000),(6003, .old 1001)] (oI n b.rows b.nodes b.lines b.left false) 400 rfl (aa) (aa) (Ng n i b.rows b.nodes b.lines b.left false d hn96 hrdy (by omega) (by omega) (by omega) (Ik hd (by omega)) (by omega)) ?_
   rintro u M' (⟨hdv,rfl,rfl⟩|⟨hdv,rfl,rfl⟩)
   ·rw[BX hdv] at e0
    refine⟨[(6001, .old 6001),(1000, .old 6002),(1001, .old 6003),(1002, .old 6004),(1003, .old 6005)],[(6001, .box 134 (mT n 1002 (b.rows++[j0 n b.rows d]).length 1003 (uu b.nodes i d).length (b.lines+1) b.left .nilsl false)),(1000, .dead),(1001, .dead),(1002, .row 161 ar aw (b.rows++[j0 n b.rows d])),(1003, .row 217 an aK (uu b.nodes i d))], .bool true,rfl,(aa),rfl,?_⟩
    conv=>whnf
    rw[e0]
    refine⟨rfl, .nilsl,(by show rK b.point .nilsl;rw[hpt];rfl), .inr (.inl ?_)⟩
    dsimp only
    rw[hg]
    exact(aa)
   ·rw[BZ hdv] at e0
    refine⟨[(6001, .old 6001),(1000, .old 6002),(1001, .old 6003),(1002, .old 6004),(1003, .old 6005)],[(6001, .box 134 (mT n 1002 b.rows.length 1003 b.nodes.length b.lines b.left .nilsl true)),(1000, .dead),(1001, .dead),(1002, .row 161 ar aw b.rows),(1003, .row 217 an aK b.nodes)], .bool false,rfl,(aa),rfl,?_⟩
    conv=>whnf
    rw[e0]
    exact⟨rfl, .nilsl,(by show rK b.point .nilsl;rw[hpt];rfl), .inr (.inl (aa))⟩
  ·rw[hd] at e0
   dsimp only at e0
   conv=>whnf
   rw[e0]
   exact⟨rfl, .nilsl,(by show rK b.point .nilsl;rw[hpt];rfl), .inl (aa)⟩
  ·rw[hd] at e0
   dsimp only at e0
   conv=>whnf
   rw[e0]
   exact⟨rfl, .nilsl,(by show rK b.point .nilsl;rw[hpt];rfl), .inl (aa)⟩
 ·have h2':¬(0:Int)<=bad:=h2
  rw[if_neg h2'] at e0
  have hcl:∀j,j<b.rows.length->0<=cl t j 0:=by
   rcases hbad with hb1|hb1
   ·exact hb1.2
   ·omega
  have hbas:∀j,j<b.rows.length->0<=t.bas.getD j 0:=fun j hj=>(hbs j hj).1
  have hfr:=so (n:=n) hbas T.dp.1 hcl b.rows.length (Nat.le_refl _)
  have hfb:=Il (n:=n) hB b.rows.length (Nat.le_refl _)
  refine aj.borrowG (wo n b.rows.length t bad hS hB (by omega) (by omega)) (nw (xU (by omega)) T.cm) (fun u hu=>by rw[hu];rfl) ?_
  rintro u rfl
  conv=>whnf
  refine ae ?_ ?_<;>(intro h3;conv=>whnf)
  ·rw[if_pos h3] at e0
   by_cases hn0:n=0
   ·subst hn0
    have hp0:lX 0 t b.rows.length=[]:=List.eq_nil_of_length_eq_zero (ka 0 t _)
    rw[hp0,if_pos (show lx [] from fun j hj=>absurd hj (Nat.not_lt_zero _))] at e0
    refine aj.leakA Lg (aj.of_pure (n:=5) (H9 b.rows.length t bad hS (by omega) hbas) rfl ?_) (kM (kN (by omega)) T.cm)
    rintro u ⟨ad,rfl⟩
    conv=>whnf
    refine aj.call [(6001, .old 6001),(6002, .old 1000),(6003, .old 1001)] (oI 0 b.rows b.nodes b.lines b.left false) 400 rfl (aa) (aa) (K6 0 b.rows b.nodes b.lines b.left false ad) ?_
    rintro u M' ⟨rfl,rfl⟩
    refine⟨[(6001, .old 6001),(1000, .old 6002),(1001, .old 6003),(1002, .old 6004),(1003, .old 6005)],[(6001, .box 134 (mT 0 1002 b.rows.length 1003 b.nodes.length b.lines b.left (.val (.slice (some ad) 0 0)) false)),(1000, .dead),(1001, .dead),(1002, .row 161 ar aw b.rows),(1003, .row 217 an aK b.nodes)], .tup [],rfl,(aa),trivial,?_⟩
    conv=>whnf
    rw[e0]
    refine⟨rfl, .val (.slice (some ad) 0 0), .inr ⟨rfl,ad,rfl⟩, .inr (.inl ?_)⟩
    dsimp only
    rw[hg]
    exact(aa)
   ·have hpl:=ka n t b.rows.length
    have hpne:lX n t b.rows.length≠[]:=fun e=>by rw[e] at hpl;simp at hpl;omega
    refine aj.leakA Lg (aj.of_pure (n:=5) (HY n b.rows.length t bad hS hB (by omega) (by omega) hbas) rfl ?_) (kM (kN (by omega)) T.cm)
    rintro u rfl
    conv=>whnf
    refine aj.call [(6001, .old 6001),(6002, .old 1000),(6003, .old 1001)] (oI n b.rows b.nodes b.lines b.left false) 400 rfl (aa) (aa) (K5 n b.rows b.nodes b.lines b.left false (lX n t b.rows.length) (by omega)) ?_
    rintro u M' ⟨rfl,⟨hp,rfl⟩|⟨hp,rfl⟩⟩
    ·refine⟨[(6001, .old 6001),(1000, .old 6002),(1001, .old 6003),(1002, .old 6004),(1003, .old 6005)],[(6001, .box 134 (mT n 1002 b.rows.length 1003 b.nodes.length b.lines b.left (.sl 0 al (lX n t b.rows.length)) false)),(1000, .dead),(1001, .dead),(1002, .row 161 ar aw b.rows),(1003, .row 217 an aK b.nodes)], .tup [],rfl,(aa),trivial,?_⟩
     conv=>whnf
     rw[e0,if_pos hp]
     refine⟨rfl, .sl 0 al (lX n t b.rows.length), .inl ⟨hpne,rfl⟩, .inr (.inl ?_)⟩
     dsimp only
     rw[hg]
     exact(aa)
    ·refine⟨[(6001, .old 6001),(1000, .old 6002),(1001, .old 6003),(1002, .old 6004),(1003, .old 6005)],[(6001, .box 134 (mT n 1002 b.rows.length 1003 b.nodes.length b.lines b.left .nilsl true)),(1000, .dead),(1001, .dead),(1002, .row 161 ar aw b.rows),(1003, .row 217 an aK b.nodes)], .tup [],rfl,(aa),trivial,?_⟩
     conv=>whnf
     rw[e0,if_neg hp]
     exact⟨rfl, .nilsl,(by show rK b.point .nilsl;rw[hpt];rfl), .inr (.inl (aa))⟩
  ·rw[if_neg h3] at e0
   rw[e0]
   refine aj.wk (Wk.leakBox (ℓ:=1000) (ℓb:=6001) rfl rfl) ?_
   refine aj.call [(6001, .old 6001),(6002, .old 1000),(6003, .old 1001)] (K7 n b.rows b.nodes b.lines b.left false) 400 rfl (aa) (aa) (Ig n k i b b _ _ h ha hg (by omega) (by omega) (by omega) hW ih) ?_
   rintro u M' ⟨rfl,pc,hpc,rfl⟩
   rcases ii hpc with ⟨hp,rfl⟩|⟨x,hp,hx,rfl⟩|⟨ad,hp,rfl⟩
   ·refine⟨[(6001, .old 6001),(1000, .old 6002),(1001, .old 6003),(1005, .old 6005)],[(6001, .box 134 (rJ n (d9 n k b i (cC n t b.rows.length).1 (cC n t b.rows.length).2).rows 1005 (d9 n k b i (cC n t b.rows.length).1 (cC n t b.rows.length).2).nodes.length (d9 n k b i (cC n t b.rows.length).1 (cC n t b.rows.length).2).lines (d9 n k b i (cC n t b.rows.length).1 (cC n t b.rows.length).2).left .nilsl (d9 n k b i (cC n t b.rows.length).1 (cC n t b.rows.length).2).gave)),(1000, .dead),(1001, .dead),(1005, .row 217 an aK (d9 n k b i (cC n t b.rows.length).1 (cC n t b.rows.length).2).nodes)], .tup [],rfl,(aa),trivial,?_⟩
    conv=>whnf
    exact⟨rfl, .nilsl,hpc, .inr (.inr (aa))⟩
   ·refine⟨[(6001, .old 6001),(1000, .old 6002),(1001, .old 6003),(1005, .old 6005)],[(6001, .box 134 (rJ n (d9 n k b i (cC n t b.rows.length).1 (cC n t b.rows.length).2).rows 1005 (d9 n k b i (cC n t b.rows.length).1 (cC n t b.rows.length).2).nodes.length (d9 n k b i (cC n t b.rows.length).1 (cC n t b.rows.length).2).lines (d9 n k b i (cC n t b.rows.length).1 (cC n t b.rows.length).2).left (.sl 0 al x) (d9 n k b i (cC n t b.rows.length).1 (cC n t b.rows.length).2).gave)),(1000, .dead),(1001, .dead),(1005, .row 217 an aK (d9 n k b i (cC n t b.rows.length).1 (cC n t b.rows.length).2).nodes)], .tup [],rfl,(aa),trivial,?_⟩
    conv=>whnf
    exact⟨rfl, .sl 0 al x,hpc, .inr (.inr (aa))⟩
   ·refine⟨[(6001, .old 6001),(1000, .old 6002),(1001, .old 6003),(1005, .old 6005)],[(6001, .box 134 (rJ n (d9 n k b i (cC n t b.rows.length).1 (cC n t b.rows.length).2).rows 1005 (d9 n k b i (cC n t b.rows.length).1 (cC n t b.rows.length).2).nodes.length (d9 n k b i (cC n t b.rows.length).1 (cC n t b.rows.length).2).lines (d9 n k b i (cC n t b.rows.length).1 (cC n t b.rows.length).2).left (.val (.slice (some ad) 0 0)) (d9 n k b i (cC n t b.rows.length).1 (cC n t b.rows.length).2).gave)),(1000, .dead),(1001, .dead),(1005, .row 217 an aK (d9 n k b i (cC n t b.rows.length).1 (cC n t b.rows.length).2).nodes)], .tup [],rfl,(aa),trivial,?_⟩
    conv=>whnf
    exact⟨rfl, .val (.slice (some ad) 0 0),hpc, .inr (.inr (aa))⟩
theorem Dz (n:Nat):∀k,Qs n k
 |0=>fun b i _ _ hk _=>absurd hk (Nat.not_lt_zero _)
 |k+1=>fun b i h h0 hk hW=>Kv n k i b h h0 hk hW (Dz n k)
theorem O6 (n k:Nat) (b:Br) (h:iT n 0 b) (hk:b.left<k+1) (hW:Fk b):
  aj Tryz.prog 57 [.ptr 6001 0, .int .i64 0] (ag.ofL (oI n b.rows b.nodes b.lines b.left b.gave)) (NI n (lT n (k+1) b 0)):=by
 have ih:=Dz n k
 have hsh:=Ib n b h (by have:=hW.1;have:=h.lmx;omega)
 obtain⟨ha,hs⟩:=xO (n:=n) (b:=b) (by have:=h.len;omega) (by rw[h.new];rfl) h.gv b.rows.length (Nat.le_refl _)
 rw[B3,if_pos rfl]
 rcases hs2:iq n b b.rows.length with ⟨c,ok⟩
 rw[hs2] at hsh ha hs
 dsimp only at ha hs⊢
 have hn96:=h.n96
 cases ok with
 |false=>
  rw[if_pos rfl]
  have hpt:c.point=none:=ha.pt.trans h.pt
  refine aj.toP rfl ?_
  refine aj.renorm 400 (R:=fun u M=>u= .tup []/\bG (Dw 6004 6005) 400 M (sy n c.rows c.nodes c.lines c.left .nilsl c.gave)) ?_ ?_
  case refine_2=>
   rintro u M' ⟨rfl,hM⟩
   exact⟨_,_, .tup [],rfl,hM,trivial,rfl, .nilsl,(by rw[hpt];rfl), .inl rfl⟩
  refine aj.intro ab ac (oI n b.rows b.nodes b.lines b.left b.gave) Tryz.func57 rfl (by decide) ?_
  conv=>whnf
  refine fI ?_
  conv=>whnf
  refine cO rfl ?_
  conv=>whnf
  refine hsh.mono ?_
  rintro u M' ⟨rfl,rfl⟩
  conv=>whnf
  exact⟨rfl,aa⟩
 |true=>
  rw[if_neg (by simp)]
  have hln:=(hs.resolve_left (fun h=>by cases h.1)).2.2
  have hg:c.gave=false:=(hs.resolve_left (fun h=>by cases h.1)).2.1
  have hrl0:=(pD h.rdy hln).2
  have hli0:=nt h ha
  have hpt:c.point=none:=ha.pt.trans h.pt
  have hrdy:=ha.rdy h.rdy
  have hlmx:=ha.lmx h.lmx
  have hbl:c.nodes.length=0+1:=ha.len.trans h.len
  have hlf:=ha.lft
  have hW1:c.rows.length+c.left<=1600+c.lines:=by have:=hW.1;omega
  have hW2:c.nodes.length+c.left<=1000:=by have:=hW.2;have:=ha.len;omega
  have hW:Fk c:=⟨hW1,hW2⟩
  have hk:c.left<k+1:=by omega
  unfold QN at hsh
  dsimp only at hsh
  rw[hg] at hsh
  refine aj.toP rfl ?_
  refine aj.renorm 400 (R:=fun u M=>u= .tup []/\∃pc,rK (gV n k c 0).point pc/\
   (bG (Dw 1000 1001) 400 M (sy n (gV n k c 0).rows (gV n k c 0).nodes (gV n k c 0).lines (gV n k c 0).left pc (gV n k c 0).gave)\/
    bG (Dw 1002 1003) 400 M (sy n (gV n k c 0).rows (gV n k c 0).nodes (gV n k c 0).lines (gV n k c 0).left pc (gV n k c 0).gave)\/
    bG (Kp 1005) 400 M (E' n (gV n k c 0).rows (gV n k c 0).nodes (gV n k c 0).lines (gV n k c 0).left pc (gV n k c 0).gave))) ?_ ?_
  case refine_2=>
   rintro u M' ⟨rfl,pc,hpc,hM|hM|hM⟩
   ·exact⟨_,_, .tup [],rfl,hM,trivial,rfl,pc,hpc, .inl rfl⟩
   ·exact⟨_,_, .tup [],rfl,hM,trivial,rfl,pc,hpc, .inl rfl⟩
   ·exact⟨_,_, .tup [],rfl,hM,trivial,rfl,pc,hpc, .inr rfl⟩
  refine aj.intro ab ac (oI n b.rows b.nodes b.lines b.left b.gave) Tryz.func57 rfl (by decide) ?_
  conv=>whnf
  refine fI ?_
  conv=>whnf
  refine cO rfl ?_
  conv=>whnf
  refine hsh.mono ?_
  rintro u M' ⟨rfl,rfl⟩
  conv=>whnf
  refine aJ.loopF ab ac (fun j:Nat=>j<=c.rows.length/\∀y,y<j->¬t4 (c.rows.getD y ar)) (fun j=>[(28, .int .i64 (j:Int)),(26, .row 1000 c.rows.length 2)]) (fun _=>Ni n c) (fun j=>c.rows.length-j) 0 ⟨Nat.zero_le _,fun j hj=>absurd hj (Nat.not_lt_zero _)⟩ ?_;conv=>whnf
  refine⟨aH.by_ [(6001, .old 6001),(6002, .old 6002),(6003, .old 6003),(1000, .old 6004),(1001, .old 6005)] _ 400 rfl (aa) (aa),?_⟩
  have hrl:c.rows.length<=5000:=by omega
  have hwd:∀j,j<c.rows.length->(c.rows.getD j ar).coef.length=n:=fun j hj=>(hrdy j hj).1
  have bT:∀(P:Prop),kD c.rows->gV n k c 0=c:=fun _ h=>by unfold gV;rw[if_pos h]
  rintro j ⟨hj,hcon⟩
  conv=>whnf
  refine ae ?_ ?_<;>(intro h1;conv=>whnf)
  ·refine nI ?_
   rw[tN]
   conv=>whnf
   refine dC (jC (c.rows.getD j ar) (by have:=hwd j (by omega);omega)) (fun _=>?_) (fun _=>?_)<;>(conv=>whnf)
   ·rename_i h4
    have hs:kD c.rows:=⟨j,by omega,h4⟩
    rw[bT True hs]
    refine⟨rfl, .nilsl,by rw[hpt];rfl, .inl ?_⟩
    rw[hg]
    exact(aa)
   ·rename_i h4
    repeat' ((first|refine nI ?_|refine aI ?_|refine uI ?_|refine vI ?_|refine dI ?_|refine dR ?_|refine dP ?_|refine au rfl ?_|refine pI _ rfl ?_|refine ak _ rfl ?_|refine tI ?_|refine fI ?_|refine ae (fun _=>?_) (fun _=>?_))<;>conv=>whnf)
    refine⟨j+1,sI,⟨by omega,fun y hy=>?_⟩,by dsimp only;omega⟩
    by_cases e:y=j
    ·subst e;exact h4
    ·exact hcon y (by omega)
  have hns:¬kD c.rows:=fun⟨y,h4,h5⟩=>hcon y (by omega) h5
  have hgive:∀(r:Br),r=c.give->gV n k c 0=r->rK (gV n k c 0).point .nilsl:=fun r h1 h2=>by
   rw[h2,h1]
   show rK c.point .nilsl
   rw[hpt]
   rfl
  clear hcon
  refine rc .any [44] (by decide+kernel) ?_
  conv=>whnf
  refine aj.callG (aq uv) (ag.ofL (wq c.rows)) (La n c) (eW.by_ (lm:=uv) 400 (fun k y h=>h) (aa)) (rB n c.rows (by omega) (by omega) hwd) ?_
  rintro u M' (⟨hnb,rfl,rfl⟩|⟨hnb,x,rfl,hM⟩)
  case inr=>
   refine⟨aq lZ,ag.ofL (IH c.rows), .tup [.top, .bool false],Ij hM,fun x ℓ h=>(by obtain⟨rfl,rfl⟩:=qS h;rfl),fun ℓ y h=>Ld h,kx.by_ (lm:=lZ) 400 (fun k y h=>h) (aa),?_⟩
   conv=>whnf
   have e:gV n k c 0=c.give:=by unfold gV;rw[if_neg hns,if_pos hnb]
   refine⟨rfl, .nilsl,hgive _ rfl e, .inl ?_⟩
   rw[e]
   exact(aa)
  have T0:=BQ hwd hnb
  have hTS:=T0.s
  refine⟨_,_, .tup [.ptr 7001 0, .bool true],Ii n c.rows (eP n c.rows),fun x ℓ h=>Lb h,fun ℓ y h=>Lc h,kx.by_ (lm:=dk++lZ) 400 cE (aa),?_⟩
  conv=>whnf
  refine aj.callG (NJ c.rows.length) (aY n (eP n c.rows) c.rows.length (-1) 9000 [] [] (aR (eP n c.rows))) (Le n c (eP n c.rows)) (eW.by_ (lm:=dk++[]) 400 (fun k y h=>cE k y h) (aa)) (H7 n c.rows.length (eP n c.rows) hTS (by omega) (by omega)) ?_
  rintro u M' (⟨t,bad,hsl,rfl,hS,hh,hT⟩|⟨hsl,rfl,hh⟩)
  case inr=>
   refine⟨cw dk (Fj c.rows.length),bh ur (E8 c.rows.length), .bool false,qQ hh,fun x ℓ hx=>qP (by omega) (fun k hk=>H6 hk) hx,fun ℓ y hy=>(BW (M:=II n c (eP n c.rows)) hy),fun S ρ v h=>((eU 400).1 (.bool false) (.bool false) v rfl h).mono (ai.le_refl _) (i6 (lm:=[]) (fun k y h=>by cases h)),?_⟩
   conv=>whnf
   have e:gV n k c 0=c.give:=by unfold gV;rw[if_neg hns,if_neg (fun h=>h hnb),hsl]
   refine⟨rfl, .nilsl,hgive _ rfl e, .inl ?_⟩
   rw[e]
   exact(aa)
  refine⟨cw dk (yb c.rows.length (fun k=>20000+k)),bh (dg n t c.rows.length bad 30000 []) (Du c.rows.length (aR t)), .bool true,qO hT hh (by omega),fun x ℓ hx=>qP (by omega) (fun k hk=>H0 hk) hx,fun ℓ y hy=>Lf (by omega) hy,fun S ρ v h=>((eU 400).1 (.bool true) (.bool true) v rfl h).mono (ai.le_refl _) (i6 (lm:=[]) (fun k y h=>by cases h)),?_⟩
  obtain⟨T,hbad⟩:=Dh 5000 T0 hsl
  have hB:=T.b
  have hbs:=T.bs
  have hfs:=T.fs
  have e0:gV n k c 0=if 0<=bad then(match Aq n t bad.toNat with|none=>c.give|some d=>(kI n 0 c d).1) else if(cC n t c.rows.length).1<0 then(if lx (lX n t c.rows.length) then{c with point:=some (lX n t c.rows.length)} else c.give) else d9 n k c 0 (cC n t c.rows.length).1 (cC n t c.rows.length).2:=by
   unfold gV;rw[if_neg hns,if_neg (fun h=>h hnb),hsl];rfl
  clear hT hh hsl hTS T0
  conv=>whnf
  refine ae ?_ ?_<;>(intro h2;conv=>whnf)
  ·obtain⟨q,rfl⟩:∃q:Nat,bad=(q:Int):=⟨bad.toNat,by omega⟩
   have h2':(0:Int)<=(q:Int):=h2
   rw[if_pos h2',tN] at e0
   have hq:q<c.rows.length:=by rcases hbad with hb1|hb1<;>omega
   have hli:=nt h ha
   refine aj.leakA Lg (aj.of_pure (n:=5) (Ds n c.rows.length t q hS hB (by omega) (by omega) hq (fun i hi=>by have:=hbs i hi;omega) (fun i hi=>by have:=hfs i hi;omega) (fun j hj=>T.cb q j hq hj)) rfl ?_) (kM (kN (by omega)) T.cm)
   rintro u (⟨d,hd,rfl⟩|⟨hd,⟨d,rfl⟩|rfl⟩)
   ·rw[hd] at e0
    dsimp only at e0
    conv=>whnf
    refine aj.call [(6001, .old 6001),(6002, .old 1000),(6003, .old 1001)] (oI n c.rows c.nodes c.lines c.left false) 400 rfl (aa) (aa) (Ng n 0 c.rows c.nodes c.lines c.left false d hn96 hrdy (by omega) (by omega) (by omega) (Ik hd (by omega)) (by omega)) ?_
    rintro u M' (⟨hdv,rfl,rfl⟩|⟨hdv,rfl,rfl⟩)
    ·rw[BX hdv] at e0
     refine⟨[(6001, .old 6001),(1000, .old 6002),(1001, .old 6003),(1002, .old 6004),(1003, .old 6005)],[(6001, .box 134 (mT n 1002 (c.rows++[j0 n c.rows d]).length 1003 (uu c.nodes 0 d).length (c.lines+1) c.left .nilsl false)),(1000, .dead),(1001, .dead),(1002, .row 161 ar aw (c.rows++[j0 n c.rows d])),(1003, .row 217 an aK (uu c.nodes 0 d))], .bool true,rfl,(aa),rfl,?_⟩
     conv=>whnf
     rw[e0]
     refine⟨rfl, .nilsl,(by show rK c.point .nilsl;rw[hpt];rfl), .inr (.inl ?_)⟩
     dsimp only
     rw[hg]
     exact(aa)
    ·rw[BZ hdv] at e0
     refine⟨[(6001, .old 6001),(1000, .old 6002),(1001, .old 6003),(1002, .old 6004),(1003, .old 6005)],[(6001, .box 134 (mT n 1002 c.rows.length 1003 c.nodes.length c.lines c.left .nilsl true)),(1000, .dead),(1001, .dead),(1002, .row 161 ar aw c.rows),(1003, .row 217 an aK c.nodes)], .bool false,rfl,(aa),rfl,?_⟩
     conv=>whnf
     rw[e0]
     exact⟨rfl, .nilsl,(by show rK c.point .nilsl;rw[hpt];rfl), .inr (.inl (aa))⟩
   ·rw[hd] at e0
    dsimp only at e0
    conv=>whnf
    rw[e0]
    exact⟨rfl, .nilsl,(by show rK c.point .nilsl;rw[hpt];rfl), .inl (aa)⟩
   ·rw[hd] at e0
    dsimp only at e0
    conv=>whnf
    rw[e0]
    exact⟨rfl, .nilsl,(by show rK c.point .nilsl;rw[hpt];rfl), .inl (aa)⟩
  ·have h2':¬(0:Int)<=bad:=h2
   rw[if_neg h2'] at e0
   have hcl:∀j,j<c.rows.length->0<=cl t j 0:=by
    rcases hbad with hb1|hb1
    ·exact hb1.2
    ·omega
   have hbas:∀j,j<c.rows.length->0<=t.bas.getD j 0:=fun j hj=>(hbs j hj).1
   have hfr:=so (n:=n) hbas T.dp.1 hcl c.rows.length (Nat.le_refl _)
   have hfb:=Il (n:=n) hB c.rows.length (Nat.le_refl _)
   refine aj.borrowG (wo n c.rows.length t bad hS hB (by omega) (by omega)) (nw (xU (by omega)) T.cm) (fun u hu=>by rw[hu];rfl) ?_
   rintro u rfl
   conv=>whnf
   refine ae ?_ ?_<;>(intro h3;conv=>whnf)
   ·rw[if_pos h3] at e0
    by_cases hn0:n=0
    ·subst hn0
     have hp0:lX 0 t c.rows.length=[]:=List.eq_nil_of_length_eq_zero (ka 0 t _)
     rw[hp0,if_pos (show lx [] from fun j hj=>absurd hj (Nat.not_lt_zero _))] at e0
     refine aj.leakA Lg (aj.of_pure (n:=5) (H9 c.rows.length t bad hS (by omega) hbas) rfl ?_) (kM (kN (by omega)) T.cm)
     rintro u ⟨ad,rfl⟩
     conv=>whnf
     refine aj.call [(6001, .old 6001),(6002, .old 1000),(6003, .old 1001)] (oI 0 c.rows c.nodes c.lines c.left false) 400 rfl (aa) (aa) (K6 0 c.rows c.nodes c.lines c.left false ad) ?_
     rintro u M' ⟨rfl,rfl⟩
     refine⟨[(6001, .old 6001),(1000, .old 6002),(1001, .old 6003),(1002, .old 6004),(1003, .old 6005)],[(6001, .box 134 (mT 0 1002 c.rows.length 1003 c.nodes.length c.lines c.left (.val (.slice (some ad) 0 0)) false)),(1000, .dead),(1001, .dead),(1002, .row 161 ar aw c.rows),(1003, .row 217 an aK c.nodes)], .tup [],rfl,(aa),trivial,?_⟩
     conv=>whnf
     rw[e0]
     refine⟨rfl, .val (.slice (some ad) 0 0), .inr ⟨rfl,ad,rfl⟩, .inr (.inl ?_)⟩
     dsimp only
     rw[hg]
     exact(aa)
    ·have hpl:=ka n t c.rows.length
     have hpne:lX n t c.rows.length≠[]:=fun e=>by rw[e] at hpl;simp at hpl;omega
     refine aj.leakA Lg (aj.of_pure (n:=5) (HY n c.rows.length t bad hS hB (by omega) (by omega) hbas) rfl ?_) (kM (kN (by omega)) T.cm)
     rintro u rfl
     conv=>whnf
     refine aj.call [(6001, .old 6001),(6002, .old 1000),(6003, .old 1001)] (oI n c.rows c.nodes c.lines c.left false) 400 rfl (aa) (aa) (K5 n c.rows c.nodes c.lines c.left false (lX n t c.rows.length) (by omega)) ?_
     rintro u M' ⟨rfl,⟨hp,rfl⟩|⟨hp,rfl⟩⟩
     ·refine⟨[(6001, .old 6001),(1000, .old 6002),(1001, .old 6003),(1002, .old 6004),(1003, .old 6005)],[(6001, .box 134 (mT n 1002 c.rows.length 1003 c.nodes.length c.lines c.left (.sl 0 al (lX n t c.rows.length)) false)),(1000, .dead),(1001, .dead),(1002, .row 161 ar aw c.rows),(1003, .row 217 an aK c.nodes)], .tup [],rfl,(aa),trivial,?_⟩
      conv=>whnf
      rw[e0,if_pos hp]
      refine⟨rfl, .sl 0 al (lX n t c.rows.length), .inl ⟨hpne,rfl⟩, .inr (.inl ?_)⟩
      dsimp only
      rw[hg]
      exact(aa)
     ·refine⟨[(6001, .old 6001),(1000, .old 6002),(1001, .old 6003),(1002, .old 6004),(1003, .old 6005)],[(6001, .box 134 (mT n 1002 c.rows.length 1003 c.nodes.length c.lines c.left .nilsl true)),(1000, .dead),(1001, .dead),(1002, .row 161 ar aw c.rows),(1003, .row 217 an aK c.nodes)], .tup [],rfl,(aa),trivial,?_⟩
      conv=>whnf
      rw[e0,if_neg hp]
      exact⟨rfl, .nilsl,(by show rK c.point .nilsl;rw[hpt];rfl), .inr (.inl (aa))⟩
   ·rw[if_neg h3] at e0
    rw[e0]
    refine aj.wk (Wk.leakBox (ℓ:=1000) (ℓb:=6001) rfl rfl) ?_
    refine aj.call [(6001, .old 6001),(6002, .old 1000),(6003, .old 1001)] (K7 n c.rows c.nodes c.lines c.left false) 400 rfl (aa) (aa) (Ig n k 0 b c _ _ h ha hg (by omega) (by omega) (by omega) hW ih) ?_
    rintro u M' ⟨rfl,pc,hpc,rfl⟩
    rcases ii hpc with ⟨hp,rfl⟩|⟨x,hp,hx,rfl⟩|⟨ad,hp,rfl⟩
    ·refine⟨[(6001, .old 6001),(1000, .old 6002),(1001, .old 6003),(1005, .old 6005)],[(6001, .box 134 (rJ n (d9 n k c 0 (cC n t c.rows.length).1 (cC n t c.rows.length).2).rows 1005 (d9 n k c 0 (cC n t c.rows.length).1 (cC n t c.rows.length).2).nodes.length (d9 n k c 0 (cC n t c.rows.length).1 (cC n t c.rows.length).2).lines (d9 n k c 0 (cC n t c.rows.length).1 (cC n t c.rows.length).2).left .nilsl (d9 n k c 0 (cC n t c.rows.length).1 (cC n t c.rows.length).2).gave)),(1000, .dead),(1001, .dead),(1005, .row 217 an aK (d9 n k c 0 (cC n t c.rows.length).1 (cC n t c.rows.length).2).nodes)], .tup [],rfl,(aa),trivial,?_⟩
     conv=>whnf
     exact⟨rfl, .nilsl,hpc, .inr (.inr (aa))⟩
    ·refine⟨[(6001, .old 6001),(1000, .old 6002),(1001, .old 6003),(1005, .old 6005)],[(6001, .box 134 (rJ n (d9 n k c 0 (cC n t c.rows.length).1 (cC n t c.rows.length).2).rows 1005 (d9 n k c 0 (cC n t c.rows.length).1 (cC n t c.rows.length).2).nodes.length (d9 n k c 0 (cC n t c.rows.length).1 (cC n t c.rows.length).2).lines (d9 n k c 0 (cC n t c.rows.length).1 (cC n t c.rows.length).2).left (.sl 0 al x) (d9 n k c 0 (cC n t c.rows.length).1 (cC n t c.rows.length).2).gave)),(1000, .dead),(1001, .dead),(1005, .row 217 an aK (d9 n k c 0 (cC n t c.rows.length).1 (cC n t c.rows.length).2).nodes)], .tup [],rfl,(aa),trivial,?_⟩
     conv=>whnf
     exact⟨rfl, .sl 0 al x,hpc, .inr (.inr (aa))⟩
    ·refine⟨[(6001, .old 6001),(1000, .old 6002),(1001, .old 6003),(1005, .old 6005)],[(6001, .box 134 (rJ n (d9 n k c 0 (cC n t c.rows.length).1 (cC n t c.rows.length).2).rows 1005 (d9 n k c 0 (cC n t c.rows.length).1 (cC n t c.rows.length).2).nodes.length (d9 n k c 0 (cC n t c.rows.length).1 (cC n t c.rows.length).2).lines (d9 n k c 0 (cC n t c.rows.length).1 (cC n t c.rows.length).2).left (.val (.slice (some ad) 0 0)) (d9 n k c 0 (cC n t c.rows.length).1 (cC n t c.rows.length).2).gave)),(1000, .dead),(1001, .dead),(1005, .row 217 an aK (d9 n k c 0 (cC n t c.rows.length).1 (cC n t c.rows.length).2).nodes)], .tup [],rfl,(aa),trivial,?_⟩
     conv=>whnf
     exact⟨rfl, .val (.slice (some ad) 0 0),hpc, .inr (.inr (aa))⟩
def O7 (s:dF) (nodes:Int):Br:=⟨s.rows,[iR],0,(min nodes 400-1).toNat,none,false⟩
def Nk:AV:=.agg [.int .i64 0, .nilsl, .nilsl]
def Qu (s:dF) (nodes:Int) (u:AV):Prop:=
 (eZ s≠0/\u= .tup [Nk, .int .i64 (eZ s)])\/
 (eZ s=0/\nodes<=0/\u= .tup [Nk, .int .i64 0])\/
 (eZ s=0/\0<nodes/\((∃x pc,(fG s nodes).point=some x/\rK (some x) pc/\u= .tup [.agg [.int .i64 1,pc, .nilsl], .int .i64 0])\/
  ((fG s nodes).point=none/\(fG s nodes).gave=true/\u= .tup [Nk, .int .i64 0])\/
  ((fG s nodes).point=none/\(fG s nodes).gave=false/\u= .tup [.agg [.int .i64 2, .nilsl, .sl an aK (fG s nodes).nodes], .int .i64 0])))
theorem Nl (s:dF) (nodes:Int) (hs:NE s):ah Tryz.prog 15 [.agg (mG s), .int .i64 nodes] (Qu s nodes):=by
 refine ah.intro ab ac Tryz.func15 rfl (by decide) ?_;(conv=>whnf)
 refine au rfl ?_
 conv=>whnf
 (refine oP (v5 s hs) ?_;conv=>whnf)
 refine ae ?_ ?_<;>(intro h;conv=>whnf)
 ·exact⟨.inl ⟨h,rfl⟩,rfl⟩
 have h0:eZ s=0:=Classical.not_not.1 h
 obtain⟨a1,a2,a3,a4⟩:=lw h0
 refine ae ?_ ?_<;>(intro h1;conv=>whnf)
 ·exact⟨.inr (.inl ⟨h0,h1,rfl⟩),rfl⟩
 have hq1:1<=(if 400<nodes then 400 else nodes)/\(if 400<nodes then 400 else nodes)<=400:=by split<;>omega
 have hq2:((min nodes 400-1).toNat:Int)=(if 400<nodes then 400 else nodes)-1:=by split<;>omega
 generalize (if 400<nodes then 400 else nodes)=q at hq1 hq2⊢
 obtain⟨n,hn⟩:∃n:Nat,s.vars=n:=⟨s.vars.toNat,by omega⟩
 have hnn:s.vars.toNat=n:=by omega
 have hBI:iT n 0 (O7 s nodes):=⟨rfl,rfl,rfl,rfl,by have:=r8 h0;rw[hnn] at this;exact this,Nat.zero_le _,by omega⟩
 have hlft:(O7 s nodes).left<400+1:=by show(min nodes 400-1).toNat<401;omega
 have hW:Fk (O7 s nodes):=⟨by show s.rows.length+(min nodes 400-1).toNat<=1600+0;omega,by show 1+(min nodes 400-1).toNat<=1000;omega⟩
 have hR:=O6 n 400 (O7 s nodes) hBI hlft hW
 have hsol:lT n (400+1) (O7 s nodes) 0=fG s nodes:=by unfold fG;rw[hnn];rfl
 rw[hsol] at hR
 have hR:aj Tryz.prog 57 [.ptr 6001 0, .int .i64 0] (ag.ofL (oI n s.rows [iR] 0 ((min nodes 400-1).toNat:Int) false)) (NI n (fG s nodes)):=hR
 rw[hq2] at hR
 have hO:=O3 n s.rows [] 0 q false (by simp) (by omega)
 have e1:([]:List dW)++[iR]=[iR]:=rfl
 rw[e1] at hO
 clear hq2
 obtain⟨c,hc⟩:∃c,c=fG s nodes:=⟨_,rfl⟩
 rw[<-hc] at hR
 refine DM ?_
 conv=>whnf
 first|refine dI ?_|refine iV (by decide+kernel) ?_|refine eI (by decide+kernel) ?_|skip
 conv=>whnf
 refine bg (by show s.rows.length*32<=140737488355328;omega) ?_
 conv=>whnf
 refine aj.call [(6001, .old 22),(6002, .old 30),(6003, .nil 5)] (oI n s.rows [] 0 q false) 400 rfl (aa) (aa) hO ?_
 rintro u M' (⟨hl0,rfl,rfl⟩|⟨hl0,rfl,rfl⟩)
 ·omega
 refine⟨[(22, .old 6001),(30, .old 6002),(1002, .old 6004),(1003, .old 6005)],[(22, .box 134 (mT n 1002 s.rows.length 1003 [iR].length 0 (q-1) .nilsl false)),(30, .dead),(1002, .row 161 ar aw s.rows),(1003, .row 217 an aK [iR])], .int .i64 0,rfl,(aa),rfl,?_⟩
 conv=>whnf
 refine aj.call [(6001, .old 22),(6002, .old 1002),(6003, .old 1003)] (oI n s.rows [iR] 0 (q-1) false) 400 rfl (aa) (aa) hR ?_
 rintro u M' ⟨rfl,pc,hpc,rfl⟩
 rcases ii hpc with ⟨hp,rfl⟩|⟨x,hp,hx,rfl⟩|⟨ad,hp,rfl⟩
 ·cases hgv:c.gave
  ·refine⟨[(22, .old 6001),(1002, .old 6002),(1003, .old 6003),(1005, .old 6005)],[(22, .box 134 (rJ n c.rows 1005 c.nodes.length c.lines c.left .nilsl false)),(1002, .dead),(1003, .dead),(1005, .row 217 an aK c.nodes)], .tup [],rfl,(aa),trivial,?_⟩
   conv=>whnf
   exact⟨.inr (.inr ⟨h0,by omega, .inr (.inr ⟨by rw[<-hc];exact hp,by rw[<-hc];exact hgv,by rw[<-hc];rfl⟩)⟩),rfl⟩
  ·refine⟨[(22, .old 6001),(1002, .old 6002),(1003, .old 6003),(1005, .old 6005)],[(22, .box 134 (rJ n c.rows 1005 c.nodes.length c.lines c.left .nilsl true)),(1002, .dead),(1003, .dead),(1005, .row 217 an aK c.nodes)], .tup [],rfl,(aa),trivial,?_⟩
   conv=>whnf
   exact⟨.inr (.inr ⟨h0,by omega, .inr (.inl ⟨by rw[<-hc];exact hp,by rw[<-hc];exact hgv,rfl⟩)⟩),rfl⟩
 ·refine⟨[(22, .old 6001),(1002, .old 6002),(1003, .old 6003),(1005, .old 6005)],[(22, .box 134 (rJ n c.rows 1005 c.nodes.length c.lines c.left (.sl 0 al x) c.gave)),(1002, .dead),(1003, .dead),(1005, .row 217 an aK c.nodes)], .tup [],rfl,(aa),trivial,?_⟩
  conv=>whnf
  refine bg hx ?_
  conv=>whnf
  exact⟨.inr (.inr ⟨h0,by omega, .inl ⟨x,_,by rw[<-hc];exact hp, .inl ⟨hx,rfl⟩,rfl⟩⟩),rfl⟩
 ·refine⟨[(22, .old 6001),(1002, .old 6002),(1003, .old 6003),(1005, .old 6005)],[(22, .box 134 (rJ n c.rows 1005 c.nodes.length c.lines c.left (.val (.slice (some ad) 0 0)) c.gave)),(1002, .dead),(1003, .dead),(1005, .row 217 an aK c.nodes)], .tup [],rfl,(aa),trivial,?_⟩
  conv=>whnf
  exact⟨.inr (.inr ⟨h0,by omega, .inl ⟨[],_,by rw[<-hc];exact hp, .inr ⟨rfl,ad,rfl⟩,rfl⟩⟩),rfl⟩
set_option maxHeartbeats 16000000
def p6 (s:dF) (nodes:Int):Int:=if nodes<=0 then 0 else if(fG s nodes).point≠none then 1 else if(fG s nodes).gave=true then 0 else 2
def Kw (s:dF) (nodes:Int):List dW:=(fG s nodes).nodes
def Qv (s:dF) (nodes:Int):List Int:=(fG s nodes).point.getD []
def Ae (s:dF) (nodes:Int):AV:=
 if p6 s nodes=1 then .tup [.agg [.int .i64 1, .sl 0 al (Qv s nodes), .nilsl], .int .i64 0]
 else if p6 s nodes=2 then .tup [.agg [.int .i64 2, .nilsl, .sl an aK (Kw s nodes)], .int .i64 0]
 else .tup [.agg [.int .i64 0, .nilsl, .nilsl], .int .i64 0]
theorem xV {s:dF} {nodes:Int} {x:List Int} (h:0<nodes) (hx:(fG s nodes).point=some x):p6 s nodes=1/\Qv s nodes=x:=by
 unfold p6 Qv
 rw[if_neg (by omega),hx,if_pos (fun e=>by cases e)]
 exact⟨rfl,rfl⟩
theorem xW {s:dF} {nodes:Int} (h:0<nodes) (hx:(fG s nodes).point=none) (hg:(fG s nodes).gave=true):p6 s nodes=0:=by
 unfold p6
 rw[if_neg (by omega),if_neg (fun y=>y hx),if_pos hg]
theorem Nm {s:dF} {nodes:Int} (h:0<nodes) (hx:(fG s nodes).point=none) (hg:(fG s nodes).gave=false):p6 s nodes=2:=by
 unfold p6
 rw[if_neg (by omega),if_neg (fun y=>y hx),if_neg (by rw[hg];decide)]
theorem pT (s:dF) (nodes:Int):p6 s nodes=0\/p6 s nodes=1\/p6 s nodes=2:=by
 unfold p6
 (repeat' split)<;>simp
theorem Nn {s:dF} {nodes:Int} (h:eZ s=0) (hk:p6 s nodes=2):qG s (Kw s nodes):=by
 by_cases h2:nodes<=0
 ·unfold p6 at hk;rw[if_pos h2] at hk;omega
 cases hx:(fG s nodes).point with
 |none=>cases hg:(fG s nodes).gave with
  |true=>have:=xW (by omega) hx hg;omega
  |false=>exact un h (by omega) hx hg
 |some x=>have:=(xV (by omega) hx).1;omega
theorem B4 (s:dF) (nodes:Int) (h:eZ s=0) (hv:0<s.vars):ah Tryz.prog 15 [.agg (mG s), .int .i64 nodes] (fun u=>u=Ae s nodes):=by
 refine(Nl s nodes (qH h)).mono fun u hu=>?_
 rcases hu with ⟨h1,_⟩|⟨_,h2,rfl⟩|⟨_,h2,hu⟩
 ·exact absurd h h1
 ·have hk:p6 s nodes=0:=if_pos h2
  unfold Ae
  rw[if_neg (by omega),if_neg (by omega)]
  rfl
 ·rcases hu with ⟨x,pc,hx,hp,rfl⟩|⟨hx,hg,rfl⟩|⟨hx,hg,rfl⟩
  ·have hs:=EZ h h2 hx
   obtain⟨hk,hpt⟩:=xV h2 hx
   rcases hp with ⟨_,rfl⟩|⟨e,_⟩
   ·unfold Ae
    rw[if_pos hk,hpt]
   ·have:=hs.2.1
    rw[e] at this
    simp at this
    omega
  ·have hk:=xW h2 hx hg
   unfold Ae
   rw[if_neg (by omega),if_neg (by omega)]
   rfl
  ·have hk:=Nm h2 hx hg
   unfold Ae
   rw[if_neg (by omega),if_pos hk]
   rfl
end Go.Proofs.YtekmminpfhacpaaGreatDoor
