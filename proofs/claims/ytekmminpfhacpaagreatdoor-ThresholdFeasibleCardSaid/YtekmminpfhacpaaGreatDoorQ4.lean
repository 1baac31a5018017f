import Derived.Test.YtekmminpfhacpaaGreatDoorQ3
set_option linter.unusedVariables false
set_option linter.unusedSimpArgs false
namespace Go.Proofs.YtekmminpfhacpaaGreatDoor
set_option maxRecDepth 100000
set_option maxHeartbeats 32000000
theorem Mg (n k i:Nat) (b:Br) (h:iC n i b) (h0:0<i) (hk:b.left<k+1) (hW:Fy b) (ih:St n k):
  aj Tryz.prog 57 [.ptr 6001 0, .int .i64 (i:Int)] (ac.ofL (oJ n b.rows b.nodes b.lines b.left b.gave)) (PR n (ma n (k+1) b i)):=by
 rw[Mc (by omega)]
 have hg:=h.gv
 have hpt:=h.pt
 have hrdy:=h.rdy
 have hlmx:=h.lmx
 have hn96:=h.n96
 have hW1:=hW.1
 have hW2:=hW.2
 have hbl:=h.len
 have ha:=fv.refl n i b
 rw[show oJ n b.rows b.nodes b.lines b.left b.gave=oJ n b.rows b.nodes b.lines b.left false by rw[hg]]
 refine aj.toP rfl ?_
 refine aj.renorm 400 (R:=fun u M=>u= .tup []/\∃pc,rM (ia n k b i).point pc/\
  (bD (DV 1000 1001) 400 M (sC n (ia n k b i).rows (ia n k b i).nodes (ia n k b i).lines (ia n k b i).left pc (ia n k b i).gave)\/
   bD (DV 1002 1003) 400 M (sC n (ia n k b i).rows (ia n k b i).nodes (ia n k b i).lines (ia n k b i).left pc (ia n k b i).gave)\/
   bD (L' 1005) 400 M (Fq n (ia n k b i).rows (ia n k b i).nodes (ia n k b i).lines (ia n k b i).left pc (ia n k b i).gave))) ?_ ?_
 case refine_2=>
  rintro u M' ⟨rfl,pc,hpc,hM|hM|hM⟩
  ·exact⟨_,_, .tup [],rfl,hM,trivial,rfl,pc,hpc, .inl rfl⟩
  ·exact⟨_,_, .tup [],rfl,hM,trivial,rfl,pc,hpc, .inl rfl⟩
  ·exact⟨_,_, .tup [],rfl,hM,trivial,rfl,pc,hpc, .inr rfl⟩
 refine aj.intro ae ag (oJ n b.rows b.nodes b.lines b.left false) Tryz.func57 rfl (by decide) ?_
 conv=>whnf
 refine fI ?_
 conv=>whnf
 refine fI ?_
 conv=>whnf
 refine a8.loopF ae ag (fun j:Nat=>j<=b.rows.length/\∀y,y<j->¬zu (b.rows.getD y av)) (fun j=>[(28, .int .i64 (j:Int)),(26, .row 1000 b.rows.length 2)]) (fun _=>Pz n b) (fun j=>b.rows.length-j) 0 ⟨Nat.zero_le _,fun j hj=>absurd hj (Nat.not_lt_zero _)⟩ ?_;conv=>whnf
 refine⟨bd.by_ [(6001, .old 6001),(6002, .old 6002),(6003, .old 6003),(1000, .old 6002),(1001, .old 6003)] _ 400 rfl (aa) (aa),?_⟩
 have hrl:b.rows.length<=5000:=by omega
 have hwd:∀j,j<b.rows.length->(b.rows.getD j av).coef.length=n:=fun j hj=>(hrdy j hj).1
 have bT:∀(P:Prop),kF b.rows->ia n k b i=b:=fun _ h=>by unfold ia;rw[if_pos h]
 rintro j ⟨hj,hcon⟩
 conv=>whnf
 refine ai ?_ ?_<;>(intro h1;conv=>whnf)
 ·refine nI ?_
  rw[tN]
  conv=>whnf
  refine dC (mX (b.rows.getD j av) (by have:=hwd j (by omega);omega)) (fun _=>?_) (fun _=>?_)<;>(conv=>whnf)
  ·rename_i h4
   have hs:kF b.rows:=⟨j,by omega,h4⟩
   rw[bT True hs]
   refine⟨rfl, .nilsl,by rw[hpt];rfl, .inl ?_⟩
   rw[hg]
   exact(aa)
  ·rename_i h4
   repeat' ((first|refine nI ?_|refine aI ?_|refine uI ?_|refine vI ?_|refine dI ?_|refine dR ?_|refine dP ?_|refine ar rfl ?_|refine pI _ rfl ?_|refine an _ rfl ?_|refine tI ?_|refine fI ?_|refine ai (fun _=>?_) (fun _=>?_))<;>conv=>whnf)
   refine⟨j+1,sI,⟨by omega,fun y hy=>?_⟩,by dsimp only;omega⟩
   by_cases e:y=j
   ·subst e;exact h4
   ·exact hcon y (by omega)
 have hns:¬kF b.rows:=fun⟨y,h4,h5⟩=>hcon y (by omega) h5
 have hgive:∀(r:Br),r=b.give->ia n k b i=r->rM (ia n k b i).point .nilsl:=fun r h1 h2=>by
  rw[h2,h1]
  show rM b.point .nilsl
  rw[hpt]
  rfl
 clear hcon
 refine tf .any [44] (by decide+kernel) ?_
 conv=>whnf
 refine aj.callG (al uo) (ac.ofL (wb b.rows)) (M5 n b) (eI.by_ (lm:=uo) 400 (fun k y h=>h) (aa)) (rF n b.rows (by omega) (by omega) hwd) ?_
 rintro u M' (⟨hnb,rfl,rfl⟩|⟨hnb,x,rfl,hM⟩)
 case inr=>
  refine⟨al l6,ac.ofL (JX b.rows), .tup [.top, .bool false],JL hM,fun x ℓ h=>(by obtain⟨rfl,rfl⟩:=q8 h;rfl),fun ℓ y h=>M8 h,kj.by_ (lm:=l6) 400 (fun k y h=>h) (aa),?_⟩
  conv=>whnf
  have e:ia n k b i=b.give:=by unfold ia;rw[if_neg hns,if_pos hnb]
  refine⟨rfl, .nilsl,hgive _ rfl e, .inl ?_⟩
  rw[e]
  exact(aa)
 have T0:=BZ hwd hnb
 have hTS:=T0.s
 refine⟨_,_, .tup [.ptr 7001 0, .bool true],JK n b.rows (ep n b.rows),fun x ℓ h=>M6 h,fun ℓ y h=>M7 h,kj.by_ (lm:=c6++l6) 400 ce (aa),?_⟩
 conv=>whnf
 refine aj.callG (PS b.rows.length) (aO n (ep n b.rows) b.rows.length (-1) 9000 [] [] (aK (ep n b.rows))) (M9 n b (ep n b.rows)) (eI.by_ (lm:=c6++[]) 400 (fun k y h=>ce k y h) (aa)) (Jz n b.rows.length (ep n b.rows) hTS (by omega) (by omega)) ?_
 rintro u M' (⟨t,bad,hsl,rfl,hS,hh,hT⟩|⟨hsl,rfl,hh⟩)
 case inr=>
  refine⟨bU c6 (Fx b.rows.length),aY Tl (Fo b.rows.length), .bool false,qZ hh,fun x ℓ hx=>qY (by omega) (fun k hk=>Jy hk) hx,fun ℓ y hy=>(B8 (M:=JY n b (ep n b.rows)) hy),fun S ρ v h=>((eE 400).1 (.bool false) (.bool false) v rfl h).mono (ah.le_refl _) (iP (lm:=[]) (fun k y h=>by cases h)),?_⟩
  conv=>whnf
  have e:ia n k b i=b.give:=by unfold ia;rw[if_neg hns,if_neg (fun h=>h hnb),hsl]
  refine⟨rfl, .nilsl,hgive _ rfl e, .inl ?_⟩
  rw[e]
  exact(aa)
 refine⟨bU c6 (x8 b.rows.length (fun k=>20000+k)),aY (cR n t b.rows.length bad 30000 []) (DS b.rows.length (aK t)), .bool true,qX hT hh (by omega),fun x ℓ hx=>qY (by omega) (fun k hk=>Jv hk) hx,fun ℓ y hy=>Na (by omega) hy,fun S ρ v h=>((eE 400).1 (.bool true) (.bool true) v rfl h).mono (ah.le_refl _) (iP (lm:=[]) (fun k y h=>by cases h)),?_⟩
 obtain⟨T,hbad⟩:=DH 5000 T0 hsl
 have hB:=T.b
 have hbs:=T.bs
 have hfs:=T.fs
 have e0:ia n k b i=if 0<=bad then(match Ar n t bad.toNat with|none=>b.give|some d=>(l5 n i b d).1) else if(ca n t b.rows.length).1<0 then(if jz (lZ n t b.rows.length) then{b with point:=some (lZ n t b.rows.length)} else b.give) else d6 n k b i (ca n t b.rows.length).1 (ca n t b.rows.length).2:=by
  unfold ia;rw[if_neg hns,if_neg (fun h=>h hnb),hsl];rfl
 clear hT hh hsl hTS T0
 conv=>whnf
 refine ai ?_ ?_<;>(intro h2;conv=>whnf)
 ·obtain⟨q,rfl⟩:∃q:Nat,bad=(q:Int):=⟨bad.toNat,by omega⟩
  have h2':(0:Int)<=(q:Int):=h2
  rw[if_pos h2',tN] at e0
  have hq:q<b.rows.length:=by rcases hbad with hb1|hb1<;>omega
  have hli:=nB h ha
  refine aj.leakA Nb (aj.of_pure (n:=5) (DR n b.rows.length t q hS hB (by omega) (by omega) hq (fun i hi=>by have:=hbs i hi;omega) (fun i hi=>by have:=hfs i hi;omega) (fun j hj=>T.cb q j hq hj)) rfl ?_) (kR (kS (by omega)) T.cm)
  rintro u (⟨d,hd,rfl⟩|⟨hd,⟨d,rfl⟩|rfl⟩)
  ·rw[hd] at e0
   dsimp only at e0
   conv=>whnf
   refine aj.call [(6001, .old 6001),(6002, .old 1000),(6003, .old 1001)] (oJ n b.rows b.nodes b.lines b.left false) 400 rfl (aa) (aa) (Px n i b.rows b.nodes b.lines b.left false d hn96 hrdy (by omega) (by omega) (by omega) (JM hd (by omega)) (by omega)) ?_
   rintro u M' (⟨hdv,rfl,rfl⟩|⟨hdv,rfl,rfl⟩)
   ·rw[B9 hdv] at e0
    refine⟨[(6001, .old 6001),(1000, .old 6002),(1001, .old 6003),(1002, .old 6004),(1003, .old 6005)],[(6001, .box 134 (Ti n 1002 (b.rows++[od n b.rows d]).length 1003 (un b.nodes i d).length (b.lines+1) b.left .nilsl false)),(1000, .dead),(1001, .dead),(1002, .row 161 av aE (b.rows++[od n b.rows d])),(1003, .row 217 aw bn (un b.nodes i d))], .bool true,rfl,(aa),rfl,?_⟩
    conv=>whnf
    rw[e0]
    refine⟨rfl, .nilsl,(by show rM b.point .nilsl;rw[hpt];rfl), .inr (.inl ?_)⟩
    dsimp only
    rw[hg]
    exact(aa)
   ·rw[Ca hdv] at e0
    refine⟨[(6001, .old 6001),(1000, .old 6002),(1001, .old 6003),(1002, .old 6004),(1003, .old 6005)],[(6001, .box 134 (Ti n 1002 b.rows.length 1003 b.nodes.length b.lines b.left .nilsl true)),(1000, .dead),(1001, .dead),(1002, .row 161 av aE b.rows),(1003, .row 217 aw bn b.nodes)], .bool false,rfl,(aa),rfl,?_⟩
    conv=>whnf
    rw[e0]
    exact⟨rfl, .nilsl,(by show rM b.point .nilsl;rw[hpt];rfl), .inr (.inl (aa))⟩
  ·rw[hd] at e0
   dsimp only at e0
   conv=>whnf
   rw[e0]
   exact⟨rfl, .nilsl,(by show rM b.point .nilsl;rw[hpt];rfl), .inl (aa)⟩
  ·rw[hd] at e0
   dsimp only at e0
   conv=>whnf
   rw[e0]
   exact⟨rfl, .nilsl,(by show rM b.point .nilsl;rw[hpt];rfl), .inl (aa)⟩
 ·have h2':¬(0:Int)<=bad:=h2
  rw[if_neg h2'] at e0
  have hcl:∀j,j<b.rows.length->0<=cl t j 0:=by
   rcases hbad with hb1|hb1
   ·exact hb1.2
   ·omega
  have hbas:∀j,j<b.rows.length->0<=t.bas.getD j 0:=fun j hj=>(hbs j hj).1
  have hfr:=su (n:=n) hbas T.dp.1 hcl b.rows.length (Nat.le_refl _)
  have hfb:=JN (n:=n) hB b.rows.length (Nat.le_refl _)
  refine aj.borrowG (wa n b.rows.length t bad hS hB (by omega) (by omega)) (nE (x5 (by omega)) T.cm) (fun u hu=>by rw[hu];rfl) ?_
  rintro u rfl
  conv=>whnf
  refine ai ?_ ?_<;>(intro h3;conv=>whnf)
  ·rw[if_pos h3] at e0
   by_cases hn0:n=0
   ·subst hn0
    have hp0:lZ 0 t b.rows.length=[]:=List.eq_nil_of_length_eq_zero (jT 0 t _)
    rw[hp0,if_pos (show jz [] from fun j hj=>absurd hj (Nat.not_lt_zero _))] at e0
    refine aj.leakA Nb (aj.of_pure (n:=5) (JB b.rows.length t bad hS (by omega) hbas) rfl ?_) (kR (kS (by omega)) T.cm)
    rintro u ⟨ad,rfl⟩
    conv=>whnf
    refine aj.call [(6001, .old 6001),(6002, .old 1000),(6003, .old 1001)] (oJ 0 b.rows b.nodes b.lines b.left false) 400 rfl (aa) (aa) (MY 0 b.rows b.nodes b.lines b.left false ad) ?_
    rintro u M' ⟨rfl,rfl⟩
    refine⟨[(6001, .old 6001),(1000, .old 6002),(1001, .old 6003),(1002, .old 6004),(1003, .old 6005)],[(6001, .box 134 (Ti 0 1002 b.rows.length 1003 b.nodes.length b.lines b.left (.val (.slice (some ad) 0 0)) false)),(1000, .dead),(1001, .dead),(1002, .row 161 av aE b.rows),(1003, .row 217 aw bn b.nodes)], .tup [],rfl,(aa),trivial,?_⟩
    conv=>whnf
    rw[e0]
    refine⟨rfl, .val (.slice (some ad) 0 0), .inr ⟨rfl,ad,rfl⟩, .inr (.inl ?_)⟩
    dsimp only
    rw[hg]
    exact(aa)
   ·have hpl:=jT n t b.rows.length
    have hpne:lZ n t b.rows.length≠[]:=fun e=>by rw[e] at hpl;simp at hpl;omega
    refine aj.leakA Nb (aj.of_pure (n:=5) (Jt n b.rows.length t bad hS hB (by omega) (by omega) hbas) rfl ?_) (kR (kS (by omega)) T.cm)
    rintro u rfl
    conv=>whnf
    refine aj.call [(6001, .old 6001),(6002, .old 1000),(6003, .old 1001)] (oJ n b.rows b.nodes b.lines b.left false) 400 rfl (aa) (aa) (MW n b.rows b.nodes b.lines b.left false (lZ n t b.rows.length) (by omega)) ?_
    rintro u M' ⟨rfl,⟨hp,rfl⟩|⟨hp,rfl⟩⟩
    ·refine⟨[(6001, .old 6001),(1000, .old 6002),(1001, .old 6003),(1002, .old 6004),(1003, .old 6005)],[(6001, .box 134 (Ti n 1002 b.rows.length 1003 b.nodes.length b.lines b.left (.sl 0 ak (lZ n t b.rows.length)) false)),(1000, .dead),(1001, .dead),(1002, .row 161 av aE b.rows),(1003, .row 217 aw bn b.nodes)], .tup [],rfl,(aa),trivial,?_⟩
     conv=>whnf
     rw[e0,if_pos hp]
     refine⟨rfl, .sl 0 ak (lZ n t b.rows.length), .inl ⟨hpne,rfl⟩, .inr (.inl ?_)⟩
     dsimp only
     rw[hg]
     exact(aa)
    ·refine⟨[(6001, .old 6001),(1000, .old 6002),(1001, .old 6003),(1002, .old 6004),(1003, .old 6005)],[(6001, .box 134 (Ti n 1002 b.rows.length 1003 b.nodes.length b.lines b.left .nilsl true)),(1000, .dead),(1001, .dead),(1002, .row 161 av aE b.rows),(1003, .row 217 aw bn b.nodes)], .tup [],rfl,(aa),trivial,?_⟩
     conv=>whnf
     rw[e0,if_neg hp]
     exact⟨rfl, .nilsl,(by show rM b.point .nilsl;rw[hpt];rfl), .inr (.inl (aa))⟩
  ·rw[if_neg h3] at e0
   rw[e0]
   refine aj.wk (Wk.leakBox (ℓ:=1000) (ℓb:=6001) rfl rfl) ?_
   refine aj.call [(6001, .old 6001),(6002, .old 1000),(6003, .old 1001)] (MZ n b.rows b.nodes b.lines b.left false) 400 rfl (aa) (aa) (JH n k i b b _ _ h ha hg (by omega) (by omega) (by omega) hW ih) ?_
   rintro u M' ⟨rfl,pc,hpc,rfl⟩
   rcases gT hpc with ⟨hp,rfl⟩|⟨x,hp,hx,rfl⟩|⟨ad,hp,rfl⟩
   ·refine⟨[(6001, .old 6001),(1000, .old 6002),(1001, .old 6003),(1005, .old 6005)],[(6001, .box 134 (rL n (d6 n k b i (ca n t b.rows.length).1 (ca n t b.rows.length).2).rows 1005 (d6 n k b i (ca n t b.rows.length).1 (ca n t b.rows.length).2).nodes.length (d6 n k b i (ca n t b.rows.length).1 (ca n t b.rows.length).2).lines (d6 n k b i (ca n t b.rows.length).1 (ca n t b.rows.length).2).left .nilsl (d6 n k b i (ca n t b.rows.length).1 (ca n t b.rows.length).2).gave)),(1000, .dead),(1001, .dead),(1005, .row 217 aw bn (d6 n k b i (ca n t b.rows.length).1 (ca n t b.rows.length).2).nodes)], .tup [],rfl,(aa),trivial,?_⟩
    conv=>whnf
    exact⟨rfl, .nilsl,hpc, .inr (.inr (aa))⟩
   ·refine⟨[(6001, .old 6001),(1000, .old 6002),(1001, .old 6003),(1005, .old 6005)],[(6001, .box 134 (rL n (d6 n k b i (ca n t b.rows.length).1 (ca n t b.rows.length).2).rows 1005 (d6 n k b i (ca n t b.rows.length).1 (ca n t b.rows.length).2).nodes.length (d6 n k b i (ca n t b.rows.length).1 (ca n t b.rows.length).2).lines (d6 n k b i (ca n t b.rows.length).1 (ca n t b.rows.length).2).left (.sl 0 ak x) (d6 n k b i (ca n t b.rows.length).1 (ca n t b.rows.length).2).gave)),(1000, .dead),(1001, .dead),(1005, .row 217 aw bn (d6 n k b i (ca n t b.rows.length).1 (ca n t b.rows.length).2).nodes)], .tup [],rfl,(aa),trivial,?_⟩
    conv=>whnf
    exact⟨rfl, .sl 0 ak x,hpc, .inr (.inr (aa))⟩
   ·refine⟨[(6001, .old 6001),(1000, .old 6002),(1001, .old 6003),(1005, .old 6005)],[(6001, .box 134 (rL n (d6 n k b i (ca n t b.rows.length).1 (ca n t b.rows.length).2).rows 1005 (d6 n k b i (ca n t b.rows.length).1 (ca n t b.rows.length).2).nodes.length (d6 n k b i (ca n t b.rows.length).1 (ca n t b.rows.length).2).lines (d6 n k b i (ca n t b.rows.length).1 (ca n t b.rows.length).2).left (.val (.slice (some ad) 0 0)) (d6 n k b i (ca n t b.rows.length).1 (ca n t b.rows.length).2).gave)),(1000, .dead),(1001, .dead),(1005, .row 217 aw bn (d6 n k b i (ca n t b.rows.length).1 (ca n t b.rows.length).2).nodes)], .tup [],rfl,(aa),trivial,?_⟩
    conv=>whnf
    exact⟨rfl, .val (.slice (some ad) 0 0),hpc, .inr (.inr (aa))⟩
theorem DY (n:Nat):∀k,St n k
 |0=>fun b i _ _ hk _=>absurd hk (Nat.not_lt_zero _)
 |k+1=>fun b i h h0 hk hW=>Mg n k i b h h0 hk hW (DY n k)
theorem Q8 (n k:Nat) (b:Br) (h:iC n 0 b) (hk:b.left<k+1) (hW:Fy b):
  aj Tryz.prog 57 [.ptr 6001 0, .int .i64 0] (ac.ofL (oJ n b.rows b.nodes b.lines b.left b.gave)) (PR n (ma n (k+1) b 0)):=by
 have ih:=DY n k
 have hsh:=JE n b h (by have:=hW.1;have:=h.lmx;omega)
 obtain⟨ha,hs⟩:=xV (n:=n) (b:=b) (by have:=h.len;omega) (by rw[h.new];rfl) h.gv b.rows.length (Nat.le_refl _)
 rw[JI,if_pos rfl]
 rcases hs2:iK n b b.rows.length with ⟨c,ok⟩
 rw[hs2] at hsh ha hs
 dsimp only at ha hs⊢
 have hn96:=h.n96
 cases ok with
 |false=>
  rw[if_pos rfl]
  have hpt:c.point=none:=ha.pt.trans h.pt
  refine aj.toP rfl ?_
  refine aj.renorm 400 (R:=fun u M=>u= .tup []/\bD (DV 6004 6005) 400 M (sC n c.rows c.nodes c.lines c.left .nilsl c.gave)) ?_ ?_
  case refine_2=>
   rintro u M' ⟨rfl,hM⟩
   exact⟨_,_, .tup [],rfl,hM,trivial,rfl, .nilsl,(by rw[hpt];rfl), .inl rfl⟩
  refine aj.intro ae ag (oJ n b.rows b.nodes b.lines b.left b.gave) Tryz.func57 rfl (by decide) ?_
  conv=>whnf
  refine fI ?_
  conv=>whnf
  refine dQ rfl ?_
  conv=>whnf
  refine hsh.mono ?_
  rintro u M' ⟨rfl,rfl⟩
  conv=>whnf
  exact⟨rfl,aa⟩
 |true=>
  rw[if_neg (by simp)]
  have hln:=(hs.resolve_left (fun h=>by cases h.1)).2.2
  have hg:c.gave=false:=(hs.resolve_left (fun h=>by cases h.1)).2.1
  have hrl0:=(xp h.rdy hln).2
  have hli0:=nB h ha
  have hpt:c.point=none:=ha.pt.trans h.pt
  have hrdy:=ha.rdy h.rdy
  have hlmx:=ha.lmx h.lmx
  have hbl:c.nodes.length=0+1:=ha.len.trans h.len
  have hlf:=ha.lft
  have hW1:c.rows.length+c.left<=1600+c.lines:=by have:=hW.1;omega
  have hW2:c.nodes.length+c.left<=1000:=by have:=hW.2;have:=ha.len;omega
  have hW:Fy c:=⟨hW1,hW2⟩
  have hk:c.left<k+1:=by omega
  unfold SO at hsh
  dsimp only at hsh
  rw[hg] at hsh
  refine aj.toP rfl ?_
  refine aj.renorm 400 (R:=fun u M=>u= .tup []/\∃pc,rM (ia n k c 0).point pc/\
   (bD (DV 1000 1001) 400 M (sC n (ia n k c 0).rows (ia n k c 0).nodes (ia n k c 0).lines (ia n k c 0).left pc (ia n k c 0).gave)\/
    bD (DV 1002 1003) 400 M (sC n (ia n k c 0).rows (ia n k c 0).nodes (ia n k c 0).lines (ia n k c 0).left pc (ia n k c 0).gave)\/
    bD (L' 1005) 400 M (Fq n (ia n k c 0).rows (ia n k c 0).nodes (ia n k c 0).lines (ia n k c 0).left pc (ia n k c 0).gave))) ?_ ?_
  case refine_2=>
   rintro u M' ⟨rfl,pc,hpc,hM|hM|hM⟩
   ·exact⟨_,_, .tup [],rfl,hM,trivial,rfl,pc,hpc, .inl rfl⟩
   ·exact⟨_,_, .tup [],rfl,hM,trivial,rfl,pc,hpc, .inl rfl⟩
   ·exact⟨_,_, .tup [],rfl,hM,trivial,rfl,pc,hpc, .inr rfl⟩
  refine aj.intro ae ag (oJ n b.rows b.nodes b.lines b.left b.gave) Tryz.func57 rfl (by decide) ?_
  conv=>whnf
  refine fI ?_
  conv=>whnf
  refine dQ rfl ?_
  conv=>whnf
  refine hsh.mono ?_
  rintro u M' ⟨rfl,rfl⟩
  conv=>whnf
  refine a8.loopF ae ag (fun j:Nat=>j<=c.rows.length/\∀y,y<j->¬zu (c.rows.getD y av)) (fun j=>[(28, .int .i64 (j:Int)),(26, .row 1000 c.rows.length 2)]) (fun _=>Pz n c) (fun j=>c.rows.length-j) 0 ⟨Nat.zero_le _,fun j hj=>absurd hj (Nat.not_lt_zero _)⟩ ?_;conv=>whnf
  refine⟨bd.by_ [(6001, .old 6001),(6002, .old 6002),(6003, .old 6003),(1000, .old 6004),(1001, .old 6005)] _ 400 rfl (aa) (aa),?_⟩
  have hrl:c.rows.length<=5000:=by omega
  have hwd:∀j,j<c.rows.length->(c.rows.getD j av).coef.length=n:=fun j hj=>(hrdy j hj).1
  have bT:∀(P:Prop),kF c.rows->ia n k c 0=c:=fun _ h=>by unfold ia;rw[if_pos h]
  rintro j ⟨hj,hcon⟩
  conv=>whnf
  refine ai ?_ ?_<;>(intro h1;conv=>whnf)
  ·refine nI ?_
   rw[tN]
   conv=>whnf
   refine dC (mX (c.rows.getD j av) (by have:=hwd j (by omega);omega)) (fun _=>?_) (fun _=>?_)<;>(conv=>whnf)
   ·rename_i h4
    have hs:kF c.rows:=⟨j,by omega,h4⟩
    rw[bT True hs]
    refine⟨rfl, .nilsl,by rw[hpt];rfl, .inl ?_⟩
    rw[hg]
    exact(aa)
   ·rename_i h4
    repeat' ((first|refine nI ?_|refine aI ?_|refine uI ?_|refine vI ?_|refine dI ?_|refine dR ?_|refine dP ?_|refine ar rfl ?_|refine pI _ rfl ?_|refine an _ rfl ?_|refine tI ?_|refine fI ?_|refine ai (fun _=>?_) (fun _=>?_))<;>conv=>whnf)
    refine⟨j+1,sI,⟨by omega,fun y hy=>?_⟩,by dsimp only;omega⟩
    by_cases e:y=j
    ·subst e;exact h4
    ·exact hcon y (by omega)
  have hns:¬kF c.rows:=fun⟨y,h4,h5⟩=>hcon y (by omega) h5
  have hgive:∀(r:Br),r=c.give->ia n k c 0=r->rM (ia n k c 0).point .nilsl:=fun r h1 h2=>by
   rw[h2,h1]
   show rM c.point .nilsl
   rw[hpt]
   rfl
  clear hcon
  refine tf .any [44] (by decide+kernel) ?_
  conv=>whnf
  refine aj.callG (al uo) (ac.ofL (wb c.rows)) (M5 n c) (eI.by_ (lm:=uo) 400 (fun k y h=>h) (aa)) (rF n c.rows (by omega) (by omega) hwd) ?_
  rintro u M' (⟨hnb,rfl,rfl⟩|⟨hnb,x,rfl,hM⟩)
  case inr=>
   refine⟨al l6,ac.ofL (JX c.rows), .tup [.top, .bool false],JL hM,fun x ℓ h=>(by obtain⟨rfl,rfl⟩:=q8 h;rfl),fun ℓ y h=>M8 h,kj.by_ (lm:=l6) 400 (fun k y h=>h) (aa),?_⟩
   conv=>whnf
   have e:ia n k c 0=c.give:=by unfold ia;rw[if_neg hns,if_pos hnb]
   refine⟨rfl, .nilsl,hgive _ rfl e, .inl ?_⟩
   rw[e]
   exact(aa)
  have T0:=BZ hwd hnb
  have hTS:=T0.s
  refine⟨_,_, .tup [.ptr 7001 0, .bool true],JK n c.rows (ep n c.rows),fun x ℓ h=>M6 h,fun ℓ y h=>M7 h,kj.by_ (lm:=c6++l6) 400 ce (aa),?_⟩
  conv=>whnf
  refine aj.callG (PS c.rows.length) (aO n (ep n c.rows) c.rows.length (-1) 9000 [] [] (aK (ep n c.rows))) (M9 n c (ep n c.rows)) (eI.by_ (lm:=c6++[]) 400 (fun k y h=>ce k y h) (aa)) (Jz n c.rows.length (ep n c.rows) hTS (by omega) (by omega)) ?_
  rintro u M' (⟨t,bad,hsl,rfl,hS,hh,hT⟩|⟨hsl,rfl,hh⟩)
  case inr=>
   refine⟨bU c6 (Fx c.rows.length),aY Tl (Fo c.rows.length), .bool false,qZ hh,fun x ℓ hx=>qY (by omega) (fun k hk=>Jy hk) hx,fun ℓ y hy=>(B8 (M:=JY n c (ep n c.rows)) hy),fun S ρ v h=>((eE 400).1 (.bool false) (.bool false) v rfl h).mono (ah.le_refl _) (iP (lm:=[]) (fun k y h=>by cases h)),?_⟩
   conv=>whnf
   have e:ia n k c 0=c.give:=by unfold ia;rw[if_neg hns,if_neg (fun h=>h hnb),hsl]
   refine⟨rfl, .nilsl,hgive _ rfl e, .inl ?_⟩
   rw[e]
   exact(aa)
  refine⟨bU c6 (x8 c.rows.length (fun k=>20000+k)),aY (cR n t c.rows.length bad 30000 []) (DS c.rows.length (aK t)), .bool true,qX hT hh (by omega),fun x ℓ hx=>qY (by omega) (fun k hk=>Jv hk) hx,fun ℓ y hy=>Na (by omega) hy,fun S ρ v h=>((eE 400).1 (.bool true) (.bool true) v rfl h).mono (ah.le_refl _) (iP (lm:=[]) (fun k y h=>by cases h)),?_⟩
  obtain⟨T,hbad⟩:=DH 5000 T0 hsl
  have hB:=T.b
  have hbs:=T.bs
  have hfs:=T.fs
  have e0:ia n k c 0=if 0<=bad then(match Ar n t bad.toNat with|none=>c.give|some d=>(l5 n 0 c d).1) else if(ca n t c.rows.length).1<0 then(if jz (lZ n t c.rows.length) then{c with point:=some (lZ n t c.rows.length)} else c.give) else d6 n k c 0 (ca n t c.rows.length).1 (ca n t c.rows.length).2:=by
   unfold ia;rw[if_neg hns,if_neg (fun h=>h hnb),hsl];rfl
  clear hT hh hsl hTS T0
  conv=>whnf
  refine ai ?_ ?_<;>(intro h2;conv=>whnf)
  ·obtain⟨q,rfl⟩:∃q:Nat,bad=(q:Int):=⟨bad.toNat,by omega⟩
   have h2':(0:Int)<=(q:Int):=h2
   rw[if_pos h2',tN] at e0
   have hq:q<c.rows.length:=by rcases hbad with hb1|hb1<;>omega
   have hli:=nB h ha
   refine aj.leakA Nb (aj.of_pure (n:=5) (DR n c.rows.length t q hS hB (by omega) (by omega) hq (fun i hi=>by have:=hbs i hi;omega) (fun i hi=>by have:=hfs i hi;omega) (fun j hj=>T.cb q j hq hj)) rfl ?_) (kR (kS (by omega)) T.cm)
   rintro u (⟨d,hd,rfl⟩|⟨hd,⟨d,rfl⟩|rfl⟩)
   ·rw[hd] at e0
    dsimp only at e0
    conv=>whnf
    refine aj.call [(6001, .old 6001),(6002, .old 1000),(6003, .old 1001)] (oJ n c.rows c.nodes c.lines c.left false) 400 rfl (aa) (aa) (Px n 0 c.rows c.nodes c.lines c.left false d hn96 hrdy (by omega) (by omega) (by omega) (JM hd (by omega)) (by omega)) ?_
    rintro u M' (⟨hdv,rfl,rfl⟩|⟨hdv,rfl,rfl⟩)
    ·rw[B9 hdv] at e0
     refine⟨[(6001, .old 6001),(1000, .old 6002),(1001, .old 6003),(1002, .old 6004),(1003, .old 6005)],[(6001, .box 134 (Ti n 1002 (c.rows++[od n c.rows d]).length 1003 (un c.nodes 0 d).length (c.lines+1) c.left .nilsl false)),(1000, .dead),(1001, .dead),(1002, .row 161 av aE (c.rows++[od n c.rows d])),(1003, .row 217 aw bn (un c.nodes 0 d))], .bool true,rfl,(aa),rfl,?_⟩
     conv=>whnf
     rw[e0]
     refine⟨rfl, .nilsl,(by show rM c.point .nilsl;rw[hpt];rfl), .inr (.inl ?_)⟩
     dsimp only
     rw[hg]
     exact(aa)
    ·rw[Ca hdv] at e0
     refine⟨[(6001, .old 6001),(1000, .old 6002),(1001, .old 6003),(1002, .old 6004),(1003, .old 6005)],[(6001, .box 134 (Ti n 1002 c.rows.length 1003 c.nodes.length c.lines c.left .nilsl true)),(1000, .dead),(1001, .dead),(1002, .row 161 av aE c.rows),(1003, .row 217 aw bn c.nodes)], .bool false,rfl,(aa),rfl,?_⟩
     conv=>whnf
     rw[e0]
     exact⟨rfl, .nilsl,(by show rM c.point .nilsl;rw[hpt];rfl), .inr (.inl (aa))⟩
   ·rw[hd] at e0
    dsimp only at e0
    conv=>whnf
    rw[e0]
    exact⟨rfl, .nilsl,(by show rM c.point .nilsl;rw[hpt];rfl), .inl (aa)⟩
   ·rw[hd] at e0
    dsimp only at e0
    conv=>whnf
    rw[e0]
    exact⟨rfl, .nilsl,(by show rM c.point .nilsl;rw[hpt];rfl), .inl (aa)⟩
  ·have h2':¬(0:Int)<=bad:=h2
   rw[if_neg h2'] at e0
   have hcl:∀j,j<c.rows.length->0<=cl t j 0:=by
    rcases hbad with hb1|hb1
    ·exact hb1.2
    ·omega
   have hbas:∀j,j<c.rows.length->0<=t.bas.getD j 0:=fun j hj=>(hbs j hj).1
   have hfr:=su (n:=n) hbas T.dp.1 hcl c.rows.length (Nat.le_refl _)
   have hfb:=JN (n:=n) hB c.rows.length (Nat.le_refl _)
   refine aj.borrowG (wa n c.rows.length t bad hS hB (by omega) (by omega)) (nE (x5 (by omega)) T.cm) (fun u hu=>by rw[hu];rfl) ?_
   rintro u rfl
   conv=>whnf
   refine ai ?_ ?_<;>(intro h3;conv=>whnf)
   ·rw[if_pos h3] at e0
    by_cases hn0:n=0
    ·subst hn0
     have hp0:lZ 0 t c.rows.length=[]:=List.eq_nil_of_length_eq_zero (jT 0 t _)
     rw[hp0,if_pos (show jz [] from fun j hj=>absurd hj (Nat.not_lt_zero _))] at e0
     refine aj.leakA Nb (aj.of_pure (n:=5) (JB c.rows.length t bad hS (by omega) hbas) rfl ?_) (kR (kS (by omega)) T.cm)
     rintro u ⟨ad,rfl⟩
     conv=>whnf
     refine aj.call [(6001, .old 6001),(6002, .old 1000),(6003, .old 1001)] (oJ 0 c.rows c.nodes c.lines c.left false) 400 rfl (aa) (aa) (MY 0 c.rows c.nodes c.lines c.left false ad) ?_
     rintro u M' ⟨rfl,rfl⟩
     refine⟨[(6001, .old 6001),(1000, .old 6002),(1001, .old 6003),(1002, .old 6004),(1003, .old 6005)],[(6001, .box 134 (Ti 0 1002 c.rows.length 1003 c.nodes.length c.lines c.left (.val (.slice (some ad) 0 0)) false)),(1000, .dead),(1001, .dead),(1002, .row 161 av aE c.rows),(1003, .row 217 aw bn c.nodes)], .tup [],rfl,(aa),trivial,?_⟩
     conv=>whnf
     rw[e0]
     refine⟨rfl, .val (.slice (some ad) 0 0), .inr ⟨rfl,ad,rfl⟩, .inr (.inl ?_)⟩
     dsimp only
     rw[hg]
     exact(aa)
    ·have hpl:=jT n t c.rows.length
     have hpne:lZ n t c.rows.length≠[]:=fun e=>by rw[e] at hpl;simp at hpl;omega
     refine aj.leakA Nb (aj.of_pure (n:=5) (Jt n c.rows.length t bad hS hB (by omega) (by omega) hbas) rfl ?_) (kR (kS (by omega)) T.cm)
     rintro u rfl
     conv=>whnf
     refine aj.call [(6001, .old 6001),(6002, .old 1000),(6003, .old 1001)] (oJ n c.rows c.nodes c.lines c.left false) 400 rfl (aa) (aa) (MW n c.rows c.nodes c.lines c.left false (lZ n t c.rows.length) (by omega)) ?_
     rintro u M' ⟨rfl,⟨hp,rfl⟩|⟨hp,rfl⟩⟩
     ·refine⟨[(6001, .old 6001),(1000, .old 6002),(1001, .old 6003),(1002, .old 6004),(1003, .old 6005)],[(6001, .box 134 (Ti n 1002 c.rows.length 1003 c.nodes.length c.lines c.left (.sl 0 ak (lZ n t c.rows.length)) false)),(1000, .dead),(1001, .dead),(1002, .row 161 av aE c.rows),(1003, .row 217 aw bn c.nodes)], .tup [],rfl,(aa),trivial,?_⟩
      conv=>whnf
      rw[e0,if_pos hp]
      refine⟨rfl, .sl 0 ak (lZ n t c.rows.length), .inl ⟨hpne,rfl⟩, .inr (.inl ?_)⟩
      dsimp only
      rw[hg]
      exact(aa)
     ·refine⟨[(6001, .old 6001),(1000, .old 6002),(1001, .old 6003),(1002, .old 6004),(1003, .old 6005)],[(6001, .box 134 (Ti n 1002 c.rows.length 1003 c.nodes.length c.lines c.left .nilsl true)),(1000, .dead),(1001, .dead),(1002, .row 161 av aE c.rows),(1003, .row 217 aw bn c.nodes)], .tup [],rfl,(aa),trivial,?_⟩
      conv=>whnf
      rw[e0,if_neg hp]
      exact⟨rfl, .nilsl,(by show rM c.point .nilsl;rw[hpt];rfl), .inr (.inl (aa))⟩
   ·rw[if_neg h3] at e0
    rw[e0]
    refine aj.wk (Wk.leakBox (ℓ:=1000) (ℓb:=6001) rfl rfl) ?_
    refine aj.call [(6001, .old 6001),(6002, .old 1000),(6003, .old 1001)] (MZ n c.rows c.nodes c.lines c.left false) 400 rfl (aa) (aa) (JH n k 0 b c _ _ h ha hg (by omega) (by omega) (by omega) hW ih) ?_
    rintro u M' ⟨rfl,pc,hpc,rfl⟩
    rcases gT hpc with ⟨hp,rfl⟩|⟨x,hp,hx,rfl⟩|⟨ad,hp,rfl⟩
    ·refine⟨[(6001, .old 6001),(1000, .old 6002),(1001, .old 6003),(1005, .old 6005)],[(6001, .box 134 (rL n (d6 n k c 0 (ca n t c.rows.length).1 (ca n t c.rows.length).2).rows 1005 (d6 n k c 0 (ca n t c.rows.length).1 (ca n t c.rows.length).2).nodes.length (d6 n k c 0 (ca n t c.rows.length).1 (ca n t c.rows.length).2).lines (d6 n k c 0 (ca n t c.rows.length).1 (ca n t c.rows.length).2).left .nilsl (d6 n k c 0 (ca n t c.rows.length).1 (ca n t c.rows.length).2).gave)),(1000, .dead),(1001, .dead),(1005, .row 217 aw bn (d6 n k c 0 (ca n t c.rows.length).1 (ca n t c.rows.length).2).nodes)], .tup [],rfl,(aa),trivial,?_⟩
     conv=>whnf
     exact⟨rfl, .nilsl,hpc, .inr (.inr (aa))⟩
    ·refine⟨[(6001, .old 6001),(1000, .old 6002),(1001, .old 6003),(1005, .old 6005)],[(6001, .box 134 (rL n (d6 n k c 0 (ca n t c.rows.length).1 (ca n t c.rows.length).2).rows 1005 (d6 n k c 0 (ca n t c.rows.length).1 (ca n t c.rows.length).2).nodes.length (d6 n k c 0 (ca n t c.rows.length).1 (ca n t c.rows.length).2).lines (d6 n k c 0 (ca n t c.rows.length).1 (ca n t c.rows.length).2).left (.sl 0 ak x) (d6 n k c 0 (ca n t c.rows.length).1 (ca n t c.rows.length).2).gave)),(1000, .dead),(1001, .dead),(1005, .row 217 aw bn (d6 n k c 0 (ca n t c.rows.length).1 (ca n t c.rows.length).2).nodes)], .tup [],rfl,(aa),trivial,?_⟩
     conv=>whnf
     exact⟨rfl, .sl 0 ak x,hpc, .inr (.inr (aa))⟩
    ·refine⟨[(6001, .old 6001),(1000, .old 6002),(1001, .old 6003),(1005, .old 6005)],[(6001, .box 134 (rL n (d6 n k c 0 (ca n t c.rows.length).1 (ca n t c.rows.length).2).rows 1005 (d6 n k c 0 (ca n t c.rows.length).1 (ca n t c.rows.length).2).nodes.length (d6 n k c 0 (ca n t c.rows.length).1 (ca n t c.rows.length).2).lines (d6 n k c 0 (ca n t c.rows.length).1 (ca n t c.rows.length).2).left (.val (.slice (some ad) 0 0)) (d6 n k c 0 (ca n t c.rows.length).1 (ca n t c.rows.length).2).gave)),(1000, .dead),(1001, .dead),(1005, .row 217 aw bn (d6 n k c 0 (ca n t c.rows.length).1 (ca n t c.rows.length).2).nodes)], .tup [],rfl,(aa),trivial,?_⟩
     conv=>whnf
     exact⟨rfl, .val (.slice (some ad) 0 0),hpc, .inr (.inr (aa))⟩
def Q9 (s:dN) (nodes:Int):Br:=⟨s.rows,[iW],0,(min nodes 400-1).toNat,none,false⟩
def PC:AV:=.agg [.int .i64 0, .nilsl, .nilsl]
def Sv (s:dN) (nodes:Int) (u:AV):Prop:=
 (fH s≠0/\u= .tup [PC, .int .i64 (fH s)])\/
 (fH s=0/\nodes<=0/\u= .tup [PC, .int .i64 0])\/
 (fH s=0/\0<nodes/\((∃x pc,(jv s nodes).point=some x/\rM (some x) pc/\u= .tup [.agg [.int .i64 1,pc, .nilsl], .int .i64 0])\/
  ((jv s nodes).point=none/\(jv s nodes).gave=true/\u= .tup [PC, .int .i64 0])\/
  ((jv s nodes).point=none/\(jv s nodes).gave=false/\u= .tup [.agg [.int .i64 2, .nilsl, .sl aw bn (jv s nodes).nodes], .int .i64 0])))
theorem PD (s:dN) (nodes:Int) (hs:PN s):ab Tryz.prog 15 [.agg (ro s), .int .i64 nodes] (Sv s nodes):=by
 refine ab.intro ae ag Tryz.func15 rfl (by decide) ?_;(conv=>whnf)
 refine ar rfl ?_
 conv=>whnf
 (refine oP (vQ s hs) ?_;conv=>whnf)
 refine ai ?_ ?_<;>(intro h;conv=>whnf)
 ·exact⟨.inl ⟨h,rfl⟩,rfl⟩
 have h0:fH s=0:=Classical.not_not.1 h
 obtain⟨a1,a2,a3,a4⟩:=lA h0
 refine ai ?_ ?_<;>(intro h1;conv=>whnf)
 ·exact⟨.inr (.inl ⟨h0,h1,rfl⟩),rfl⟩
 have hq1:1<=(if 400<nodes then 400 else nodes)/\(if 400<nodes then 400 else nodes)<=400:=by split<;>omega
 have hq2:((min nodes 400-1).toNat:Int)=(if 400<nodes then 400 else nodes)-1:=by split<;>omega
 generalize (if 400<nodes then 400 else nodes)=q at hq1 hq2⊢
 obtain⟨n,hn⟩:∃n:Nat,s.vars=n:=⟨s.vars.toNat,by omega⟩
 have hnn:s.vars.toNat=n:=by omega
 have hBI:iC n 0 (Q9 s nodes):=⟨rfl,rfl,rfl,rfl,by have:=C8 h0;rw[hnn] at this;exact this,Nat.zero_le _,by omega⟩
 have hlft:(Q9 s nodes).left<400+1:=by show(min nodes 400-1).toNat<401;omega
 have hW:Fy (Q9 s nodes):=⟨by show s.rows.length+(min nodes 400-1).toNat<=1600+0;omega,by show 1+(min nodes 400-1).toNat<=1000;omega⟩
 have hR:=Q8 n 400 (Q9 s nodes) hBI hlft hW
 have hsol:ma n (400+1) (Q9 s nodes) 0=jv s nodes:=by unfold jv;rw[hnn];rfl
 rw[hsol] at hR
 have hR:aj Tryz.prog 57 [.ptr 6001 0, .int .i64 0] (ac.ofL (oJ n s.rows [iW] 0 ((min nodes 400-1).toNat:Int) false)) (PR n (jv s nodes)):=hR
 rw[hq2] at hR
 have hO:=Q5 n s.rows [] 0 q false (by simp) (by omega)
 have e1:([]:List gC)++[iW]=[iW]:=rfl
 rw[e1] at hO
 clear hq2
 obtain⟨c,hc⟩:∃c,c=jv s nodes:=⟨_,rfl⟩
 rw[<-hc] at hR
 refine yl ?_
 conv=>whnf
 first|refine dI ?_|refine lP (by decide+kernel) ?_|refine lQ (by decide+kernel) ?_|skip
 conv=>whnf
 refine bp (by show s.rows.length*32<=140737488355328;omega) ?_
 conv=>whnf
 refine aj.call [(6001, .old 22),(6002, .old 30),(6003, .nil 5)] (oJ n s.rows [] 0 q false) 400 rfl (aa) (aa) hO ?_
 rintro u M' (⟨hl0,rfl,rfl⟩|⟨hl0,rfl,rfl⟩)
 ·omega
 refine⟨[(22, .old 6001),(30, .old 6002),(1002, .old 6004),(1003, .old 6005)],[(22, .box 134 (Ti n 1002 s.rows.length 1003 [iW].length 0 (q-1) .nilsl false)),(30, .dead),(1002, .row 161 av aE s.rows),(1003, .row 217 aw bn [iW])], .int .i64 0,rfl,(aa),rfl,?_⟩
 conv=>whnf
 refine aj.call [(6001, .old 22),(6002, .old 1002),(6003, .old 1003)] (oJ n s.rows [iW] 0 (q-1) false) 400 rfl (aa) (aa) hR ?_
 rintro u M' ⟨rfl,pc,hpc,rfl⟩
 rcases gT hpc with ⟨hp,rfl⟩|⟨x,hp,hx,rfl⟩|⟨ad,hp,rfl⟩
 ·cases hgv:c.gave
  ·refine⟨[(22, .old 6001),(1002, .old 6002),(1003, .old 6003),(1005, .old 6005)],[(22, .box 134 (rL n c.rows 1005 c.nodes.length c.lines c.left .nilsl false)),(1002, .dead),(1003, .dead),(1005, .row 217 aw bn c.nodes)], .tup [],rfl,(aa),trivial,?_⟩
   conv=>whnf
   exact⟨.inr (.inr ⟨h0,by omega, .inr (.inr ⟨by rw[<-hc];exact hp,by rw[<-hc];exact hgv,by rw[<-hc];rfl⟩)⟩),rfl⟩
  ·refine⟨[(22, .old 6001),(1002, .old 6002),(1003, .old 6003),(1005, .old 6005)],[(22, .box 134 (rL n c.rows 1005 c.nodes.length c.lines c.left .nilsl true)),(1002, .dead),(1003, .dead),(1005, .row 217 aw bn c.nodes)], .tup [],rfl,(aa),trivial,?_⟩
   conv=>whnf
   exact⟨.inr (.inr ⟨h0,by omega, .inr (.inl ⟨by rw[<-hc];exact hp,by rw[<-hc];exact hgv,rfl⟩)⟩),rfl⟩
 ·refine⟨[(22, .old 6001),(1002, .old 6002),(1003, .old 6003),(1005, .old 6005)],[(22, .box 134 (rL n c.rows 1005 c.nodes.length c.lines c.left (.sl 0 ak x) c.gave)),(1002, .dead),(1003, .dead),(1005, .row 217 aw bn c.nodes)], .tup [],rfl,(aa),trivial,?_⟩
  conv=>whnf
  refine bp hx ?_
  conv=>whnf
  exact⟨.inr (.inr ⟨h0,by omega, .inl ⟨x,_,by rw[<-hc];exact hp, .inl ⟨hx,rfl⟩,rfl⟩⟩),rfl⟩
 ·refine⟨[(22, .old 6001),(1002, .old 6002),(1003, .old 6003),(1005, .old 6005)],[(22, .box 134 (rL n c.rows 1005 c.nodes.length c.lines c.left (.val (.slice (some ad) 0 0)) c.gave)),(1002, .dead),(1003, .dead),(1005, .row 217 aw bn c.nodes)], .tup [],rfl,(aa),trivial,?_⟩
  conv=>whnf
  exact⟨.inr (.inr ⟨h0,by omega, .inl ⟨[],_,by rw[<-hc];exact hp, .inr ⟨rfl,ad,rfl⟩,rfl⟩⟩),rfl⟩
set_option maxHeartbeats 16000000
def Au (s:dN) (nodes:Int):Int:=if nodes<=0 then 0 else if(jv s nodes).point≠none then 1 else if(jv s nodes).gave=true then 0 else 2
def SP (s:dN) (nodes:Int):List gC:=(jv s nodes).nodes
def Ra (s:dN) (nodes:Int):List Int:=(jv s nodes).point.getD []
def Cb (s:dN) (nodes:Int):AV:=
 if Au s nodes=1 then .tup [.agg [.int .i64 1, .sl 0 ak (Ra s nodes), .nilsl], .int .i64 0]
 else if Au s nodes=2 then .tup [.agg [.int .i64 2, .nilsl, .sl aw bn (SP s nodes)], .int .i64 0]
 else .tup [.agg [.int .i64 0, .nilsl, .nilsl], .int .i64 0]
theorem DZ {s:dN} {nodes:Int} {x:List Int} (h:0<nodes) (hx:(jv s nodes).point=some x):Au s nodes=1/\Ra s nodes=x:=by
 unfold Au Ra
 rw[if_neg (by omega),hx,if_pos (fun e=>by cases e)]
 exact⟨rfl,rfl⟩
theorem D1 {s:dN} {nodes:Int} (h:0<nodes) (hx:(jv s nodes).point=none) (hg:(jv s nodes).gave=true):Au s nodes=0:=by
 unfold Au
 rw[if_neg (by omega),if_neg (fun y=>y hx),if_pos hg]
theorem JO {s:dN} {nodes:Int} (h:0<nodes) (hx:(jv s nodes).point=none) (hg:(jv s nodes).gave=false):Au s nodes=2:=by
 unfold Au
 rw[if_neg (by omega),if_neg (fun y=>y hx),if_neg (by rw[hg];decide)]
theorem JP (s:dN) (nodes:Int):Au s nodes=0\/Au s nodes=1\/Au s nodes=2:=by
 unfold Au
 (repeat' split)<;>simp
theorem PE {s:dN} {nodes:Int} (h:fH s=0) (hk:Au s nodes=1):pB s (Ra s nodes):=by
 by_cases h2:nodes<=0
 ·unfold Au at hk;rw[if_pos h2] at hk;omega
 cases hx:(jv s nodes).point with
 |none=>cases hg:(jv s nodes).gave with
  |true=>have:=D1 (by omega) hx hg;omega
  |false=>have:=JO (by omega) hx hg;omega
 |some x=>
  rw[(DZ (by omega) hx).2]
  exact v8 h (by omega) hx
theorem PF (s:dN) (nodes:Int) (h:fH s=0) (hv:0<s.vars):ab Tryz.prog 15 [.agg (ro s), .int .i64 nodes] (fun u=>u=Cb s nodes):=by
 refine(PD s nodes (qN h)).mono fun u hu=>?_
 rcases hu with ⟨h1,_⟩|⟨_,h2,rfl⟩|⟨_,h2,hu⟩
 ·exact absurd h h1
 ·have hk:Au s nodes=0:=if_pos h2
  unfold Cb
  rw[if_neg (by omega),if_neg (by omega)]
  rfl
 ·rcases hu with ⟨x,pc,hx,hp,rfl⟩|⟨hx,hg,rfl⟩|⟨hx,hg,rfl⟩
  ·have hs:=v8 h h2 hx
   obtain⟨hk,hpt⟩:=DZ h2 hx
   rcases hp with ⟨_,rfl⟩|⟨e,_⟩
   ·unfold Cb
    rw[if_pos hk,hpt]
   ·have:=hs.2.1
    rw[e] at this
    simp at this
    omega
  ·have hk:=D1 h2 hx hg
   unfold Cb
   rw[if_neg (by omega),if_neg (by omega)]
   rfl
  ·have hk:=JO h2 hx hg
   unfold Cb
   rw[if_neg (by omega),if_pos hk]
   rfl
end Go.Proofs.YtekmminpfhacpaaGreatDoor
