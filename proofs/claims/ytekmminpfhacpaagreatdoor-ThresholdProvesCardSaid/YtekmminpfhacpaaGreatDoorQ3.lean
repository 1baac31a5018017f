import Derived.Test.YtekmminpfhacpaaGreatDoorQ2
set_option linter.unusedVariables false
set_option linter.unusedSimpArgs false
namespace Go.Proofs.YtekmminpfhacpaaGreatDoor
section
set_option maxRecDepth 100000
set_option maxHeartbeats 32000000
theorem xT {n m:Nat} {t0 t:cz} {b0 bad:Int} {M:ag} (hm:m<=10000) (hT:mR M n m t bad (fun k=>20000+k)) (h0:∀k,k<m->M (9000+k)=none):
  (∀x,aY n t0 m b0 9000 [] [] (aR t0) x≠none->x∉[7001,7002,7003,7004]->M x=none)/\uo (dZ (aY n t0 m b0 9000 [] [] (aR t0)) [7001,7002,7003,7004] M) m/\mR (dZ (aY n t0 m b0 9000 [] [] (aR t0)) [7001,7002,7003,7004] M) n m t bad (fun k=>20000+k):=by
 obtain⟨e1,e2⟩:=sq (n:=n) (t:=t0) (bad:=b0) hm h0 (by rw[hT.box];simp) (by rw[hT.bas];simp) (by rw[hT.fre];simp) (by obtain⟨g,h,_⟩:=hT.hdr;rw[h];simp)
 have hd:∀x,x∈[7001,7002,7003,7004]->dZ (aY n t0 m b0 9000 [] [] (aR t0)) [7001,7002,7003,7004] M x=M x:=fun x h=>tn h
 have hnew:∀k,k<m->dZ (aY n t0 m b0 9000 [] [] (aR t0)) [7001,7002,7003,7004] M (20000+k)=M (20000+k):=by
  intro k hk
  refine vy ?_
  cases h:aY n t0 m b0 9000 [] [] (aR t0) (20000+k) with
  |none=>rfl
  |some B=>
   rcases pR (by rw[h];simp) with h2|⟨k',hk',e⟩
   ·simp only[List.mem_cons,List.not_mem_nil,or_false] at h2;omega
   ·omega
 refine⟨e1,e2,⟨?_,?_,?_,?_,fun k hk=>?_,hT.inj,hT.far⟩⟩
 ·rw[hd _ (by simp)];exact hT.box
 ·rw[hd _ (by simp)];exact hT.bas
 ·rw[hd _ (by simp)];exact hT.fre
 ·obtain⟨g,g1,g2⟩:=hT.hdr
  exact⟨g,by rw[hd _ (by simp)];exact g1,g2⟩
 ·rw[hnew k hk];exact hT.row k hk
def Qp (n m:Nat) (t:cz) (u:AV) (M':ag):Prop:=
 (∃t' bad',EV m n 5000 t=some (t',bad')/\u= .bool true/\oz n m t'/\uo M' m/\mR M' n m t' bad' (fun k=>20000+k))\/(EV m n 5000 t=none/\u= .bool false/\uo M' m)
theorem Dv {n m:Nat} {t:cz} {bad:Int} (p q:Nat) (hp:9000<=p) (hq:9000<=q):cH (cw (dk++[]) fun x=>(jj q m [] x).map (fm p [])) (aY n t m bad p [] [] (aR t)) (aY n t m bad q [] [] (aR t)):=
 jD (M:=aY n t m bad p [] [] (aR t)) [] (fm p []) (jd hq) rfl rfl trivial rfl (aa) ⟨_,rfl,fun k _=>rfl⟩ (fun k hk=>dw rfl (jd hp) hk) (fun k k' h h' e=>pg (jd (p:=p) hp).1 h h' e)
  (fun k hk y hy=>by have:=fQ (lm:=dk++[]) rfl hy;have:=(jd (p:=p) (m:=m) hp).big k;omega)
theorem O2 {m:Nat} {lab:Nat->Nat} {x ℓ:Nat} (hm:m<=10000) (hx:cw (dk++[]) (fun x=>(jj 9000 m [] x).map (fm 20000 [])) x=some (.old ℓ)):(x=ℓ/\(x=7001\/x=7002\/x=7003\/x=7004))\/∃k,k<m/\x=9000+k/\ℓ=20000+k:=by
 unfold cw at hx
 cases hf:aq (dk++[]) x with
 |some y=>
  rw[hf] at hx
  cases hx
  have hmem:=bd hf
  rw[List.append_nil] at hmem
  unfold dk at hmem
  simp only[List.mem_cons,Prod.mk.injEq,List.not_mem_nil,or_false,LM.old.injEq] at hmem
  left
  omega
 |none=>
  rw[hf] at hx
  dsimp only at hx
  cases hs:jj 9000 m [] x with
  |none=>rw[hs] at hx;cases hx
  |some k=>
   rw[hs] at hx
   cases hx
   obtain⟨h1,h2⟩:=cx (a:=[]) trivial hs
   exact .inr ⟨k,h1,h2.symm,rfl⟩
theorem BV {m:Nat} {k:Nat} (hk:k<m):cw (dk++[]) (fun x=>(jj 9000 m [] x).map (fm 20000 [])) (9000+k)=some (.old (20000+k)):=by
 refine gw (by rw[List.append_nil];exact mS (by omega)) ?_
 have:=lh (p:=9000) (m:=m) (a:=[]) trivial hk
 rw[show fm 9000 [] k=9000+k from rfl] at this
 show Option.map (fm 20000 []) (jj 9000 m [] (9000+k))=_
 rw[this]
 rfl
theorem H0 {m k:Nat} {lab:Nat->Nat} (hk:k<m):yb m lab (20000+k)=some (9000+k):=by
 unfold yb
 rw[nZ.2 (by omega)]
 show some (20000+k-11000)=_
 congr 1
 omega
theorem qP {m x ℓ:Nat} {ψ:Nat->Option Nat} (hm:m<=10000) (hψ:∀k,k<m->ψ (20000+k)=some (9000+k)) (hx:cw (dk++[]) (fun x=>(jj 9000 m [] x).map (fm 20000 [])) x=some (.old ℓ)):cw dk ψ ℓ=some (.old x):=by
 rcases O2 (lab:=id) hm hx with ⟨rfl,h⟩|⟨k,hk,rfl,rfl⟩
 ·rcases h with rfl|rfl|rfl|rfl<;>rfl
 ·exact gw (mS (by omega)) (hψ k hk)
theorem H1 {n m:Nat} {t:cz} {bad:Int} {k:Nat} (hm:m<=10000):aY n t m bad 20000 [] [] (aR t) (30000+k)=none:=by
 cases h:aY n t m bad 20000 [] [] (aR t) (30000+k) with
 |none=>rfl
 |some B=>
  rcases pR (by rw[h];simp) with h2|⟨k',hk',e⟩
  ·simp only[List.mem_cons,List.not_mem_nil,or_false] at h2;omega
  ·omega
theorem M9 {n m:Nat} {t:cz} {bad:Int} {lab:Nat->Nat} {ℓ:Nat} {y:LM} (hm:m<=10000) (hy:cw dk (yb m lab) ℓ=some y):
  (∃x,cw (dk++[]) (fun x=>(jj 9000 m [] x).map (fm 20000 [])) x=some (.old ℓ))\/aY n t m bad 20000 [] [] (aR t) ℓ=none:=by
 unfold cw at hy
 cases hf:aq dk ℓ with
 |some z=>
  have hmem:=bd hf
  unfold dk at hmem
  simp only[List.mem_cons,Prod.mk.injEq,List.not_mem_nil,or_false] at hmem
  left
  rcases hmem with ⟨rfl,_⟩|⟨rfl,_⟩|⟨rfl,_⟩|⟨rfl,_⟩
  ·exact⟨7001,rfl⟩
  ·exact⟨7002,rfl⟩
  ·exact⟨7003,rfl⟩
  ·exact⟨7004,rfl⟩
 |none=>
  rw[hf] at hy
  dsimp only at hy
  unfold yb at hy
  cases hb:(Nat.ble 20000 ℓ&&Nat.blt ℓ (20000+m)) with
  |true=>
   have:=nZ.1 hb
   refine .inl ⟨9000+(ℓ-20000),?_⟩
   rw[BV (show ℓ-20000<m by omega)]
   congr 2
   omega
  |false=>
   rw[hb] at hy
   dsimp only at hy
   cases hs:jj 30000 m [] ℓ with
   |none=>rw[hs] at hy;cases hy
   |some k=>
    obtain⟨h1,h2⟩:=cx (a:=[]) trivial hs
    have h2:30000+k=ℓ:=h2
    subst h2
    exact .inr (H1 hm)
theorem H5 {n m:Nat} {t:cz} {bad:Int} {c:Nat->List Int} {k:Nat} (hm:m<=10000) (hk:k<m):bh (dg n t m bad 30000 []) (Du m c) (30000+k)=some (.row 3 0 al (c k)):=by
 unfold bh
 rw[ej (L:=dg n t m bad 30000 []) rfl (by omega)]
 dsimp only
 unfold Du
 have hb:(Nat.ble 20000 (30000+k)&&Nat.blt (30000+k) (20000+m))=false:=by
  cases hb:(Nat.ble 20000 (30000+k)&&Nat.blt (30000+k) (20000+m)) with
  |false=>rfl
  |true=>have:=nZ.1 hb;omega
 rw[hb]
 dsimp only
 unfold iA
 have:=lh (p:=30000) (m:=m) (a:=[]) trivial hk
 rw[show fm 30000 [] k=30000+k from rfl] at this
 rw[this]
theorem Na {n m:Nat} {t t1:cz} {bad b1:Int} {fr fr':List AV} (hm:m<=10000) (hf:i3 (dk++[]) 400 fr fr'):
  aH [7001,7002,7003,7004] fr (iW (bh (dg n t m bad 30000 []) (Du m (aR t))) (aY n t1 m b1 20000 [] [] (aR t1))) fr' (aY n t m bad 20000 [] [] (aR t)):=by
 refine xR (lmE:=[]) (dk++[]) (fun k=>30000+k) (jd (by decide)) rfl rfl trivial rfl (aa) ⟨_,rfl,fun k _=>rfl⟩ (fun k hk=>?_) (fun k k' _ _ h=>Nat.add_left_cancel h) (fun k hk y hy=>?_) (fun d hd=>?_) (fun k y h=>cE k y h) hf
 ·unfold iW
  rw[H5 hm hk]
 ·have h5:=fQ (lm:=dk++[]) rfl hy
  omega
 ·simp only[List.mem_cons,List.not_mem_nil,or_false] at hd
  rcases hd with rfl|rfl|rfl|rfl<;>rfl
def E8 (m:Nat):ag:=fun x=>match Nat.ble 20000 x&&Nat.blt x (20000+m) with
 |true=>some .dead
 |false=>none
def Fj (m:Nat) (x:Nat):Option Nat:=match Nat.ble 20000 x&&Nat.blt x (20000+m) with
 |true=>some (x-11000)
 |false=>none
def ur:List (Nat×bf):=[(7001, .dead),(7002, .dead),(7003, .dead),(7004, .dead)]
theorem ny {lm:bc} {n:Nat} {x:Option bf} (h:x≠none):nB lm n x .dead:=by
 cases x with
 |none=>exact absurd rfl h
 |some B=>cases B<;>trivial
theorem sv {m x o:Nat} (h:Fj m x=some o):20000<=x/\x<20000+m/\o=x-11000/\E8 m x=some .dead:=by
 unfold Fj at h
 unfold E8
 cases hb:(Nat.ble 20000 x&&Nat.blt x (20000+m)) with
 |true=>
  rw[hb] at h
  cases h
  have:=nZ.1 hb
  exact⟨this.1,this.2,rfl,rfl⟩
 |false=>rw[hb] at h;cases h
theorem qQ {m:Nat} {M':ag} (hh:uo M' m):cH (cw dk (Fj m)) M' (bh ur (E8 m)):=by
 obtain⟨h1,h2,h3,h4,h5⟩:=hh
 refine hJ dk ur (E8 m) (Fj m) 400 rfl ⟨ny h1,ny h2,ny h3,ny h4,trivial⟩ (fun ℓ t0 g m' hmem=>?_) ⟨fun x B' hB=>?_,fun x o hx=>?_,fun x y o hx hy g1 g2=>?_,fun x o k hx g1 hk=>?_⟩
 ·unfold ur at hmem
  simp only[List.mem_cons,Prod.mk.injEq,List.not_mem_nil,or_false] at hmem
  rcases hmem with ⟨_,h⟩|⟨_,h⟩|⟨_,h⟩|⟨_,h⟩<;>cases h
 ·unfold E8 at hB
  cases hb:(Nat.ble 20000 x&&Nat.blt x (20000+m)) with
  |false=>rw[hb] at hB;cases hB
  |true=>
   rw[hb] at hB
   cases hB
   have hi:=nZ.1 hb
   refine⟨mS (by omega),ej (L:=ur) rfl (by omega),x-11000, .dead,?_,?_, .inl rfl⟩
   ·unfold Fj;rw[hb]
   ·have:=h5 (x-20000) (by omega)
    rw[show 9000+(x-20000)=x-11000 by omega] at this
    exact this
 ·rw[(sv hx).2.2.2];simp
 ·exact absurd (sv hx).2.2.2 g1
 ·exact absurd (sv hx).2.2.2 g1
theorem H6 {m k:Nat} (hk:k<m):Fj m (20000+k)=some (9000+k):=by
 unfold Fj
 rw[nZ.2 (by omega)]
 show some (20000+k-11000)=_
 congr 1
 omega
theorem BW {m:Nat} {M:ag} {ℓ:Nat} {y:LM} (hy:cw dk (Fj m) ℓ=some y):
  (∃x,cw (dk++[]) (fun x=>(jj 9000 m [] x).map (fm 20000 [])) x=some (.old ℓ))\/M ℓ=none:=by
 unfold cw at hy
 left
 cases hf:aq dk ℓ with
 |some z=>
  have hmem:=bd hf
  unfold dk at hmem
  simp only[List.mem_cons,Prod.mk.injEq,List.not_mem_nil,or_false] at hmem
  rcases hmem with ⟨rfl,_⟩|⟨rfl,_⟩|⟨rfl,_⟩|⟨rfl,_⟩
  ·exact⟨7001,rfl⟩
  ·exact⟨7002,rfl⟩
  ·exact⟨7003,rfl⟩
  ·exact⟨7004,rfl⟩
 |none=>
  rw[hf] at hy
  dsimp only at hy
  cases hd:Fj m ℓ with
  |none=>rw[hd] at hy;cases hy
  |some o=>
   have hi:=sv hd
   refine⟨9000+(ℓ-20000),?_⟩
   rw[BV (show ℓ-20000<m by omega)]
   congr 2
   omega
theorem Nb {n m:Nat} {t t1:cz} {b1:Int} (hm:m<=10000):(∀x,aY n t m (-1) 9000 [] [] (aR t) x≠none->x∉[7001,7002,7003,7004]->iW (bh ur (E8 m)) (aY n t1 m b1 20000 [] [] (aR t1)) x=none)/\
  uo (dZ (aY n t m (-1) 9000 [] [] (aR t)) [7001,7002,7003,7004] (iW (bh ur (E8 m)) (aY n t1 m b1 20000 [] [] (aR t1)))) m:=by
 refine sq hm (fun k hk=>?_) (fun h=>by cases (show some bf.dead=none from h)) (fun h=>by cases (show some bf.dead=none from h)) (fun h=>by cases (show some bf.dead=none from h)) (fun h=>by cases (show some bf.dead=none from h))
 unfold iW
 have e:bh ur (E8 m) (9000+k)=none:=by
  unfold bh
  rw[ej (L:=ur) rfl (by omega)]
  dsimp only
  cases h:E8 m (9000+k) with
  |none=>rfl
  |some B=>
   unfold E8 at h
   cases hb:(Nat.ble 20000 (9000+k)&&Nat.blt (9000+k) (20000+m)) with
   |false=>rw[hb] at h;cases h
   |true=>have:=nZ.1 hb;omega
 rw[e]
 exact nu rfl (by omega) (by omega) rfl
theorem H7 (n m:Nat) (t:cz) (ht:oz n m t) (hn:n<=1000) (hm:m<=10000):
  aj Tryz.prog 131 [.ptr 7001 0] (aY n t m (-1) 9000 [] [] (aR t)) (fun u M'=>Qp n m t u M'):=by
 refine aj.introG (args':=[.ptr 7001 0]) (M1:=aY n t m (-1) 20000 [] [] (aR t)) ab ac (cw (dk++[]) fun x=>(jj 20000 m [] x).map (fm 9000 [])) [7001,7002,7003,7004]
  (Dv 9000 20000 (by decide) (by decide))
  (fun d hd=>cE d _ (by
   simp only[List.mem_cons,List.not_mem_nil,or_false] at hd
   rcases hd with rfl|rfl|rfl|rfl<;>rfl))
  (eW.by_ (lm:=dk) 400 cE (aa)) Tryz.func131 rfl (by decide) ?_
 conv=>whnf
 refine aJ.loopM ab ac (fun x:Nat×cz=>x.1<=5000/\oz n m x.2/\EV m n (5000-x.1) x.2=EV m n 5000 t) (fun x=>[(5, .int .i64 (x.1:Int))]) (fun x=>aY n x.2 m (-1) 20000 [] [] (aR x.2)) (fun x=>5000-x.1) (0,t) ⟨Nat.zero_le _,ht,rfl⟩ ?_
 conv=>whnf
 refine⟨?_,?_⟩
 ·show aH _ _ _ _ _
  exact mQ (jd (by decide)) (jd (by decide)) [] (fun q hq=>by cases hq) (aa)
 rintro⟨k,t1⟩ ⟨hk,hs1,hsl⟩
 dsimp only at hk hs1 hsl
 have hfree:∀k,k<m->aY n t1 m (-1) 20000 [] [] (aR t1) (9000+k)=none:=fun k hk=>nu rfl (by omega) (by omega) rfl
 refine ju ?_
 conv=>whnf
 by_cases hlt:k<5000
 ·refine tI ?_
  conv=>whnf
  have hstep:EV m n (5000-k) t1=if jm t1 m<0 then some (t1,-1)
   else if p5 t1 (jm t1 m).toNat n<0 then some (t1,jm t1 m)
   else if Fi m n t1 (jm t1 m).toNat (p5 t1 (jm t1 m).toNat n).toNat then EV m n (4999-k) (sj m n t1 (jm t1 m).toNat (p5 t1 (jm t1 m).toNat n).toNat)
   else none:=by
   rw[show 5000-k=(4999-k)+1 by omega]
   rfl
  rw[hsl] at hstep
  refine aj.borrowG (HW n m t1 (-1) hs1 (by omega) (by omega)) (nw (pS 20000 (by decide)) hs1.cm) (fun u hu=>by rw[hu];rfl) ?_
  rintro u rfl
  conv=>whnf
  refine ae ?_ ?_<;>(intro h1;conv=>whnf)
  ·rw[if_pos h1] at hstep
   have e:=xT (t0:=t) (b0:=-1) hm (pS (n:=n) (m:=m) (t:=t1) (bad:=-1) 20000 (by decide)) hfree
   exact⟨e.1, .inl ⟨t1,-1,hstep,rfl,hs1,e.2.1,e.2.2⟩⟩
  ·rw[if_neg h1] at hstep
   have hrng:=sk t1 m
   refine aj.borrowG (E0 n m t1 (-1) (jm t1 m) hs1 (by omega) (by omega) (by omega)) (E7 (pS 20000 (by decide)) hs1.cm) (fun u hu=>by rw[hu];rfl) ?_
   rintro u rfl
   conv=>whnf
   refine ae ?_ ?_<;>(intro h2;conv=>whnf)
   ·rw[if_pos h2] at hstep
    have hT:mR ((aY n t1 m (-1) 20000 [] [] (aR t1)).set 7001 (.box 206 [.int .i64 n, .int .i64 t1.den, .row 7002 t1.bas.length 1, .row 7003 t1.fre.length 1, .row 7004 m 1, .int .i64 (jm t1 m)])) n m t1 (jm t1 m) (fun k=>20000+k):=
     ⟨rfl,rfl,rfl,⟨_,rfl,fun k _=>rfl⟩,fun k hk=>by
      rw[ag.set_ne _ _ (by omega)]
      exact dw (a:=[]) rfl (jd (by decide)) hk,fun k k' _ _ h=>Nat.add_left_cancel h,fun k _=>.inr (by omega)⟩
    have e:=xT (t0:=t) (b0:=-1) hm hT (fun k hk=>by
     rw[ag.set_ne _ _ (by omega)]
     exact hfree k hk)
    exact⟨e.1, .inl ⟨t1,jm t1 m,hstep,rfl,hs1,e.2.1,e.2.2⟩⟩
   ·rw[if_neg h2] at hstep
    have hrng2:=sm t1 (jm t1 m).toNat n
    have hpos:=xM t1 (jm t1 m).toNat n (by omega)
    have pv:=M7 n m t1 (-1) (jm t1 m).toNat (p5 t1 (jm t1 m).toNat n).toNat hs1 hn hm (by omega) (by omega) (by omega)
    rw[Int.toNat_of_nonneg (show 0<=jm t1 m by omega),Int.toNat_of_nonneg (show 0<=p5 t1 (jm t1 m).toNat n by omega)] at pv
    refine aj.callG _ (aY n t1 m (-1) 9000 [] [] (aR t1)) (Dv 20000 9000 (by decide) (by decide)) (eW.by_ (lm:=dk) 400 cE (aa)) pv ?_
    rintro u M' (⟨hpv,rfl,hh,lab,hT,hlab⟩|⟨hpv,rfl,hh⟩)
    ·rw[if_pos hpv] at hstep
     have hs2:=hs1.pv (by omega) (by omega) hpos hpv
     generalize sj m n t1 (jm t1 m).toNat (p5 t1 (jm t1 m).toNat n).toNat=t2 at hstep hT hs2
     refine⟨cw dk (yb m lab),bh (dg n t2 m (-1) 30000 []) (Du m (aR t2)), .bool true,qO hT hh hm,fun x ℓ hx=>qP hm (fun k hk=>H0 hk) hx,fun ℓ y hy=>M9 hm hy,fun S ρ v h=>((eU 400).1 (.bool true) (.bool true) v rfl h).mono (ai.le_refl _) (i6 (lm:=[]) (fun k y h=>by cases h)),?_⟩
     conv=>whnf
     refine aI ?_
     conv=>whnf
     refine⟨(k+1,t2),Na hm (aa),⟨by dsimp only;omega,hs2,?_⟩,by dsimp only;omega⟩
     dsimp only
     rw[hstep]
     congr 1
     omega
    ·rw[if_neg hpv] at hstep
     refine⟨cw dk (Fj m),bh ur (E8 m), .bool false,qQ hh,fun x ℓ hx=>qP hm (fun k hk=>H6 hk) hx,fun ℓ y hy=>BW hy,fun S ρ v h=>((eU 400).1 (.bool false) (.bool false) v rfl h).mono (ai.le_refl _) (i6 (lm:=[]) (fun k y h=>by cases h)),?_⟩
     conv=>whnf
     have e:=Nb (n:=n) (t:=t) (t1:=t1) (b1:=-1) hm
     exact⟨e.1, .inr ⟨hstep,rfl,e.2⟩⟩
 ·refine fI ?_
  conv=>whnf
  have e0:5000-k=0:=by omega
  rw[e0] at hsl
  have hnone:EV m n 5000 t=none:=hsl.symm
  have e:=xT (t0:=t) (b0:=-1) hm (pS (n:=n) (m:=m) (t:=t1) (bad:=-1) 20000 (by decide)) hfree
  exact⟨e.1, .inr ⟨hnone,rfl,e.2.1⟩⟩
def Kl (n:Nat):List Int:=(List.range n).map fun j:Nat=>(j:Int)
theorem Nc (k:Nat):Kl k++[(k:Int)]=Kl (k+1):=by simp[Kl,List.range_succ]
theorem Km (k:Nat):(Kl k).length=k:=by simp[Kl]
def wq (rows:List aV):List (Nat×bf):=[(7000, .row 161 ar aw rows)]
def QL (n:Nat) (rows:List aV) (l:List Int):List (Nat×bf):=[(7000, .row 161 ar aw rows),(7001, .box 206 [.int .i64 n, .int .i64 1, .nilsl, .row 7003 l.length 1, .nilsl, .int .i64 (-1)]),(7003, .row 3 0 al l)]
def NH (n i:Nat):List Int:=(List.range i).map fun k:Nat=>((n:Int)+(k:Int))
def wr (n:Nat) (rows:List aV) (i:Nat):cz:=⟨1,NH n i,Kl n,(rows.take i).map kH⟩
theorem Kn (n:Nat) (rows:List aV):wr n rows rows.length=eP n rows:=by
 unfold wr eP NH Kl
 rw[List.take_length]
theorem cH.ghost {f:Nat->Option LM} {M M':ag} (h:cH f M M') (g:Nat) (hg:f g=none):cH (fun x=>if x=g then some (.nil 1) else f x) M (M'.set g (.row 3 (0:Int) al [])):=by
 refine⟨fun x B' hB=>?_,fun x y hy=>?_,fun a b ℓ ha hb h1 h2=>?_⟩
 ·by_cases e:x=g
  ·subst e
   rw[ag.set_eq] at hB
   cases hB
   unfold rg
   dsimp only
   rw[if_pos rfl]
   exact .inl ⟨_,_,_,_,rfl⟩
  ·rw[ag.set_ne _ _ e] at hB
   have:=h.tell x B' hB
   unfold rg at*
   dsimp only
   rw[if_neg e]
   revert this
   cases f x with
   |none=>exact fun h=>h
   |some y=>
    cases y with
    |nil _=>exact fun h=>h
    |old ℓ=>
     rintro⟨B,h1,h2⟩
     refine⟨B,h1,h2.imp id fun h3=>⟨h3.1,fun S F ρ w b hb=>dK.keep (h3.2 S F ρ w b hb) (ai.le_refl _) (fun y c hc=>by
      unfold eV at hc⊢
      have e2:y≠g:=fun e2=>by subst e2;rw[hg] at hc;cases hc
      dsimp only
      rw[if_neg e2]
      exact hc) (fun _=>⟨rfl,rfl⟩)⟩⟩
 ·by_cases e:x=g
  ·subst e;rw[ag.set_eq];simp
  ·rw[ag.set_ne _ _ e]
   rw[if_neg e] at hy
   exact h.keys x y hy
 ·by_cases e:a=g
  ·subst e;rw[if_pos rfl] at ha;cases ha
  ·by_cases e':b=g
   ·subst e';rw[if_pos rfl] at hb;cases hb
   ·rw[if_neg e] at ha
    rw[if_neg e'] at hb
    rw[ag.set_ne _ _ e] at h1
    rw[ag.set_ne _ _ e'] at h2
    exact h.olds a b ℓ ha hb h1 h2
def QM:bc:=[(7001, .old 7001),(7002, .nil 1),(7003, .old 7003),(7004, .nil 1),(7000, .old 7000)]
theorem Nd {n:Nat} {rows:List aV} {fr fr':List AV} (hf:i3 QM 400 fr fr'):aH [7000] fr (ag.ofL (QL n rows (Kl n))) fr' (aY n (wr n rows 0) 0 (-1) 10000 [] (wq rows) (aR (wr n rows 0))):=by
 refine aH.fam QM (dg n (wr n rows 0) 0 (-1) 10000 []++wq rows) _ (fun _=>none) 400 rfl (aa) (fun ℓ' t g' m hmem=>?_) ⟨fun x B' hB=>?_,fun x o hx=>(by cases hx),fun x y o hx=>(by cases hx),fun x o k hx=>(by cases hx)⟩ (fun d hd=>?_) hf
 ·simp only[dg,wq,List.cons_append,List.nil_append,List.mem_cons,Prod.mk.injEq,List.not_mem_nil,or_false] at hmem
  rcases hmem with ⟨_,h⟩|⟨_,h⟩|⟨_,h⟩|⟨rfl,h⟩|⟨_,h⟩
  ·cases h
  ·cases h
  ·cases h
  ·injection h with h1 h2 h3
  ·cases h
 ·unfold iA at hB
  cases hs:jj 10000 0 [] x with
  |none=>rw[hs] at hB;cases hB
  |some k=>exact absurd (cx (a:=[]) trivial hs).1 (Nat.not_lt_zero _)
 ·simp only[List.mem_cons,List.not_mem_nil,or_false] at hd
  subst hd
  rfl
theorem rA {M:ag} {n m:Nat} {t:cz} {bad:Int} {p:Nat} {a:List (Nat×Nat)} {E:List (Nat×bf)} {c:Nat->List Int} (lm:bc) (lab:Nat->Nat) (hw:oy p m a) (hE:pQ E=true) (hlow:xP lm=true) (hEh:M5 E) (h4:aq lm 7004=some (.old 7004))
  (hs:(fA lm (dg n t m bad p a++E)&&eG (dg n t m bad p a++E) lm)=true) (hm:ql lm 400 M (dg n t m bad p a++E))
  (hg:∃g,M 7004=some (.hdr 24 g m)/\∀k,k<m->g k=[.row (lab k) (n+1) 1]) (hrow:∀k,k<m->M (lab k)=some (.row 3 0 al (c k)))
  (hlab:∀k k',k<m->k'<m->lab k=lab k'->k=k') (hfar:∀k,k<m->∀y,aq lm y≠some (.old (lab k))):
  cH (cw lm fun x=>(jj p m a x).map lab) M (aY n t m bad p a E c):=by
 refine tq lm (dg n t m bad p a++E) 400 7004 24 3 (n+1) m c (jj p m a) lab (fm p a) hs hm (fun ℓ t0 g m' hmem=>?_) h4 hg hrow (fun x k hx=>?_) (fun x y k hx hy=>?_) (fun k hk=>lh hw.1 hk) hlab (fun k hk y hy=>absurd hy (hfar k hk y))
 ·rcases List.mem_append.1 hmem with h|h
  ·unfold dg at h
   simp only[List.mem_cons,Prod.mk.injEq,List.not_mem_nil,or_false] at h
   rcases h with ⟨_,h⟩|⟨_,h⟩|⟨_,h⟩|⟨h1,h⟩
   ·cases h
   ·cases h
   ·cases h
   ·injection h with e1 e2 e3
    subst e1;subst e2;subst e3
    exact⟨h1,rfl,rfl,fun k _=>rfl⟩
  ·exact(xQ hEh _ _ _ _ h).elim
 ·have:=hw.key hx
  exact⟨(cx hw.1 hx).1,kK hlow (by omega),ej (kL hE) (by omega)⟩
 ·rw[<-(cx hw.1 hx).2,(cx hw.1 hy).2]
def Pu (n:Nat) (rows:List aV) (i:Nat):cz:={wr n rows i with bas:=(wr n rows i).bas++[(n:Int)+(i:Int)]}
theorem Nf (n i:Nat):NH n i++[(n:Int)+(i:Int)]=NH n (i+1):=by simp[NH,List.range_succ]
def Qq (rows:List aV) (r:aV):List (Nat×bf):=wq rows++[(55, .row 3 0 al (kH r))]
def Pv:bc:=[(7001, .old 7001),(7002, .old 47),(7003, .old 7003),(7004, .old 7004),(7000, .old 7000),(55, .old 55)]
def Pw:bc:=[(7001, .old 7001),(7002, .old 7002),(7003, .old 7003),(7004, .old 7004),(7000, .old 7000),(55, .old 55)]
theorem z9 {M:ag} (hd':Nat) (lm:bc) (L:List (Nat×bf)) (n:Nat) (hd:Nat) (t0 ti:TypeId) (w m:Nat) (c:Nat->List Int) (σ:Nat->Option Nat) (lab lab':Nat->Nat)
  (hs:(fA lm L&&eG L lm)=true) (hm:ql lm n M L) (hL:∀ℓ t g m',(ℓ,bf.hdr t g m')∈L->ℓ=hd/\t=t0/\m'=m/\∀k,k<m->g k=[.row (lab' k) w 1])
  (h4:aq lm hd=some (.old hd')) (hg:∃g,M hd'=some (.hdr t0 g m)/\∀k,k<m->g k=[.row (lab k) w 1]) (hrow:∀k,k<m->M (lab k)=some (.row ti 0 al (c k)))
  (hσ1:∀x k,σ x=some k->k<m/\aq lm x=none/\ag.ofL L x=none) (hσ2:∀x y k,σ x=some k->σ y=some k->x=y) (hσ3:∀k,k<m->σ (lab' k)=some k)
  (hlab:∀k k',k<m->k'<m->lab k=lab k'->k=k') (hfar:∀k,k<m->∀y,aq lm y=some (.old (lab k))->ag.ofL L y=some .dead):
  cH (cw lm fun x=>(σ x).map lab) M (bh L (iA ti σ c)):=by
 refine hJ lm L _ _ n hs hm (fun ℓ t g m' hmem=>?_) ⟨fun x B' hB=>?_,fun x o hx=>?_,fun x y o hx hy _ _=>?_,fun x o k hx _ hk=>?_⟩
 ·obtain⟨rfl,rfl,rfl,hgg⟩:=hL ℓ t g m' hmem
  unfold Eb
  rw[h4]
  obtain⟨g0,h1,h2⟩:=hg
  refine⟨g0,h1,fun i hi=>?_⟩
  rw[h2 i hi,hgg i hi]
  refine eW.one (kx.row (gw (hσ1 _ _ (hσ3 i hi)).2.1 ?_))
  rw[hσ3 i hi];rfl
 ·unfold iA at hB
  split at hB
  ·rename_i k hk
   cases hB
   obtain⟨h1,h2,h3⟩:=hσ1 x k hk
   refine⟨h2,h3,lab k,_,by rw[hk];rfl,hrow k h1, .inr ⟨rfl,rfl⟩⟩
  ·cases hB
 ·unfold iA
  cases hσx:σ x with
  |none=>rw[hσx] at hx;cases hx
  |some k=>simp
 ·cases h1:σ x with
  |none=>rw[h1] at hx;cases hx
  |some k=>
   cases h2:σ y with
   |none=>rw[h2] at hy;cases hy
   |some k'=>
    rw[h1] at hx
    rw[h2] at hy
    simp only[Option.map_some,Option.some.injEq] at hx hy
    have:=hlab k k' (hσ1 x k h1).1 (hσ1 y k' h2).1 (hx.trans hy.symm)
    subst this
    exact hσ2 x y k h1 h2
 ·cases h1:σ x with
  |none=>rw[h1] at hx;cases hx
  |some i=>
   rw[h1] at hx
   simp only[Option.map_some,Option.some.injEq] at hx
   subst hx
   exact hfar i (hσ1 x i h1).1 k hk
theorem Aa {M:ag} (hd':Nat) {n m:Nat} {t:cz} {bad:Int} {p:Nat} {a:List (Nat×Nat)} {E:List (Nat×bf)} {c:Nat->List Int} (lm:bc) (lab:Nat->Nat) (hw:oy p m a) (hE:pQ E=true) (hlow:xP lm=true) (hEh:M5 E) (h4:aq lm 7004=some (.old hd'))
  (hs:(fA lm (dg n t m bad p a++E)&&eG (dg n t m bad p a++E) lm)=true) (hm:ql lm 400 M (dg n t m bad p a++E))
  (hg:∃g,M hd'=some (.hdr 24 g m)/\∀k,k<m->g k=[.row (lab k) (n+1) 1]) (hrow:∀k,k<m->M (lab k)=some (.row 3 0 al (c k)))
  (hlab:∀k k',k<m->k'<m->lab k=lab k'->k=k') (hfar:∀k,k<m->∀y,aq lm y≠some (.old (lab k))):
  cH (cw lm fun x=>(jj p m a x).map lab) M (aY n t m bad p a E c):=by
 refine z9 hd' lm (dg n t m bad p a++E) 400 7004 24 3 (n+1) m c (jj p m a) lab (fm p a) hs hm (fun ℓ t0 g m' hmem=>?_) h4 hg hrow (fun x k hx=>?_) (fun x y k hx hy=>?_) (fun k hk=>lh hw.1 hk) hlab (fun k hk y hy=>absurd hy (hfar k hk y))
 ·rcases List.mem_append.1 hmem with h|h
  ·unfold dg at h
   simp only[List.mem_cons,Prod.mk.injEq,List.not_mem_nil,or_false] at h
   rcases h with ⟨_,h⟩|⟨_,h⟩|⟨_,h⟩|⟨h1,h⟩
   ·cases h
   ·cases h
   ·cases h
   ·injection h with e1 e2 e3
    subst e1;subst e2;subst e3
    exact⟨h1,rfl,rfl,fun k _=>rfl⟩
  ·exact(xQ hEh _ _ _ _ h).elim
 ·have:=hw.key hx
  exact⟨(cx hw.1 hx).1,kK hlow (by omega),ej (kL hE) (by omega)⟩
 ·rw[<-(cx hw.1 hx).2,(cx hw.1 hy).2]
def Qr:bc:=[(7001, .old 7001),(7002, .old 7002),(7003, .old 7003),(7004, .old 76),(7000, .old 7000)]
def E9 (i k:Nat):Nat:=match Nat.blt k i with
 |true=>10000+k
 |false=>55
theorem nz {i k:Nat} (h:k<i):E9 i k=10000+k:=by
 unfold E9
 have:Nat.blt k i=true:=by simp only[Nat.blt,Nat.ble_eq];omega
 rw[this]
theorem sx {i k:Nat} (h:¬k<i):E9 i k=55:=by
 unfold E9
 have:Nat.blt k i=false:=by
  cases hb:Nat.blt k i with
  |false=>rfl
  |true=>simp only[Nat.blt,Nat.ble_eq] at hb;omega
 rw[this]
theorem ut {n:Nat} {rows:List aV} {i k:Nat} (hk:k<i) (hi:i<=rows.length):aR (wr n rows i) k=kH (rows.getD k ar):=by
 unfold aR wr
 dsimp only
 rw[ap [] (by simp;omega),ap ar (show k<rows.length by omega)]
 simp
theorem Ko {n:Nat} {rows:List aV} {i:Nat} {c:Nat->List Int}:aY n (wr n rows (i+1)) (i+1) (-1) 10000 [] (wq rows) c=aY n (Pu n rows i) (i+1) (-1) 10000 [] (wq rows) c:=by
 have eb:(wr n rows (i+1)).bas=(Pu n rows i).bas:=(Nf n i).symm
 unfold aY dg
 rw[eb]
 rfl
def Q7 (n:Nat) (rows:List aV) (u:AV) (M':ag):Prop:=
 (zU rows/\u= .tup [.ptr 7001 0, .bool true]/\M'=aY n (eP n rows) rows.length (-1) 10000 [] (wq rows) (aR (eP n rows)))\/(¬zU rows/\∃x,u= .tup [x, .bool false]/\M' 7000=some (.row 161 ar aw rows))
theorem rB (n:Nat) (rows:List aV) (hn:n<=1000) (hl:rows.length<=10000) (hw:∀i,i<rows.length->(rows.getD i ar).coef.length=n):
  aj Tryz.prog 130 [.int .i64 n, .row 7000 rows.length 2] (ag.ofL (wq rows)) (fun u M'=>Q7 n rows u M'):=by
 refine aj.intro ab ac (wq rows) Tryz.func130 rfl (by decide) ?_
 conv=>whnf
 refine DM ?_
 conv=>whnf
 refine aJ.loopF ab ac (fun k:Nat=>k<=n) (fun k=>[(17, .int .i64 (k:Int)),(6, .ptr 7001 0),(15, .ptr 7001 0)]) (fun k=>QL n rows (Kl k)) (fun k=>n-k) 0 (Nat.zero_le _) ?_;conv=>whnf
 refine⟨aH.by_ [(7000, .old 7000),(7001, .old 15),(7003, .nil 1)] _ 400 rfl (aa) (aa),?_⟩
 rintro k hk
 have hfl:=Km k
 conv=>whnf
 refine ae ?_ ?_<;>(intro h1;conv=>whnf)
 ·have hlt:k<n:=by omega
  first|refine iV (by decide+kernel) ?_|skip
  conv=>whnf
  first|refine bU ?_|skip
  conv=>whnf
  refine bq [(k:Int)] rfl lI ?_
  conv=>whnf
  repeat' ((first|refine nI ?_|refine aI ?_|refine uI ?_|refine vI ?_|refine dI ?_|refine dR ?_|refine dP ?_|refine au rfl ?_|refine pI _ rfl ?_|refine ak _ rfl ?_|refine tI ?_|refine fI ?_|refine ae (fun _=>?_) (fun _=>?_))<;>conv=>whnf)
  refine⟨k+1,?_,by omega,by dsimp only;omega⟩
  dsimp only
  rw[<-Nc]
  exact aH.by_ [(7000, .old 7000),(7001, .old 7001),(7003, .old 27)] _ 400 rfl (aa) (aa)
 ·obtain rfl:n=k:=by omega
  refine aJ.loopM ab ac (fun i:Nat=>i<=rows.length/\∀q,q<i->∀j,j<(kH (rows.getD q ar)).length->cM ((kH (rows.getD q ar)).getD j 0)) (fun i=>[(33, .int .i64 (i:Int))]) (fun i=>aY n (wr n rows i) i (-1) 10000 [] (wq rows) (aR (wr n rows i))) (fun i=>rows.length-i) 0 ⟨Nat.zero_le _,fun q hq=>absurd hq (Nat.not_lt_zero _)⟩ ?_
  conv=>whnf
  refine⟨?_,?_⟩
  ·show aH _ _ _ _ _
   exact Nd (aa)
  rintro i ⟨hi,ha⟩
  by_cases hlt:i<rows.length
  ·refine ju ?_
   conv=>whnf
   refine tI ?_
   conv=>whnf
   refine nI ?_
   rw[tN]
   conv=>whnf
   refine aI ?_
   conv=>whnf
   have hbl:(wr n rows i).bas.length=i:=by simp[wr,NH]
   refine bq [(n:Int)+(i:Int)] rfl lI ?_
   conv=>whnf
   have hwi:=hw i hlt
   refine bq (rows.getD i ar).coef rfl lI ?_
   conv=>whnf
   refine aJ.loopM ab ac (fun j:Nat=>j<=(kH (rows.getD i ar)).length/\∀q,q<j->cM ((kH (rows.getD i ar)).getD q 0)) (fun j=>[(58, .int .i64 (j:Int)),(9, .top),(42, .top),(46, .top),(47, .top),(50, .top),(52, .top),(53, .top)]) (fun _=>(aY n (Pu n rows i) i (-1) 10000 [] (Qq rows (rows.getD i ar)) (aR (wr n rows i))).set 9999 (.row 3 (0:Int) al [])) (fun j=>(kH (rows.getD i ar)).length-j) 0 ⟨Nat.zero_le _,fun q hq=>absurd hq (Nat.not_lt_zero _)⟩ ?_
   conv=>whnf
   refine⟨?_,?_⟩
   ·show aH _ _ _ _ _
    refine aH.gen _ (cH.ghost (rA (E:=Qq rows (rows.getD i ar)) (c:=aR (wr n rows i)) Pv (fun k=>10000+k) (jd (by decide)) rfl rfl trivial rfl rfl (by
     have e:(Pu n rows i).bas.length=(wr n rows i).bas.length+[(n:Int)+(i:Int)].length:=List.length_append
     unfold dg
     rw[e]
     repeat' (first|exact True.intro|exact rfl|(refine And.intro ?_ ?_)|((conv=>whnf);omega)|((conv=>whnf);simp only[List.length_append,List.length_cons,List.length_nil];done)|((conv=>whnf);simp only[List.length_append,List.length_cons,List.length_nil];omega))) ⟨_,rfl,fun k _=>rfl⟩ (fun k hk=>?_) (fun k k' _ _ h=>Nat.add_left_cancel h) (fun k hk y hy=>?_)) 9999 ?_) (fun d hd=>?_) (eW.by_ (lm:=Pv) 400 ?_ (aa))
    ·rw[ag.set_ne _ _ (by omega),ag.set_ne _ _ (by omega),ag.set_ne _ _ (by omega),ag.set_ne _ _ (by omega),ag.set_ne _ _ (by omega),ag.set_ne _ _ (by omega),ag.set_ne _ _ (by omega),ag.set_ne _ _ (by omega),ag.set_ne _ _ (by omega)]
     exact dw (a:=[]) rfl (jd (by decide)) hk
    ·have h5:=fQ (lm:=Pv) rfl hy
     omega
    ·rfl
    ·simp only[wq,List.map_cons,List.map_nil,List.mem_cons,List.not_mem_nil,or_false] at hd
     subst hd
     rfl
    ·intro k y hky
     have hk5:¬7005<=k:=fun h=>by rw[kK (lm:=Pv) rfl h] at hky;cases hky
     rw[if_neg (by omega)]
     exact cE k y hky
   ·rintro j ⟨hj,hb⟩
    have hln:(kH (rows.getD i ar)).length=1+(rows.getD i ar).coef.length:=by simp[kH];omega
    by_cases hjl:j<(kH (rows.getD i ar)).length
    ·refine ju ?_
     conv=>whnf
     refine tI ?_
     conv=>whnf
     refine nI ?_
     rw[tN]
     conv=>whnf
     have hnb:¬cM ((kH (rows.getD i ar)).getD j 0)->¬zU rows:=fun h1 h2=>h1 (h2 i hlt j hjl)
     refine ae ?_ ?_<;>(intro g1;conv=>whnf)
     ·exact .inr ⟨hnb (fun h=>by unfold cM at h;omega),_,rfl,rfl⟩
     ·refine ae ?_ ?_<;>(intro g2;conv=>whnf)
      ·exact .inr ⟨hnb (fun h=>by unfold cM at h;omega),_,rfl,rfl⟩
      ·refine aI ?_
       conv=>whnf
       refine⟨j+1,?_,⟨by omega,fun q hq=>?_⟩,by dsimp only;omega⟩
       ·refine aH.gen _ (cH.ghost (rA (E:=Qq rows (rows.getD i ar)) (c:=aR (wr n rows i)) Pw (fun k=>10000+k) (jd (by decide)) rfl rfl trivial rfl rfl (aa) ⟨_,rfl,fun k _=>rfl⟩ (fun k hk=>?_) (fun k k' _ _ h=>Nat.add_left_cancel h) (fun k hk y hy=>?_)) 9999 ?_) (fun d hd=>?_) (eW.by_ (lm:=Pw) 400 ?_ (aa))
        ·rw[ag.set_ne _ _ (by omega)]
         exact dw (a:=[]) rfl (jd (by decide)) hk
        ·have h5:=fQ (lm:=Pw) rfl hy
         omega
        ·rfl
        ·simp only[wq,List.map_cons,List.map_nil,List.mem_cons,List.not_mem_nil,or_false] at hd
         subst hd
         rfl
        ·intro k y hky
         have hk5:¬7005<=k:=fun h=>by rw[kK (lm:=Pw) rfl h] at hky;cases hky
         rw[if_neg (by omega)]
         exact cE k y hky
       ·by_cases e:q=j
        ·subst e;unfold cM;omega
        ·exact hb q (by omega)
    ·refine ju ?_
     conv=>whnf
     refine fI ?_
     conv=>whnf
     refine bg (by show(i+1)*24<=140737488355328;omega) ?_
     conv=>whnf
     refine aI ?_
     conv=>whnf
     refine⟨i+1,?_,⟨by omega,fun q hq j hj=>?_⟩,by dsimp only;omega⟩
     ·dsimp only
      rw[Ko]
      refine aH.gen _ (Aa (E:=wq rows) (c:=aR (wr n rows (i+1))) 76 Qr (E9 i) (jd (by decide)) rfl rfl trivial rfl rfl (aa) ⟨_,rfl,fun k hk=>?_⟩ (fun k hk=>?_) (fun k k' hk hk' h=>?_) (fun k hk y hy=>?_)) (fun d hd=>?_) (eW.by_ (lm:=Qr) 400 (fun k y h=>cE k y h) (aa))
      ·unfold E9
       cases Nat.blt k i with
       |true=>rfl
       |false=>
        show[AV.row 55 (1+(rows.getD i ar).coef.length) 1]=[AV.row 55 (n+1) 1]
        rw[hwi,Nat.add_comm]
      ·by_cases e:k<i
       ·rw[nz e,ut (by omega) (by omega),<-ut (n:=n) e (by omega),ag.set_ne _ _ (by omega),ag.set_ne _ _ (by omega),ag.set_ne _ _ (by omega),ag.set_ne _ _ (by omega),ag.set_ne _ _ (by omega)]
        exact dw (a:=[]) rfl (jd (by decide)) e
       ·rw[sx e,ut (by omega) (by omega)]
        obtain rfl:i=k:=by omega
        rfl
      ·by_cases e:k<i<;>by_cases e':k'<i
       ·rw[nz e,nz e'] at h;omega
       ·rw[nz e,sx e'] at h;omega
       ·rw[sx e,nz e'] at h;omega
       ·omega
      ·have hmem:=bd hy
       unfold Qr at hmem
       simp only[List.mem_cons,Prod.mk.injEq,List.not_mem_nil,or_false,LM.old.injEq] at hmem
       by_cases e:k<i
       ·rw[nz e] at hmem;omega
       ·rw[sx e] at hmem;omega
      ·simp only[wq,List.map_cons,List.map_nil,List.mem_cons,List.not_mem_nil,or_false] at hd
       subst hd
       rfl
     ·by_cases e:q=i
      ·subst e
       exact hb j (by omega)
      ·exact ha q (by omega) j hj
  ·obtain rfl:rows.length=i:=by omega
   refine ju ?_
   conv=>whnf
   refine fI ?_
   conv=>whnf
   rw[Kn]
   exact .inl ⟨fun q hq j hj=>ha q hq j hj,rfl,rfl⟩
def mT (n lr nr ln nn:Nat) (li le:Int) (pc:AV) (g:Bool):List AV:=[.int .i64 n, .row lr nr 2, .row ln nn 5, .int .i64 li, .int .i64 le,pc, .bool g]
def oI (n:Nat) (rows:List aV) (nodes:List dW) (li le:Int) (g:Bool):List (Nat×bf):=
 [(6001, .box 134 (mT n 6002 rows.length 6003 nodes.length li le .nilsl g)),(6002, .row 161 ar aw rows),(6003, .row 217 an aK nodes)]
def sy (n:Nat) (rows:List aV) (nodes:List dW) (li le:Int) (pc:AV) (g:Bool):List (Nat×bf):=
 [(6001, .box 134 (mT n 6004 rows.length 6005 nodes.length li le pc g)),(6002, .dead),(6003, .dead),(6004, .row 161 ar aw rows),(6005, .row 217 an aK nodes)]
def Dw (r s:Nat):bc:=[(6001, .old 6001),(6002, .old 6002),(6003, .old 6003),(6004, .old r),(6005, .old s)]
theorem O3 (n:Nat) (rows:List aV) (nodes:List dW) (li le:Int) (g:Bool) (hn:nodes.length<=100000) (hl:0<=le/\le<=100000):
  aj Tryz.prog 58 [.ptr 6001 0] (ag.ofL (oI n rows nodes li le g))
   (fun u M=>(le=0/\u= .int .i64 (-1)/\M=ag.ofL (sy n rows nodes li le .nilsl true))\/(le≠0/\u= .int .i64 nodes.length/\M=ag.ofL (sy n rows (nodes++[iR]) li (le-1) .nilsl g))):=by
 refine aj.renorm 400 (R:=fun u M=>(le=0/\u= .int .i64 (-1)/\bG (Dw 6002 6003) 400 M (sy n rows nodes li le .nilsl true))\/(le≠0/\u= .int .i64 nodes.length/\bG (Dw 6002 25) 400 M (sy n rows (nodes++[iR]) li (le-1) .nilsl g))) ?_ ?_
 case refine_2=>
  rintro u M' (⟨h0,rfl,hM⟩|⟨h0,rfl,hM⟩)
  ·exact⟨_,_, .int .i64 (-1),rfl,hM,rfl, .inl ⟨h0,rfl,rfl⟩⟩
  ·exact⟨_,_, .int .i64 nodes.length,rfl,hM,rfl, .inr ⟨h0,rfl,rfl⟩⟩
 refine aj.intro ab ac (oI n rows nodes li le g) Tryz.func58 rfl (by decide) ?_
 conv=>whnf
 refine ae ?_ ?_<;>(intro h1;conv=>whnf)
 ·exact .inl ⟨h1,rfl,aa⟩
 ·refine aI ?_
  conv=>whnf
  first|refine dI ?_|refine iV (by decide+kernel) ?_|skip
  conv=>whnf
  refine FF an aK [iR] ⟨⟨.inr ⟨rfl,_,_,_,rfl⟩, .inl rfl, .inl rfl, .inl rfl, .inl rfl,trivial⟩,trivial⟩ ?_
  conv=>whnf
  first|refine bU ?_|skip
  conv=>whnf
  refine bq [iR] rfl lI ?_
  conv=>whnf
  refine nK trivial lI ?_
  conv=>whnf
  refine .inr ⟨h1,x8 (by simp only[List.length_append,List.length_cons,List.length_nil];omega),aa⟩
def uu (nodes:List dW) (i:Nat) (d:kR):List dW:=nodes.set i {nodes.getD i an with lines:=(nodes.getD i an).lines++[d]}
theorem Ng (n i:Nat) (rows:List aV) (nodes:List dW) (li le:Int) (g:Bool) (d:kR) (hn:n<=96) (hr:kC n rows) (hl:rows.length<=1000000) (hi:i<nodes.length) (hk:(nodes.getD i an).lines.length<=1000000) (hd:MQ d) (hb:0<=li/\li<=100000):
  aj Tryz.prog 133 [.ptr 6001 0, .int .i64 (i:Int), .agg (t3 d)] (ag.ofL (oI n rows nodes li le g))
   (fun u M=>((xv n rows d/\li≠400)/\u= .bool true/\M=ag.ofL (sy n (rows++[j0 n rows d]) (uu nodes i d) (li+1) le .nilsl g))\/(¬(xv n rows d/\li≠400)/\u= .bool false/\M=ag.ofL (sy n rows nodes li le .nilsl true))):=by
 refine aj.renorm 400 (R:=fun u M=>((xv n rows d/\li≠400)/\u= .bool true/\bG (Dw 70 6003) 400 M (sy n (rows++[j0 n rows d]) (uu nodes i d) (li+1) le .nilsl g))\/(¬(xv n rows d/\li≠400)/\u= .bool false/\bG (Dw 6002 6003) 400 M (sy n rows nodes li le .nilsl true))) ?_ ?_
 case refine_2=>
  rintro u M' (⟨h0,rfl,hM⟩|⟨h0,rfl,hM⟩)
  ·exact⟨_,_, .bool true,rfl,hM,rfl, .inl ⟨h0,rfl,rfl⟩⟩
  ·exact⟨_,_, .bool false,rfl,hM,rfl, .inr ⟨h0,rfl,rfl⟩⟩
 refine aj.intro ab ac (oI n rows nodes li le g) Tryz.func133 rfl (by decide) ?_
 conv=>whnf
 refine au rfl ?_
 conv=>whnf
 first|refine dI ?_|refine iV (by decide+kernel) ?_|refine eI (by decide+kernel) ?_|skip
 conv=>whnf
 refine aj.call [(7001, .old 7),(7002, .old 6002)] (jb n [] rows) 400 rfl (aa) (aa) (De n [] rows d hn hr (by omega) hd) ?_
 rintro u M' ⟨hu,rfl⟩
 rcases hu with ⟨hdv,rfl⟩|⟨hdv,r,rfl⟩
 ·refine⟨[(7, .old 7001),(6002, .old 7002)],[(7, .box 223 [.int .i64 n, .sl an aK [], .row 6002 rows.length 2]),(6002, .row 161 ar aw rows)], .tup [.agg (aw (j0 n rows d)), .bool true],rfl,(aa),(aa),?_⟩
  conv=>whnf
  refine ae ?_ ?_<;>(intro h1;conv=>whnf)
  ·exact .inr ⟨fun h=>h.2 h1,rfl,aa⟩
  ·refine aI ?_
   conv=>whnf
   refine nI ?_
   rw[tN]
   conv=>whnf
   refine bg (by show(nodes.getD i an).lines.length*56<=140737488355328;omega) ?_
   conv=>whnf
   refine bp lA t3 [d] rfl ?_
   conv=>whnf
   refine bq [d] rfl lI ?_
   conv=>whnf
   refine ak {nodes.getD i an with lines:=(nodes.getD i an).lines++[d]} rfl ?_
   conv=>whnf
   first|refine dI ?_|refine iV (by decide+kernel) ?_|refine eI (by decide+kernel) ?_|skip
   conv=>whnf
   refine bp ar aw [j0 n rows d] rfl ?_
   conv=>whnf
   first|refine bU ?_|skip
   conv=>whnf
   refine bq [j0 n rows d] rfl lI ?_
   conv=>whnf
   refine .inl ⟨⟨hdv,h1⟩,rfl,?_⟩
   have e:(uu nodes i d).length=nodes.length:=List.length_set
   unfold sy
   rw[e]
   exact(aa)
 ·refine⟨[(7, .old 7001),(6002, .old 7002)],[(7, .box 223 [.int .i64 n, .sl an aK [], .row 6002 rows.length 2]),(6002, .row 161 ar aw rows)], .tup [.agg (aw r), .bool false],rfl,(aa),(aa),?_⟩
  conv=>whnf
  exact .inr ⟨fun h=>hdv h.1,rfl,aa⟩
def iZ (A:Nat->Bool) (M:ag):ag:=fun x=>match A x with
 |true=>M x
 |false=>match M x with
  |some _=>some .dead
  |none=>none
def ws (A:Nat->Bool) (M:ag):ag:=fun x=>match A x with
 |true=>(match M x with
  |some _=>some .dead
  |none=>none)
 |false=>M x
section
variable {P:Program} {S F:ai} {ρ:aE} {M:ag} {w:World}
theorem oB {A:Nat->Bool} {x:Nat} {B:bf} {b:fh} (h:iZ A M x=some B) (hl:B.live b):A x=true/\M x=some B:=by
 unfold iZ at h
 cases hA:A x with
 |true=>rw[hA] at h;exact⟨rfl,h⟩
 |false=>
  rw[hA] at h
  dsimp only at h
  cases hM:M x with
  |none=>rw[hM] at h;cases h
  |some C=>rw[hM] at h;cases h;exact hl.elim
theorem oD {A:Nat->Bool} {x:Nat} {B:bf} {b:fh} (h:ws A M x=some B) (hl:B.live b):A x=false/\M x=some B:=by
 unfold ws at h
 cases hA:A x with
 |false=>rw[hA] at h;exact⟨rfl,h⟩
 |true=>
  rw[hA] at h
  dsimp only at h
  cases hM:M x with
  |none=>rw[hM] at h;cases h
  |some C=>rw[hM] at h;cases h;exact hl.elim
theorem aD.only (hM:aD S F ρ M w) (A:Nat->Bool):aD S F ρ (iZ A M) w:=by
 refine⟨hM.sw,hM.fw,hM.sf,fun ℓ b hb=>?_,fun ℓ B hB=>?_,fun x y B C b c h1 h2 h3 h4 h5 h6 hne=>?_,hM.gl⟩
 ·have:=hM.dom ℓ b hb
  unfold iZ
  cases A ℓ with
  |true=>exact this
  |false=>
   cases h:M ℓ with
   |none=>exact absurd h this
   |some B=>simp
 ·unfold iZ at hB
  cases hA:A ℓ with
  |true=>rw[hA] at hB;exact hM.blk ℓ B hB
  |false=>
   rw[hA] at hB
   dsimp only at hB
   cases h:M ℓ with
   |none=>rw[h] at hB;cases hB
   |some C=>
    rw[h] at hB
    cases hB
    obtain⟨b,hb,_⟩:=hM.blk ℓ C h
    exact⟨b,hb,trivial⟩
 ·exact hM.inj x y B C b c (oB h1 h5).2 (oB h2 h6).2 h3 h4 h5 h6 hne
theorem aD.leakA (hM:aD S F ρ M w) (A:Nat->Bool):aD (cG S ρ (iZ A M) w) F ρ (ws A M) w:=by
 have hO:=hM.only A
 have hle:=mv (S:=S) (F:=F) hO
 refine⟨yS hO,hM.fw,fun k=>?_,fun ℓ b hb=>?_,fun ℓ B hB=>?_,fun x y B C b c h1 h2 h3 h4 h5 h6 hne=>?_,hM.gl.mono hle⟩
 ·by_cases hr:mu ρ (iZ A M) k
  ·exact .inr (na hO hr).2.1
  ·have e:cG S ρ (iZ A M) w k=S k:=by unfold cG;rw[if_neg hr]
   rw[e]
   exact hM.sf k
 ·have:=hM.dom ℓ b hb
  unfold ws
  cases A ℓ with
  |false=>exact this
  |true=>
   cases h:M ℓ with
   |none=>exact absurd h this
   |some B=>simp
 ·by_cases hl:∃b,B.live b
  ·obtain⟨b0,hl⟩:=hl
   obtain⟨hA,hMB⟩:=oD hB hl
   obtain⟨b,hb,hr⟩:=hM.blk ℓ B hMB
   refine⟨b,hb,hr.keep hle (aE.le_refl _) fun hlb=>⟨rfl,?_⟩⟩
   have hn:¬mu ρ (iZ A M) b.blk:=by
    rintro⟨y,C,c,g1,g2,_,g4,g5⟩
    obtain⟨hA2,hMC⟩:=oB g1 g4
    exact hM.inj y ℓ C B c b hMC hMB g2 hb g4 hlb (fun e=>by subst e;rw[hA] at hA2;cases hA2) g5
   unfold cG
   rw[if_neg hn]
  ·unfold ws at hB
   cases hA:A ℓ with
   |false=>
    rw[hA] at hB
    obtain⟨b,hb,hr⟩:=hM.blk ℓ B hB
    exact⟨b,hb,hr.keep hle (aE.le_refl _) fun h=>absurd ⟨_,h⟩ hl⟩
   |true=>
    rw[hA] at hB
    dsimp only at hB
    cases h:M ℓ with
    |none=>rw[h] at hB;cases hB
    |some C=>
     rw[h] at hB
     cases hB
     obtain⟨b,hb,_⟩:=hM.blk ℓ C h
     exact⟨b,hb,trivial⟩
 ·exact hM.inj x y B C b c (oD h1 h5).2 (oD h2 h6).2 h3 h4 h5 h6 hne
theorem aj.leakA {f:FuncId} {args args':List AV} {R:AV->ag->Prop} (A:Nat->Bool) (h:aj P f args' (ws A M) R)
  (hconv:∀S F ρ w vs,aD S F ρ M w->bk S ρ vs args->bk (cG S ρ (iZ A M) w) ρ vs args'):aj P f args M R:=by
 rw[ce] at h⊢
 refine⟨h.1,fun S F ρ vs w hM hv=>?_⟩
 refine(h.2 _ F ρ vs w (hM.leakA A) (hconv S F ρ w vs hM hv)).mono ?_
 rintro e w' ⟨v,u,M',S',ρ',h1,h2,h3,h4⟩
 exact⟨v,u,M',S',ρ',h1,h2,ai.le_trans (mv (S:=S) (F:=F) (hM.only A)) h3,h4⟩
theorem ah.weaken {f:FuncId} {args args':List AV} {R:AV->Prop} (h:ah P f args' R) (hw:∀S vs,ir S vs args->ir S vs args'):ah P f args R:=by
 rw[dM] at*
 exact⟨h.1,fun S F vs w h1 h2 h3 h4 hv=>h.2 S F vs w h1 h2 h3 h4 (hw S vs hv)⟩
theorem H8 {α:Type} (d:α) (enc:α->List AV) (S:ai) (ad:Addr):RP S (.slice (some ad) 0 0) (.sl d enc []):=
 .sl d enc [] (some ad) 0 0 (fun _ _=>undef) (by simp) (by simp) (by simp) (by simp) (by simp) (by simp)
end
theorem mR.only {M:ag} {n m:Nat} {t:cz} {bad:Int} {lab:Nat->Nat} (h:mR M n m t bad lab) {A:Nat->Bool} (h1:A 7001=true) (h2:A 7002=true) (h3:A 7003=true) (h4:A 7004=true) (h5:∀k,k<m->A (lab k)=true):mR (iZ A M) n m t bad lab:=by
 have e:∀{x},A x=true->iZ A M x=M x:=fun{x} hx=>by unfold iZ;rw[hx]
 refine⟨(e h1).trans h.box,(e h2).trans h.bas,(e h3).trans h.fre,?_,fun k hk=>(e (h5 k hk)).trans (h.row k hk),h.inj,h.far⟩
 obtain⟨g,g1,g2⟩:=h.hdr
 exact⟨g,(e h4).trans g1,g2⟩
theorem kM {M:ag} {n m:Nat} {t:cz} {bad:Int} {lab:Nat->Nat} {A:Nat->Bool} (hT:mR (iZ A M) n m t bad lab) (hm:t.cel.length=m):∀S F ρ w vs,aD S F ρ M w->bk S ρ vs [.ptr 7001 0]->bk (cG S ρ (iZ A M) w) ρ vs [.pd (gM n t bad)]:=
 fun S F ρ w vs hM hv=>(nw hT hm S F ρ w vs (hM.only A) hv).rv ρ
theorem H9 (m:Nat) (t:cz) (bad:Int) (ht:oz 0 m t) (hm:m<=100000) (hbs:∀i,i<m->0<=t.bas.getD i 0):ah Tryz.prog 136 [.pd (gM 0 t bad)] (fun u=>∃ad:Addr,u= .val (.slice (some ad) 0 0)):=by
 have hb:=ht.bl
 refine ah.introZ 3 ab ac Tryz.func136 rfl (by decide) ?_
 conv=>whnf
 refine bg ⟨rfl,rfl⟩ ?_
 intro ad
 conv=>whnf
 refine aJ.loopF ab ac (fun k:Nat=>k<=m) (fun k=>[(16, .int .i64 (k:Int))]) (fun k=>[(9998, .row 3 0 al [])]) (fun k=>m-k) 0 (Nat.zero_le _) ?_;conv=>whnf
 refine⟨sI,?_⟩
 rintro k hk
 conv=>whnf
 refine ae ?_ ?_<;>(intro h1;conv=>whnf)
 ·have hlt:k<m:=by omega
  have hb0:=hbs k hlt
  refine nI ?_
  rw[tN]
  conv=>whnf
  refine fI ?_
  conv=>whnf
  refine aI ?_
  conv=>whnf
  exact⟨k+1,sI,by omega,by dsimp only;omega⟩
 ·exact⟨⟨ad,rfl⟩,rfl⟩
theorem K5 (n:Nat) (rows:List aV) (nodes:List dW) (li le:Int) (g:Bool) (x:List Int) (hx:x.length<=1000):
  aj Tryz.prog 135 [.ptr 6001 0, .sl 0 al x] (ag.ofL (oI n rows nodes li le g))
   (fun u M=>u= .tup []/\((lx x/\M=ag.ofL (sy n rows nodes li le (.sl 0 al x) g))\/(¬lx x/\M=ag.ofL (sy n rows nodes li le .nilsl true)))):=by
 refine aj.renorm 400 (R:=fun u M=>u= .tup []/\((lx x/\bG (Dw 6002 6003) 400 M (sy n rows nodes li le (.sl 0 al x) g))\/(¬lx x/\bG (Dw 6002 6003) 400 M (sy n rows nodes li le .nilsl true)))) ?_ ?_
 case refine_2=>
  rintro u M' ⟨rfl,⟨h0,hM⟩|⟨h0,hM⟩⟩
  ·exact⟨_,_, .tup [],rfl,hM,trivial,rfl, .inl ⟨h0,rfl⟩⟩
  ·exact⟨_,_, .tup [],rfl,hM,trivial,rfl, .inr ⟨h0,rfl⟩⟩
 refine aj.intro ab ac (oI n rows nodes li le g) Tryz.func135 rfl (by decide) ?_
 conv=>whnf
 refine dC (zD x (by omega)) (fun _=>?_) (fun _=>?_)<;>(conv=>whnf)
 ·rename_i h
  exact⟨rfl, .inl ⟨h,aa⟩⟩
 ·rename_i h
  exact⟨rfl, .inr ⟨h,aa⟩⟩
theorem K6 (n:Nat) (rows:List aV) (nodes:List dW) (li le:Int) (g:Bool) (ad:Addr):
  aj Tryz.prog 135 [.ptr 6001 0, .val (.slice (some ad) 0 0)] (ag.ofL (oI n rows nodes li le g))
   (fun u M=>u= .tup []/\M=ag.ofL (sy n rows nodes li le (.val (.slice (some ad) 0 0)) g)):=by
 have hO:ah Tryz.prog 86 [.val (.slice (some ad) 0 0)] (fun u=>u= .bool (decide (lx []))):=ah.weaken (zD [] (by simp)) (fun S vs hv=>by
  obtain⟨v,vs',rfl,h1,h2⟩:=hv.cons_inv
  have e2:vs'=[]:=List.eq_nil_of_length_eq_zero h2.1
  subst e2
  cases h1
  exact ir.cons (H8 0 al S ad) (ir.nil _))
 refine aj.renorm 400 (R:=fun u M=>u= .tup []/\bG (Dw 6002 6003) 400 M (sy n rows nodes li le (.val (.slice (some ad) 0 0)) g)) ?_ ?_
 case refine_2=>
  rintro u M' ⟨rfl,hM⟩
  exact⟨_,_, .tup [],rfl,hM,trivial,rfl,rfl⟩
 refine aj.intro ab ac (oI n rows nodes li le g) Tryz.func135 rfl (by decide) ?_
 conv=>whnf
 refine dC (hO) (fun _=>?_) (fun _=>?_)<;>(conv=>whnf)
 ·exact⟨rfl,aa⟩
 ·rename_i h
  exact absurd (fun j hj=>absurd hj (Nat.not_lt_zero _)) h
theorem H' (r:aV):∀k,ou r k=Kg r k
 |0=>rfl
 |k+1=>by rw[ou,Kg,H' r k]
def Q8 (n:Nat) (b:Br):List (Nat×bf):=
 [(6001, .box 134 (mT n 1000 b.rows.length 1001 b.nodes.length b.lines b.left .nilsl b.gave)),(6002, .dead),(6003, .dead),(1000, .row 161 ar aw b.rows),(1001, .row 217 an aK b.nodes)]
def QN (n:Nat) (r:Br×Bool) (u:AV) (M:ag):Prop:=u= .bool r.2/\M=ag.ofL (sy n r.1.rows r.1.nodes r.1.lines r.1.left .nilsl r.1.gave)
theorem BX {n i:Nat} {b:Br} {d:kR} (h:xv n b.rows d/\(b.lines:Int)≠400):kI n i b d=({b with rows:=b.rows++[j0 n b.rows d],lines:=b.lines+1,nodes:=uu b.nodes i d},true):=by
 unfold kI
 rw[if_pos ⟨h.1,by have:=h.2;omega⟩]
 rfl
theorem BZ {n i:Nat} {b:Br} {d:kR} (h:¬(xv n b.rows d/\(b.lines:Int)≠400)):kI n i b d=(b.give,false):=by
 unfold kI
 rw[if_neg (fun hh=>h ⟨hh.1,by have:=hh.2;omega⟩)]
theorem Ia {n:Nat} {b:Br} {k:Nat} (h:(iq n b k).2=false):∀m,k<=m->iq n b m=iq n b k:=by
 intro m hm
 induction m with
 |zero=>rw[Nat.le_zero.1 hm]
 |succ m ih=>
  by_cases e:k=m+1
  ·rw[e]
  ·have:=ih (by omega)
   rw[iq,this,if_pos h]
theorem Ib (n:Nat) (b:Br) (h:iT n 0 b) (hl:b.rows.length<=10000):
  aj Tryz.prog 128 [.ptr 6001 0, .int .i64 0, .int .i64 0] (ag.ofL (oI n b.rows b.nodes b.lines b.left b.gave)) (QN n (iq n b b.rows.length)):=by
 have hlen:=h.len
 refine aj.renorm 400 (R:=fun u M=>u= .bool (iq n b b.rows.length).2/\((bG (Dw 1000 1001) 400 M (sy n (iq n b b.rows.length).1.rows (iq n b b.rows.length).1.nodes (iq n b b.rows.length).1.lines (iq n b b.rows.length).1.left .nilsl (iq n b b.rows.length).1.gave))\/
  (bG (Dw 1002 1003) 400 M (sy n (iq n b b.rows.length).1.rows (iq n b b.rows.length).1.nodes (iq n b b.rows.length).1.lines (iq n b b.rows.length).1.left .nilsl (iq n b b.rows.length).1.gave)))) ?_ ?_
 case refine_2=>
  rintro u M' ⟨rfl,hM|hM⟩
  ·exact⟨_,_, .bool (iq n b b.rows.length).2,rfl,hM,rfl,rfl,rfl⟩
  ·exact⟨_,_, .bool (iq n b b.rows.length).2,rfl,hM,rfl,rfl,rfl⟩
 refine aj.intro ab ac (oI n b.rows b.nodes b.lines b.left b.gave) Tryz.func128 rfl (by decide) ?_
 conv=>whnf
 refine aJ.loopF ab ac (fun x:Nat×Br=>x.1<=b.rows.length/\iq n b x.1=(x.2,true)) (fun x=>[(8, .int .i64 (x.1:Int))]) (fun x=>Q8 n x.2) (fun x=>b.rows.length-x.1) (0,b) ⟨Nat.zero_le _,rfl⟩ ?_;conv=>whnf
 refine⟨aH.by_ [(6001, .old 6001),(6002, .old 6002),(6003, .old 6003),(1000, .old 6002),(1001, .old 6003)] _ 400 rfl (aa) (aa),?_⟩
 rintro⟨k,c⟩ ⟨hk,hc⟩
 dsimp only at hk hc
 obtain⟨ha,hs⟩:=xO (n:=n) (b:=b) (by omega) (by rw[h.new];rfl) h.gv k hk
 rw[hc] at ha hs
 dsimp only at ha hs
 have hrl:=(pD h.rdy (hs.resolve_left (fun h=>by cases h.1)).2.2).2
 obtain⟨m,em⟩:=ha.rows
 have hrdy:=ha.rdy h.rdy
 have hlin:=ha.lin
 have hlmx:=ha.lmx h.lmx
 have hnl:=ha.len
 have h0:(b.nodes.getD 0 an).lines.length=0:=by rw[h.new];rfl
 conv=>whnf
 refine ae ?_ ?_<;>(intro h1;conv=>whnf)
 ·have hlt:k<b.rows.length:=by omega
  have hcl:b.rows.length<=c.rows.length:=by rw[em,List.length_append];omega
  have er:c.rows.getD k ar=b.rows.getD k ar:=by rw[em,fb ar hlt]
  have hr:=hrdy k (by omega)
  refine nI ?_
  rw[tN]
  conv=>whnf
  (refine oP (HE (c.rows.getD k ar) hr.2 (by have:=h.n96;omega)) ?_;conv=>whnf)
  have hD:ou (c.rows.getD k ar) (c.rows.getD k ar).coef.length=ox (b.rows.getD k ar):=by rw[H',er];rfl
  have hDb:=BM hr.2.1 (c.rows.getD k ar).coef.length (Nat.le_refl _)
  rw[hD] at hDb
  have hup:iq n b (k+1)=if 1<ox (b.rows.getD k ar)/\(b.rows.getD k ar).const.tmod (ox (b.rows.getD k ar))≠0 then kI n 0 c ⟨[(k:Int)],[1],ox (b.rows.getD k ar)⟩ else(c,true):=by
   rw[iq,hc,if_neg (by simp)]
  rw[hD]
  refine ae ?_ ?_<;>(intro h2;conv=>whnf)
  ·refine nI ?_
   rw[tN]
   conv=>whnf
   refine nI ?_
   conv=>whnf
   rw[er]
   refine ae ?_ ?_<;>(intro h3;conv=>whnf)
   ·rw[if_pos ⟨h2,h3⟩] at hup
    refine aj.handB 47 rfl ?_
    refine aj.handB 48 rfl ?_
    refine aj.call [(6001, .old 6001),(6002, .old 1000),(6003, .old 1001)] (oI n c.rows c.nodes c.lines c.left c.gave) 400 rfl (aa) (aa)
     (Ng n 0 c.rows c.nodes c.lines c.left c.gave ⟨[(k:Int)],[1],ox (b.rows.getD k ar)⟩ h.n96 hrdy (by omega) (by omega) (by omega) ⟨by simp,by simp⟩ (by omega)) ?_
    rintro u M' (⟨hd,rfl,rfl⟩|⟨hd,rfl,rfl⟩)
    ·rw[BX hd] at hup
     refine⟨[(6001, .old 6001),(1000, .old 6002),(1001, .old 6003),(1002, .old 6004),(1003, .old 6005)],[(6001, .box 134 (mT n 1002 (c.rows++[j0 n c.rows ⟨[(k:Int)],[1],ox (b.rows.getD k ar)⟩]).length 1003 (uu c.nodes 0 ⟨[(k:Int)],[1],ox (b.rows.getD k ar)⟩).length (c.lines+1) c.left .nilsl c.gave)),(1000, .dead),(1001, .dead),(1002, .row 161 ar aw (c.rows++[j0 n c.rows ⟨[(k:Int)],[1],ox (b.rows.getD k ar)⟩])),(1003, .row 217 an aK (uu c.nodes 0 ⟨[(k:Int)],[1],ox (b.rows.getD k ar)⟩))], .bool true,rfl,(aa),rfl,?_⟩
     conv=>whnf
     repeat' ((first|refine nI ?_|refine aI ?_|refine uI ?_|refine vI ?_|refine dI ?_|refine dR ?_|refine dP ?_|refine au rfl ?_|refine pI _ rfl ?_|refine ak _ rfl ?_|refine tI ?_|refine fI ?_|refine ae (fun _=>?_) (fun _=>?_))<;>conv=>whnf)
     exact⟨(k+1,{c with rows:=c.rows++[j0 n c.rows ⟨[(k:Int)],[1],ox (b.rows.getD k ar)⟩],lines:=c.lines+1,nodes:=uu c.nodes 0 ⟨[(k:Int)],[1],ox (b.rows.getD k ar)⟩}),
      aH.by_ [(6001, .old 6001),(6002, .old 6002),(6003, .old 6003),(1000, .old 1002),(1001, .old 1003)] _ 400 rfl (aa) (aa),⟨by dsimp only;omega,hup⟩,by dsimp only;omega⟩
    ·rw[BZ hd] at hup
     refine⟨[(6001, .old 6001),(1000, .old 6002),(1001, .old 6003),(1002, .old 6004),(1003, .old 6005)],[(6001, .box 134 (mT n 1002 c.rows.length 1003 c.nodes.length c.lines c.left .nilsl true)),(1000, .dead),(1001, .dead),(1002, .row 161 ar aw c.rows),(1003, .row 217 an aK c.nodes)], .bool false,rfl,(aa),rfl,?_⟩
     conv=>whnf
     have hst:=Ia (n:=n) (b:=b) (k:=k+1) (by rw[hup]) b.rows.length (by omega)
     rw[hst,hup]
     exact⟨rfl, .inr (aa)⟩
   ·rw[if_neg (fun hh=>h3 hh.2)] at hup
    repeat' ((first|refine nI ?_|refine aI ?_|refine uI ?_|refine vI ?_|refine dI ?_|refine dR ?_|refine dP ?_|refine au rfl ?_|refine pI _ rfl ?_|refine ak _ rfl ?_|refine tI ?_|refine fI ?_|refine ae (fun _=>?_) (fun _=>?_))<;>conv=>whnf)
    exact⟨(k+1,c),sI,⟨by dsimp only;omega,hup⟩,by dsimp only;omega⟩
  ·rw[if_neg (fun hh=>h2 hh.1)] at hup
   repeat' ((first|refine nI ?_|refine aI ?_|refine uI ?_|refine vI ?_|refine dI ?_|refine dR ?_|refine dP ?_|refine au rfl ?_|refine pI _ rfl ?_|refine ak _ rfl ?_|refine tI ?_|refine fI ?_|refine ae (fun _=>?_) (fun _=>?_))<;>conv=>whnf)
   exact⟨(k+1,c),sI,⟨by dsimp only;omega,hup⟩,by dsimp only;omega⟩
 ·obtain rfl:k=b.rows.length:=by omega
  rw[hc]
  exact⟨rfl, .inl (aa)⟩
end
section
set_option maxRecDepth 100000
set_option maxHeartbeats 32000000
theorem gf {P:Program} {tt:TT} {draw:Option aL} {all r:List Oper} {o:Oper} {fr fr':List AV} {M:ag} {K:List AV->ag->Prop} (u:AV) (hg:o.guard=none)
  (h:∀K':AV->ag->Prop,K' u M->aZ P tt draw o ((aG o.op).map (cY fr)) M K') (e:cA fr o.dst u=fr') (hk:cF P tt draw all r fr' M K):cF P tt draw all (o::r) fr M K:=by
 subst e
 simp only[cF]
 rw[be]
 rw[hg]
 simp only[gv]
 exact h _ hk
theorem Dx {P:Program} {tt:TT} {draw:Option aL} {all r:List Oper} {fr:List AV} {M:ag} {K:List AV->ag->Prop} {t ty:TypeId} {ps:String} {af:Array Edge} {a b:Operand} {ℓ o:Nat} {x:AV} {cs cells cells':List AV} {bt:TypeId} {i:TI}
  (hd:draw=some .flat\/draw=some .any) (ha:cY fr a= .ptr ℓ o) (hb:cY fr b=x) (hc:bM x=some cs) (ht:tt.find t=some i) (hM:M ℓ=some (.box bt cells)) (h1:Nat.beq cs.length i.size=true) (h2:allOne cs=true) (h3:Nat.ble (o+cs.length) cells.length=true)
  (hs:eR cells o cs=cells') (hk:cF P tt draw all r fr (M.set ℓ (.box bt cells')) K):
  cF P tt draw all ({dst:=none,op:=.store t a b,type:=ty,pos:=ps,after:=af,guard:=none}::r) fr M K:=by
 subst hs
 simp only[cF]
 rw[be]
 rcases hd with rfl|rfl
 ·simp only[gv,aG,List.map_cons,List.map_nil,ha,hb,aZ,d6,d5,hc,ht,hM,h1,h2,h3,cA,di]
  exact hk
 ·simp only[gv,aG,List.map_cons,List.map_nil,ha,hb,aZ,d6,d5,hc,ht,hM,h1,h2,h3,cA,di]
  exact hk
theorem Ab {P:Program} {tt:TT} {all r:List Oper} {fr:List AV} {M:ag} {K:List AV->ag->Prop} {d:Option Tmp} {a:Operand} {xs:Array Operand} {ts:Array TypeId} {ty:TypeId} {ps:String} {af:Array Edge} {f:FuncId} {caps us:List AV}
  (ha:cY fr a= .fn f caps) (hs:xs.toList.map (cY fr)=us) (h:aj P f (us++caps) M fun u M'=>cF P tt none all r (cA fr d u) M' K):
  cF P tt none all ({dst:=d,op:=.call {callee:=.value a,args:=xs,argTypes:=ts},type:=ty,pos:=ps,after:=af,guard:=none}::r) fr M K:=by
 subst hs
 simp only[cF]
 rw[be]
 simp only[gv,aG,List.map_cons,ha,aZ,m4]
 exact h
theorem ez {P:Program} {tt:TT} {draw:Option aL} {all:List Oper} {fr:List AV} {M:ag} {K:List AV->ag->Prop} (h:K fr M):cF P tt draw all [] fr M K:=h
theorem rC {P:Program} {tt:TT} {D:List Nat} {a b:Code} {fr:List AV} {M:ag} {Q:dY} (h:bX P tt D a fr M fun e fr' M'=>match e with
  |.normal=>bX P tt D b fr' M' Q
  |.exit i=>Q (.exit i) fr' M'
  |.ret=>Q .ret fr' M'):bX P tt D (.seq a b) fr M Q:=h
theorem rD {P:Program} {tt:TT} {D:List Nat} {id:Nat} {ops:Array Oper} {fr:List AV} {M:ag} {Q:dY} (h:cF P tt none ops.toList ops.toList fr M (Q .normal)):bX P tt D (.region id ops false) fr M Q:=h
section
variable {P:Program} {S F:ai} {ρ:aE} {M:ag} {w:World}
def Wk (M M':ag):Prop:=∀S F ρ w,aD S F ρ M w->∃S',ai.le S S'/\aD S' F ρ M' w
theorem Wk.leakBox {ℓ ℓb:Nat} {t tb:TypeId} {α:Type} {d:α} {enc:α->List AV} {l:List α} {cells:List AV} (hl:M ℓ=some (.row t d enc l)) (hb:M ℓb=some (.box tb cells)):
  Wk M ((M.set ℓ (.gone d enc l)).set ℓb (.box tb (cells.map (jQ ℓ (.sl d enc l))))):=by
 intro S F ρ w hM
 obtain⟨S1,b,hle,_,hM1,_⟩:=hM.leak hl
 have hne:ℓb≠ℓ:=fun e=>by subst e;rw[hl] at hb;cases hb
 have hb1:M.set ℓ (.gone d enc l) ℓb=some (.box tb cells):=by rw[ag.set_ne _ _ hne];exact hb
 obtain⟨c,hc,vs,h1,h2,h3,h4⟩:=hM1.blk _ _ hb1
 refine⟨S1,hle,hM1.upd hb1 hc (fun _ _=>rfl) (fun h=>h) ⟨vs,h1,⟨by simpa using h2.1,fun i u hu=>?_⟩,h3,h4⟩⟩
 rw[List.getElem?_map] at hu
 obtain⟨u0,h0,rfl⟩:=Option.map_eq_some_iff.1 hu
 obtain⟨v,hv,hr⟩:=h2.2 i u0 h0
 exact⟨v,hv,jq hM1 (ag.set_eq _ _ _) hr⟩
theorem aj.wk {f:FuncId} {args:List AV} {M':ag} {R:AV->ag->Prop} (hw:Wk M M') (h:aj P f args M' R):aj P f args M R:=by
 rw[ce] at h⊢
 refine⟨h.1,fun S F ρ vs w hM hv=>?_⟩
 obtain⟨S1,hle,hM1⟩:=hw S F ρ w hM
 refine(h.2 S1 F ρ vs w hM1 (hv.mono hle (aE.le_refl _))).mono ?_
 rintro e w' ⟨v,u,M',S',ρ',a,b,c,r⟩
 exact⟨v,u,M',S',ρ',a,b,ai.le_trans hle c,r⟩
theorem aj.after {f:FuncId} {args:List AV} {R R':AV->ag->Prop} (h:aj P f args M R) (hk:∀u M',R u M'->∃M'',Wk M' M''/\R' u M''):aj P f args M R':=by
 rw[ce] at h⊢
 refine⟨h.1,fun S F ρ vs w hM hv=>(h.2 S F ρ vs w hM hv).mono ?_⟩
 rintro e w' ⟨v,u,M',S',ρ',rfl,hR,hle,hρ,hM',hr,hw⟩
 obtain⟨M'',hw2,hR'⟩:=hk u M' hR
 obtain⟨S2,hle2,hM2⟩:=hw2 S' F ρ' w' hM'
 exact⟨v,u,M'',S2,ρ',rfl,hR',ai.le_trans hle hle2,hρ,hM2,hr.mono hle2 (aE.le_refl _),hw⟩
theorem Wk.refl (M:ag):Wk M M:=fun S F ρ w hM=>⟨S,ai.le_refl _,hM⟩
end
def rJ (n:Nat) (rows:List aV) (ln nn:Nat) (li le:Int) (pc:AV) (g:Bool):List AV:=[.int .i64 n, .sl ar aw rows, .row ln nn 5, .int .i64 li, .int .i64 le,pc, .bool g]
def K7 (n:Nat) (rows:List aV) (nodes:List dW) (li le:Int) (g:Bool):List (Nat×bf):=
 [(6001, .box 134 (rJ n rows 6003 nodes.length li le .nilsl g)),(6002, .dead),(6003, .row 217 an aK nodes)]
def E' (n:Nat) (rows:List aV) (nodes:List dW) (li le:Int) (pc:AV) (g:Bool):List (Nat×bf):=
 [(6001, .box 134 (rJ n rows 6005 nodes.length li le pc g)),(6002, .dead),(6003, .dead),(6005, .row 217 an aK nodes)]
def Kp (s:Nat):bc:=[(6001, .old 6001),(6002, .old 6002),(6003, .old 6003),(6005, .old s)]
theorem K8 (n:Nat) (rows:List aV) (nodes:List dW) (li le:Int) (g:Bool) (hn:nodes.length<=100000) (hl:0<=le/\le<=100000):
  aj Tryz.prog 58 [.ptr 6001 0] (ag.ofL (K7 n rows nodes li le g))
   (fun u M=>(le=0/\u= .int .i64 (-1)/\M=ag.ofL (E' n rows nodes li le .nilsl true))\/(le≠0/\u= .int .i64 nodes.length/\M=ag.ofL (E' n rows (nodes++[iR]) li (le-1) .nilsl g))):=by
 refine aj.renorm 400 (R:=fun u M=>(le=0/\u= .int .i64 (-1)/\bG (Kp 6003) 400 M (E' n rows nodes li le .nilsl true))\/(le≠0/\u= .int .i64 nodes.length/\bG (Kp 25) 400 M (E' n rows (nodes++[iR]) li (le-1) .nilsl g))) ?_ ?_
 case refine_2=>
  rintro u M' (⟨h0,rfl,hM⟩|⟨h0,rfl,hM⟩)
  ·exact⟨_,_, .int .i64 (-1),rfl,hM,rfl, .inl ⟨h0,rfl,rfl⟩⟩
  ·exact⟨_,_, .int .i64 nodes.length,rfl,hM,rfl, .inr ⟨h0,rfl,rfl⟩⟩
 refine aj.intro ab ac (K7 n rows nodes li le g) Tryz.func58 rfl (by decide) ?_
 conv=>whnf
 refine ae ?_ ?_<;>(intro h1;conv=>whnf)
 ·exact .inl ⟨h1,rfl,aa⟩
 ·refine aI ?_
  conv=>whnf
  first|refine dI ?_|refine iV (by decide+kernel) ?_|skip
  conv=>whnf
  refine FF an aK [iR] ⟨⟨.inr ⟨rfl,_,_,_,rfl⟩, .inl rfl, .inl rfl, .inl rfl, .inl rfl,trivial⟩,trivial⟩ ?_
  conv=>whnf
  first|refine bU ?_|skip
  conv=>whnf
  refine bq [iR] rfl lI ?_
  conv=>whnf
  refine nK trivial lI ?_
  conv=>whnf
  refine .inr ⟨h1,x8 (by simp only[List.length_append,List.length_cons,List.length_nil];omega),aa⟩
def rK:Option (List Int)->AV->Prop
 |none,pc=>pc= .nilsl
 |some x,pc=>(x≠[]/\pc= .sl 0 al x)\/(x=[]/\∃ad:Addr,pc= .val (.slice (some ad) 0 0))
def NI (n:Nat) (c:Br) (u:AV) (M:ag):Prop:=u= .tup []/\∃pc,rK c.point pc/\M=ag.ofL (E' n c.rows c.nodes c.lines c.left pc c.gave)
def Fk (b:Br):Prop:=b.rows.length+b.left<=1600+b.lines/\b.nodes.length+b.left<=1000
def Qs (n k:Nat):Prop:=∀(b:Br) (i:Nat),iT n i b->0<i->b.left<k->Fk b->
 aj Tryz.prog 57 [.ptr 6001 0, .int .i64 (i:Int)] (ag.ofL (oI n b.rows b.nodes b.lines b.left b.gave)) (NI n (lT n k b i))
def gk (n i:Nat) (v a:Int) (b:Br):Br:=(gK i v a b.nodes.length (cy b)).put b.rows (gi n v a)
def jE (n i:Nat) (v a:Int) (b:Br) (l:List aV):Br:=(gU i v a b.nodes.length (cy b)).put l (gj n v (a+1))
def d9 (n k:Nat) (b:Br) (i:Nat) (v a:Int):Br:=
 if 1048576<a then b.give
 else if b.left=0 then b.give
 else
  let c:=(lT n k (gk n i v a b) b.nodes.length).cut b.rows.length
  if c.point.isSome=true\/c.gave=true then c
  else if c.left=0 then c.give
  else(lT n k (jE n i v a c b.rows) c.nodes.length).cut b.rows.length
def nV (x:dW) (v:Int):dW:={x with var:=v}
def nA (x:dW) (v:Int):dW:={x with at_:=v}
def nL (x:dW) (v:Int):dW:={x with left:=v}
def nR (x:dW) (v:Int):dW:={x with right:=v}
theorem K9 {N0 N1 N2 N3:List dW} {i:Nat} {v a:Int} {f:dW->dW} (hi:i<N0.length) (h1:N0.set i (nV (N0.getD i an) v)=N1) (h2:N1.set i (nA (N1.getD i an) a)=N2) (h3:N2.set i (f (N2.getD i an))=N3):
  N3=N0.set i (f (nA (nV (N0.getD i an) v) a))/\N1.length=N0.length/\N2.length=N0.length/\N3.length=N0.length:=by
 subst h3;subst h2;subst h1
 refine⟨?_,by simp,by simp,by simp⟩
 rw[List.set_set,List.set_set,ig hi,ig (by rw[List.length_set];exact hi)]
def Q9 (n:Nat) (c:Br):List (Nat×bf):=[(6001, .box 134 (rJ n c.rows 1001 c.nodes.length c.lines c.left .nilsl false)),(6002, .dead),(6003, .dead),(1001, .row 217 an aK c.nodes)]
theorem ii {p:Option (List Int)} {pc:AV} (h:rK p pc):(p=none/\pc= .nilsl)\/(∃x,p=some x/\x≠[]/\pc= .sl 0 al x)\/(∃ad:Addr,p=some []/\pc= .val (.slice (some ad) 0 0)):=by
 cases p with
 |none=>exact .inl ⟨rfl,h⟩
 |some x=>
  rcases h with ⟨h1,h2⟩|⟨rfl,ad,h2⟩
  ·exact .inr (.inl ⟨x,rfl,h1,h2⟩)
  ·exact .inr (.inr ⟨ad,rfl,h2⟩)
theorem Ic {n i:Nat} {v a:Int} {b0 b:Br} (h:iT n i b0) (ha:fP n i b0 b) (hg:b.gave=false) (hv:0<=v/\v<n) (har:0<=a/\a<=1048576):iT n b.nodes.length (gk n i v a b):=by
 have hb:b.nodes.length=i+1:=ha.len.trans h.len
 refine⟨?_,?_,ha.pt.trans h.pt,hg,ip (ha.rdy h.rdy) (j6 (.inr rfl) (by unfold ia;omega)),ha.lmx h.lmx,h.n96⟩
 ·unfold gk gK cy Br.put
  simp only[List.length_set,List.length_append,List.length_singleton]
 ·unfold gk gK cy Br.put
  dsimp only
  rw[fc (by omega),nq]
theorem O4 {n i:Nat} {v a:Int} {b:Br} (hW:Fk b) (hl:b.left≠0):Fk (gk n i v a b):=by
 obtain⟨h1,h2⟩:=hW
 refine⟨?_,?_⟩
 ·show(b.rows++[gi n v a]).length+(b.left-1)<=1600+b.lines
  rw[List.length_append,List.length_singleton];omega
 ·show((b.nodes++[iR]).set i _).length+(b.left-1)<=1000
  rw[List.length_set,List.length_append,List.length_singleton];omega
theorem Nh {n i:Nat} {v a:Int} {b0 b c:Br} (h:iT n i b0) (ha:fP n i b0 b) (har:0<=a/\a<=1048576) (hH:uT n i v a b0 b c) (hp:c.point=none) (hg:c.gave=false):iT n c.nodes.length (jE n i v a c b.rows):=by
 refine⟨?_,?_,hp,hg,ip (ha.rdy h.rdy) (j6 (.inl rfl) (by unfold ia;omega)),hH.lmx,h.n96⟩
 ·unfold jE gU cy Br.put
  simp only[List.length_set,List.length_append,List.length_singleton]
 ·have:=hH.len
  unfold jE gU cy Br.put
  dsimp only
  rw[fc (by omega),nq]
theorem Ac {n i:Nat} {v a:Int} {b0 b c:Br} (h:iT n i b0) (ha:fP n i b0 b) (hH:uT n i v a b0 b c):b.lines<=c.lines/\c.left+1<=b.left/\c.nodes.length+c.left=b.nodes.length+b.left:=by
 have k1:=hH.lin
 have k2:=nt h ha
 have k3:=qF c.nodes (show i+1<=c.nodes.length by have:=hH.len;omega)
 rw[kJ,hH.nod] at k3
 dsimp only at k3
 have k4:=hH.cnt
 have k5:=ha.lft
 have k6:=ha.len
 have k7:=hH.len
 have k8:=h.len
 omega
theorem O5 {n i:Nat} {v a:Int} {b0 b c:Br} (h:iT n i b0) (ha:fP n i b0 b) (hH:uT n i v a b0 b c) (hW:Fk b) (hl:c.left≠0):Fk (jE n i v a c b.rows):=by
 obtain⟨h1,h2⟩:=hW
 obtain⟨k1,k2,k3⟩:=Ac h ha hH
 refine⟨?_,?_⟩
 ·show(b.rows++[gj n v (a+1)]).length+(c.left-1)<=1600+c.lines
  rw[List.length_append,List.length_singleton];omega
 ·show((c.nodes++[iR]).set i _).length+(c.left-1)<=1000
  rw[List.length_set,List.length_append,List.length_singleton];omega
theorem Dy {n i:Nat} {b d:Br} {l:List aV} {r:aV} (h:iJ n i b d) (hr:b.rows=l++[r]):l.length<=d.rows.length/\d.rows.take l.length=l:=by
 obtain⟨m,em⟩:=h.rows
 rw[em,hr,List.append_assoc]
 exact⟨by rw[List.length_append];omega,List.take_left' rfl⟩
theorem qR (d:Br) (m:Nat):(d.cut m).point=d.point:=rfl
theorem Kq {n k i:Nat} {b:Br} {v a:Int} (hal:¬1048576<a) (hl:b.left≠0) (hs:((lT n k (gk n i v a b) b.nodes.length).cut b.rows.length).point.isSome=true\/((lT n k (gk n i v a b) b.nodes.length).cut b.rows.length).gave=true):
  d9 n k b i v a=(lT n k (gk n i v a b) b.nodes.length).cut b.rows.length:=by
 unfold d9
 rw[if_neg hal,if_neg hl]
 dsimp only
 rw[if_pos hs]
theorem Kr {n k i:Nat} {b c:Br} {v a:Int} (hal:¬1048576<a) (hl:b.left≠0) (hc:c=(lT n k (gk n i v a b) b.nodes.length).cut b.rows.length) (hp:c.point=none) (hg:c.gave=false) (h0:c.left=0):
  d9 n k b i v a=c.give:=by
 subst hc
 unfold d9
 rw[if_neg hal,if_neg hl]
 dsimp only
 rw[if_neg (fun h=>by rcases h with h|h;rw[hp] at h;cases h;rw[hg] at h;cases h),if_pos h0]
theorem Ie {n k i:Nat} {b c:Br} {v a:Int} (hal:¬1048576<a) (hl:b.left≠0) (hc:c=(lT n k (gk n i v a b) b.nodes.length).cut b.rows.length) (hp:c.point=none) (hg:c.gave=false) (h0:c.left≠0):
  d9 n k b i v a=(lT n k (jE n i v a c b.rows) c.nodes.length).cut b.rows.length:=by
 subst hc
 unfold d9
 rw[if_neg hal,if_neg hl]
 dsimp only
 rw[if_neg (fun h=>by rcases h with h|h;rw[hp] at h;cases h;rw[hg] at h;cases h),if_neg h0]
theorem Ig (n k i:Nat) (b0 b:Br) (v a:Int) (h:iT n i b0) (ha:fP n i b0 b) (hg:b.gave=false) (hv:0<=v/\v<n) (h0:0<=a/\a<=1073741824) (hk:b.left<=k) (hW:Fk b) (ih:Qs n k):
  aj Tryz.prog 137 [.ptr 6001 0, .int .i64 (i:Int), .int .i64 v, .int .i64 a] (ag.ofL (K7 n b.rows b.nodes b.lines b.left false)) (NI n (d9 n k b i v a)):=by
 have hb:b.nodes.length=i+1:=ha.len.trans h.len
 have hrdy:=ha.rdy h.rdy
 have hlmx:=ha.lmx h.lmx
 have hn96:=h.n96
 have hpt:b.point=none:=ha.pt.trans h.pt
 have hW1:=hW.1
 have hW2:=hW.2
 refine aj.renorm 400 (R:=fun u M=>u= .tup []/\∃pc,rK (d9 n k b i v a).point pc/\
  (bG (Kp 6003) 400 M (E' n (d9 n k b i v a).rows (d9 n k b i v a).nodes (d9 n k b i v a).lines (d9 n k b i v a).left pc (d9 n k b i v a).gave)\/
   bG (Kp 1001) 400 M (E' n (d9 n k b i v a).rows (d9 n k b i v a).nodes (d9 n k b i v a).lines (d9 n k b i v a).left pc (d9 n k b i v a).gave)\/
   bG (Kp 1006) 400 M (E' n (d9 n k b i v a).rows (d9 n k b i v a).nodes (d9 n k b i v a).lines (d9 n k b i v a).left pc (d9 n k b i v a).gave)\/
   bG (Kp 1007) 400 M (E' n (d9 n k b i v a).rows (d9 n k b i v a).nodes (d9 n k b i v a).lines (d9 n k b i v a).left pc (d9 n k b i v a).gave))) ?_ ?_
 case refine_2=>
  rintro u M' ⟨rfl,pc,hpc,hM|hM|hM|hM⟩
  ·exact⟨_,_, .tup [],rfl,hM,trivial,rfl,pc,hpc,rfl⟩
  ·exact⟨_,_, .tup [],rfl,hM,trivial,rfl,pc,hpc,rfl⟩
  ·exact⟨_,_, .tup [],rfl,hM,trivial,rfl,pc,hpc,rfl⟩
  ·exact⟨_,_, .tup [],rfl,hM,trivial,rfl,pc,hpc,rfl⟩
 refine aj.intro ab ac (K7 n b.rows b.nodes b.lines b.left false) Tryz.func137 rfl (by decide) ?_
 conv=>whnf
 refine ae ?_ ?_<;>(intro h1;conv=>whnf)
 ·have e:d9 n k b i v a=b.give:=by unfold d9;rw[if_pos h1]
  rw[e]
  refine⟨rfl, .nilsl,?_, .inl (aa)⟩
  show rK b.point .nilsl
  rw[hpt]
  rfl
 have hal:¬1048576<a:=h1
 have har:0<=a/\a<=1048576:=by omega
 first|refine dI ?_|refine iV (by decide+kernel) ?_|skip
 conv=>whnf
 (refine oC (Dd n v a (by omega) hv) ?_;conv=>whnf)
 refine aI ?_
 conv=>whnf
 (refine oC (zL n v (a+1) (by omega) hv (by omega)) ?_;conv=>whnf)
 refine bp ar aw [gi n v a,gj n v (a+1)] rfl ?_
 conv=>whnf
 refine eH ?_
 conv=>whnf
 refine aJ.loopF ab ac (fun x:Nat×Br=>x.2.rows=b.rows/\x.2.point=none/\x.2.gave=false/\((x.1=0/\x.2=b)\/(x.1=1/\b.left≠0/\x.2=(lT n k (gk n i v a b) b.nodes.length).cut b.rows.length)\/(x.1=2/\x.2=d9 n k b i v a))) (fun x=>[(40, .int .i64 (x.1:Int))]) (fun x=>Q9 n x.2) (fun x=>2-x.1) (0,b) ⟨rfl,hpt,hg, .inl ⟨rfl,rfl⟩⟩ ?_;conv=>whnf
 refine⟨aH.by_ [(6001, .old 6001),(6002, .old 6002),(6003, .old 6003),(1001, .old 6003)] _ 400 rfl (aa) (aa),?_⟩
 rintro⟨s,c⟩ ⟨hcr,hcp,hcg,hs⟩
 dsimp only at hcr hcp hcg hs
 conv=>whnf
 rcases hs with ⟨rfl,rfl⟩|⟨rfl,hbl,hc⟩|⟨rfl,hc⟩
 ·have hzero:c.left=0->d9 n k c i v a=c.give:=fun h=>by unfold d9;rw[if_neg hal,if_pos h]
  have hIn:iT n c.nodes.length (gk n i v a c):=Ic h ha hg hv har
  have hlt:c.left≠0->(gk n i v a c).left<k:=fun hl=>by show c.left-1<k;omega
  have hW3:c.left≠0->Fk (gk n i v a c):=fun hl=>O4 hW hl
  have hfin:c.left≠0->c.rows.length<=(lT n k (gk n i v a c) c.nodes.length).rows.length/\(lT n k (gk n i v a c) c.nodes.length).rows.take c.rows.length=c.rows/\(((lT n k (gk n i v a c) c.nodes.length).point.isSome=true\/(lT n k (gk n i v a c) c.nodes.length).gave=true)->d9 n k c i v a=(lT n k (gk n i v a c) c.nodes.length).cut c.rows.length):=fun hl=>by
   have:=Dy (qN k hIn) (l:=c.rows) (r:=gi n v a) rfl
   exact⟨this.1,this.2,fun hs=>Kq hal hl hs⟩
  refine cO (by dsimp only;simp only[List.length_cons,List.length_nil];omega) ?_
  conv=>whnf
  refine bg (by dsimp only;simp only[List.length_cons,List.length_nil];omega) ?_
  conv=>whnf
  have hO:=K8 n c.rows c.nodes c.lines c.left false (by omega) (by omega)
  obtain⟨N0,hN0⟩:∃N0,N0=c.nodes++[iR]:=⟨_,rfl⟩
  rw[<-hN0] at hO
  refine aj.call [(6001, .old 6001),(6002, .old 6002),(6003, .old 1001)] (K7 n c.rows c.nodes c.lines c.left false) 400 rfl (aa) (aa) hO ?_
  rintro u M' (⟨hl0,rfl,rfl⟩|⟨hl0,rfl,rfl⟩)
  ·refine⟨[(6001, .old 6001),(6002, .old 6002),(1001, .old 6003),(1006, .old 6005)],[(6001, .box 134 (rJ n c.rows 1006 c.nodes.length c.lines c.left .nilsl true)),(6002, .dead),(1001, .dead),(1006, .row 217 an aK c.nodes)], .int .i64 (-1),rfl,(aa),rfl,?_⟩
   conv=>whnf
   rw[hzero (by omega)]
   refine⟨rfl, .nilsl,?_, .inr (.inr (.inl (aa)))⟩
   show rK c.point .nilsl
   rw[hcp]
   rfl
  have hl1:c.left≠0:=by omega
  refine⟨[(6001, .old 6001),(6002, .old 6002),(1001, .old 6003),(1006, .old 6005)],[(6001, .box 134 (rJ n c.rows 1006 N0.length c.lines (c.left-1) .nilsl false)),(6002, .dead),(1001, .dead),(1006, .row 217 an aK N0)], .int .i64 c.nodes.length,rfl,(aa),rfl,?_⟩
  conv=>whnf
  refine fI ?_
  conv=>whnf
  have hln:N0.length=c.nodes.length+1:=by rw[hN0,List.length_append];rfl
  refine nI ?_
  rw[tN]
  conv=>whnf
  refine ak (nV (N0.getD i an) v) rfl ?_
  generalize hN1:N0.set i (nV (N0.getD i an) v)=N1
  conv=>whnf
  refine ak (nA (N1.getD i an) a) rfl ?_
  generalize hN2:N1.set i (nA (N1.getD i an) a)=N2
  conv=>whnf
  refine cO (by dsimp only;omega) ?_
  conv=>whnf
  refine ak (nL (N2.getD i an) (c.nodes.length:Int)) rfl ?_
  generalize hN3:N2.set i (nL (N2.getD i an) (c.nodes.length:Int))=N3
  obtain⟨hq,hq1,hq2,hq3⟩:=K9 (f:=fun x=>nL x (c.nodes.length:Int)) (by omega) hN1 hN2 hN3
  clear hN1 hN2 hN3
  conv=>whnf
  first|refine dI ?_|refine iV (by decide+kernel) ?_|refine eI (by decide+kernel) ?_|refine Cw [(76,6001),(81,10),(85,6001)] (by decide+kernel) ?_
  conv=>whnf
  refine bg (by rw[hcr];omega) ?_
  conv=>whnf
  refine bp ar aw [gi n v a] rfl ?_
  conv=>whnf
  first|refine bU ?_|skip
  conv=>whnf
  refine bg lI ?_
  conv=>whnf
  refine bq [gi n v a] rfl lI ?_
  refine Kj ?_
  refine gf (.ptr 6001 0) rfl (fun K' h=>h) rfl ?_
  refine gf (.ptr 6001 1) rfl (fun K' h=>h) rfl ?_
  refine Dx (ℓ:=6001) (o:=1) (x:=.row 83 (c.rows.length+1) 2) (.inl rfl) rfl rfl rfl rfl rfl rfl rfl rfl rfl ?_
  refine ez ?_
  dsimp only
  refine rC (rD ?_)
  refine gf (.ptr 6001 0) rfl (fun K' h=>h) rfl ?_
  refine gf (.int .i64 c.nodes.length) rfl (fun K' h=>h) rfl ?_
  refine Ab (f:=57) (caps:=[]) (us:=[.ptr 6001 0, .int .i64 c.nodes.length]) rfl rfl ?_
  have hS:=ih (gk n i v a c) c.nodes.length hIn (by omega) (hlt hl1) (hW3 hl1)
  have e1:(gk n i v a c).rows=c.rows++[gi n v a]:=rfl
  have e2:(gk n i v a c).nodes=N3:=by rw[hq,hN0];rfl
  have e3:((gk n i v a c).left:Int)=(c.left:Int)-1:=by show((c.left-1:Nat):Int)=_;omega
  have e4:((gk n i v a c).lines:Int)=(c.lines:Int):=rfl
  have e5:(gk n i v a c).gave=false:=hcg
  rw[e1,e2,e3,e4,e5] at hS
  refine aj.call [(6001, .old 6001),(6002, .old 83),(6003, .old 1006)] (oI n (c.rows++[gi n v a]) N3 c.lines ((c.left:Int)-1) false) 400 rfl (aa) (aa) hS ?_
  rintro u M' ⟨rfl,pc,hpc,rfl⟩
  obtain⟨d,hd⟩:∃d,d=lT n k (gk n i v a c) c.nodes.length:=⟨_,rfl⟩
  have hfin:=hfin hl1
  rw[<-hd] at hpc hfin⊢
  obtain⟨hdl,hdt,hfin⟩:=hfin
  rcases ii hpc with ⟨hp,rfl⟩|⟨x,hp,hx,rfl⟩|⟨ad,hp,rfl⟩
  ·cases hgv:d.gave
   ·refine⟨[(6001, .old 6001),(83, .old 6002),(1006, .old 6003),(1007, .old 6005)],[(6001, .box 134 (rJ n d.rows 1007 d.nodes.length d.lines d.left .nilsl false)),(83, .dead),(1006, .dead),(1007, .row 217 an aK d.nodes)], .tup [],rfl,(aa),trivial,?_⟩
    refine ez ?_
    dsimp only
    conv=>whnf
    refine nI ?_
    rw[tN]
    conv=>whnf
    refine nK trivial (by first|omega|(dsimp only;omega)) ?_
    conv=>whnf
    refine⟨(1,d.cut c.rows.length),aH.by_ [(6001, .old 6001),(6002, .old 6002),(6003, .old 6003),(1001, .old 1007)] _ 400 rfl (aa) (aa),⟨hdt,hp,hgv,?_⟩,by dsimp only;omega⟩
    exact .inr (.inl ⟨rfl,hl1,by rw[hd]⟩)
   ·refine⟨[(6001, .old 6001),(83, .old 6002),(1006, .old 6003),(1007, .old 6005)],[(6001, .box 134 (rJ n d.rows 1007 d.nodes.length d.lines d.left .nilsl true)),(83, .dead),(1006, .dead),(1007, .row 217 an aK d.nodes)], .tup [],rfl,(aa),trivial,?_⟩
    refine ez ?_
    dsimp only
    conv=>whnf
    refine nI ?_
    rw[tN]
    conv=>whnf
    rw[hfin (.inr hgv)]
    exact⟨rfl, .nilsl,by rw[qR,hp];rfl, .inr (.inr (.inr (by rw[show(d.cut c.rows.length).gave=true from hgv];repeat' (first|exact True.intro|exact rfl|(refine And.intro ?_ ?_)|((conv=>whnf);omega)|((conv=>whnf);simp only[List.length_append,List.length_cons,List.length_nil];done)|((conv=>whnf);simp only[List.length_append,List.length_cons,List.length_nil];omega)))))⟩
  ·refine⟨[(6001, .old 6001),(83, .old 6002),(1006, .old 6003),(1007, .old 6005)],[(6001, .box 134 (rJ n d.rows 1007 d.nodes.length d.lines d.left (.sl 0 al x) d.gave)),(83, .dead),(1006, .dead),(1007, .row 217 an aK d.nodes)], .tup [],rfl,(aa),trivial,?_⟩
   refine ez ?_
   dsimp only
   conv=>whnf
   refine nI ?_
   rw[tN]
   conv=>whnf
   refine bg hx ?_
   conv=>whnf
   rw[hfin (.inl (by rw[hp];rfl))]
   exact⟨rfl, .sl 0 al x,by rw[qR,hp];exact .inl ⟨hx,rfl⟩, .inr (.inr (.inr (aa)))⟩
  ·refine⟨[(6001, .old 6001),(83, .old 6002),(1006, .old 6003),(1007, .old 6005)],[(6001, .box 134 (rJ n d.rows 1007 d.nodes.length d.lines d.left (.val (.slice (some ad) 0 0)) d.gave)),(83, .dead),(1006, .dead),(1007, .row 217 an aK d.nodes)], .tup [],rfl,(aa),trivial,?_⟩
   refine ez ?_
   dsimp only
   conv=>whnf
   refine nI ?_
   rw[tN]
   conv=>whnf
   rw[hfin (.inl (by rw[hp];rfl))]
   exact⟨rfl, .val (.slice (some ad) 0 0),by rw[qR,hp];exact .inr ⟨rfl,ad,rfl⟩, .inr (.inr (.inr (aa)))⟩
 ·have hIn0:iT n b.nodes.length (gk n i v a b):=Ic h ha hg hv har
  have hH:uT n i v a b0 b c:=by
   have hk1:=qN (n:=n) k hIn0
   rw[hb] at hk1
   have:=Dn h ha hv har hbl (c0:=lT n k (gk n i v a b) (i+1)) hk1
   rw[hc,hb]
   exact this
  have hzero:c.left=0->d9 n k b i v a=c.give:=fun h=>Kr hal hbl hc hcp hcg h
  have hIn:iT n c.nodes.length (jE n i v a c b.rows):=Nh h ha har hH hcp hcg
  obtain⟨q1,q2,q3⟩:=Ac h ha hH
  have hclm:=hH.lmx
  have hcln:=hH.len
  have hlt:c.left≠0->(jE n i v a c b.rows).left<k:=fun hl=>by show c.left-1<k;omega
  have hW3:c.left≠0->Fk (jE n i v a c b.rows):=fun hl=>O5 h ha hH hW hl
  have hcl:c.rows.length=b.rows.length:=by rw[hcr]
  have hfin:c.left≠0->b.rows.length<=(lT n k (jE n i v a c b.rows) c.nodes.length).rows.length/\(lT n k (jE n i v a c b.rows) c.nodes.length).rows.take b.rows.length=b.rows/\(((lT n k (jE n i v a c b.rows) c.nodes.length).point.isSome=true\/(lT n k (jE n i v a c b.rows) c.nodes.length).gave=true)->d9 n k b i v a=(lT n k (jE n i v a c b.rows) c.nodes.length).cut b.rows.length):=fun hl=>by
   have:=Dy (qN k hIn) (l:=b.rows) (r:=gj n v (a+1)) rfl
   exact⟨this.1,this.2,fun _=>Ie hal hbl hc hcp hcg hl⟩
  have hfin2:c.left≠0->d9 n k b i v a=(lT n k (jE n i v a c b.rows) c.nodes.length).cut b.rows.length:=fun hl=>by exact Ie hal hbl hc hcp hcg hl
  refine cO (by dsimp only;simp only[List.length_cons,List.length_nil];omega) ?_
  conv=>whnf
  refine bg (by dsimp only;simp only[List.length_cons,List.length_nil];omega) ?_
  conv=>whnf
  have hO:=K8 n c.rows c.nodes c.lines c.left false (by omega) (by omega)
  obtain⟨N0,hN0⟩:∃N0,N0=c.nodes++[iR]:=⟨_,rfl⟩
  rw[<-hN0] at hO
  refine aj.call [(6001, .old 6001),(6002, .old 6002),(6003, .old 1001)] (K7 n c.rows c.nodes c.lines c.left false) 400 rfl (aa) (aa) hO ?_
  rintro u M' (⟨hl0,rfl,rfl⟩|⟨hl0,rfl,rfl⟩)
  ·refine⟨[(6001, .old 6001),(6002, .old 6002),(1001, .old 6003),(1006, .old 6005)],[(6001, .box 134 (rJ n c.rows 1006 c.nodes.length c.lines c.left .nilsl true)),(6002, .dead),(1001, .dead),(1006, .row 217 an aK c.nodes)], .int .i64 (-1),rfl,(aa),rfl,?_⟩
   conv=>whnf
   rw[hzero (by omega)]
   refine⟨rfl, .nilsl,?_, .inr (.inr (.inl (aa)))⟩
   show rK c.point .nilsl
   rw[hcp]
   rfl
  have hl1:c.left≠0:=by omega
  refine⟨[(6001, .old 6001),(6002, .old 6002),(1001, .old 6003),(1006, .old 6005)],[(6001, .box 134 (rJ n c.rows 1006 N0.length c.lines (c.left-1) .nilsl false)),(6002, .dead),(1001, .dead),(1006, .row 217 an aK N0)], .int .i64 c.nodes.length,rfl,(aa),rfl,?_⟩
  conv=>whnf
  refine fI ?_
  conv=>whnf
  have hln:N0.length=c.nodes.length+1:=by rw[hN0,List.length_append];rfl
  refine nI ?_
  rw[tN]
  conv=>whnf
  refine ak (nV (N0.getD i an) v) rfl ?_
  generalize hN1:N0.set i (nV (N0.getD i an) v)=N1
  conv=>whnf
  refine ak (nA (N1.getD i an) a) rfl ?_
  generalize hN2:N1.set i (nA (N1.getD i an) a)=N2
  conv=>whnf
  refine cX (by dsimp only;omega) ?_
  conv=>whnf
  refine ak (nR (N2.getD i an) (c.nodes.length:Int)) rfl ?_
  generalize hN3:N2.set i (nR (N2.getD i an) (c.nodes.length:Int))=N3
  obtain⟨hq,hq1,hq2,hq3⟩:=K9 (f:=fun x=>nR x (c.nodes.length:Int)) (by omega) hN1 hN2 hN3
  clear hN1 hN2 hN3
  conv=>whnf
  first|refine dI ?_|refine iV (by decide+kernel) ?_|refine eI (by decide+kernel) ?_|refine Cw [(76,6001),(81,10),(85,6001)] (by decide+kernel) ?_
  conv=>whnf
  refine bg (by rw[hcr];omega) ?_
  conv=>whnf
  refine bp ar aw [gj n v (a+1)] rfl ?_
  conv=>whnf
  first|refine bU ?_|skip
  conv=>whnf
  refine bg lI ?_
  conv=>whnf
  refine bq [gj n v (a+1)] rfl lI ?_
  refine Kj ?_
  refine gf (.ptr 6001 0) rfl (fun K' h=>h) rfl ?_
  refine gf (.ptr 6001 1) rfl (fun K' h=>h) rfl ?_
  refine Dx (ℓ:=6001) (o:=1) (x:=.row 83 (c.rows.length+1) 2) (.inl rfl) rfl rfl rfl rfl rfl rfl rfl rfl rfl ?_
  refine ez ?_
  dsimp only
  refine rC (rD ?_)
  refine gf (.ptr 6001 0) rfl (fun K' h=>h) rfl ?_
  refine gf (.int .i64 c.nodes.length) rfl (fun K' h=>h) rfl ?_
  refine Ab (f:=57) (caps:=[]) (us:=[.ptr 6001 0, .int .i64 c.nodes.length]) rfl rfl ?_
  have hS:=ih (jE n i v a c b.rows) c.nodes.length hIn (by omega) (hlt hl1) (hW3 hl1)
  have e1:(jE n i v a c b.rows).rows=c.rows++[gj n v (a+1)]:=(by rw[hcr];rfl)
  have e2:(jE n i v a c b.rows).nodes=N3:=by rw[hq,hN0];rfl
  have e3:((jE n i v a c b.rows).left:Int)=(c.left:Int)-1:=by show((c.left-1:Nat):Int)=_;omega
  have e4:((jE n i v a c b.rows).lines:Int)=(c.lines:Int):=rfl
  have e5:(jE n i v a c b.rows).gave=false:=hcg
  rw[e1,e2,e3,e4,e5] at hS
  refine aj.call [(6001, .old 6001),(6002, .old 83),(6003, .old 1006)] (oI n (c.rows++[gj n v (a+1)]) N3 c.lines ((c.left:Int)-1) false) 400 rfl (aa) (aa) hS ?_
  rintro u M' ⟨rfl,pc,hpc,rfl⟩
  obtain⟨d,hd⟩:∃d,d=lT n k (jE n i v a c b.rows) c.nodes.length:=⟨_,rfl⟩
  have hfin:=hfin hl1
  have hfin2:=hfin2 hl1
  rw[<-hd] at hfin2
  rw[<-hd] at hpc hfin⊢
  obtain⟨hdl,hdt,hfin⟩:=hfin
  rcases ii hpc with ⟨hp,rfl⟩|⟨x,hp,hx,rfl⟩|⟨ad,hp,rfl⟩
  ·cases hgv:d.gave
   ·refine⟨[(6001, .old 6001),(83, .old 6002),(1006, .old 6003),(1007, .old 6005)],[(6001, .box 134 (rJ n d.rows 1007 d.nodes.length d.lines d.left .nilsl false)),(83, .dead),(1006, .dead),(1007, .row 217 an aK d.nodes)], .tup [],rfl,(aa),trivial,?_⟩
    refine ez ?_
    dsimp only
    conv=>whnf
    refine nI ?_
    rw[tN]
    conv=>whnf
    refine nK trivial (by first|omega|(dsimp only;omega)) ?_
    conv=>whnf
    refine⟨(2,d.cut b.rows.length),aH.by_ [(6001, .old 6001),(6002, .old 6002),(6003, .old 6003),(1001, .old 1007)] _ 400 rfl (aa) (aa),⟨hdt,hp,hgv,?_⟩,by dsimp only;omega⟩
    exact .inr (.inr ⟨rfl,hfin2.symm⟩)
   ·refine⟨[(6001, .old 6001),(83, .old 6002),(1006, .old 6003),(1007, .old 6005)],[(6001, .box 134 (rJ n d.rows 1007 d.nodes.length d.lines d.left .nilsl true)),(83, .dead),(1006, .dead),(1007, .row 217 an aK d.nodes)], .tup [],rfl,(aa),trivial,?_⟩
    refine ez ?_
    dsimp only
    conv=>whnf
    refine nI ?_
    rw[tN]
    conv=>whnf
    rw[hfin (.inr hgv)]
    exact⟨rfl, .nilsl,by rw[qR,hp];rfl, .inr (.inr (.inr (by rw[show(d.cut b.rows.length).gave=true from hgv];repeat' (first|exact True.intro|exact rfl|(refine And.intro ?_ ?_)|((conv=>whnf);omega)|((conv=>whnf);simp only[List.length_append,List.length_cons,List.length_nil];done)|((conv=>whnf);simp only[List.length_append,List.length_cons,List.length_nil];omega)))))⟩
  ·refine⟨[(6001, .old 6001),(83, .old 6002),(1006, .old 6003),(1007, .old 6005)],[(6001, .box 134 (rJ n d.rows 1007 d.nodes.length d.lines d.left (.sl 0 al x) d.gave)),(83, .dead),(1006, .dead),(1007, .row 217 an aK d.nodes)], .tup [],rfl,(aa),trivial,?_⟩
   refine ez ?_
   dsimp only
   conv=>whnf
   refine nI ?_
   rw[tN]
   conv=>whnf
   refine bg hx ?_
   conv=>whnf
   rw[hfin (.inl (by rw[hp];rfl))]
   exact⟨rfl, .sl 0 al x,by rw[qR,hp];exact .inl ⟨hx,rfl⟩, .inr (.inr (.inr (aa)))⟩
  ·refine⟨[(6001, .old 6001),(83, .old 6002),(1006, .old 6003),(1007, .old 6005)],[(6001, .box 134 (rJ n d.rows 1007 d.nodes.length d.lines d.left (.val (.slice (some ad) 0 0)) d.gave)),(83, .dead),(1006, .dead),(1007, .row 217 an aK d.nodes)], .tup [],rfl,(aa),trivial,?_⟩
   refine ez ?_
   dsimp only
   conv=>whnf
   refine nI ?_
   rw[tN]
   conv=>whnf
   rw[hfin (.inl (by rw[hp];rfl))]
   exact⟨rfl, .val (.slice (some ad) 0 0),by rw[qR,hp];exact .inr ⟨rfl,ad,rfl⟩, .inr (.inr (.inr (aa)))⟩
 ·refine cX (by dsimp only;simp only[List.length_cons,List.length_nil];omega) ?_
  conv=>whnf
  rw[<-hc]
  refine⟨rfl, .nilsl,by rw[hcp];rfl, .inr (.inl ?_)⟩
  rw[hcg]
  exact(aa)
end
section
set_option maxRecDepth 100000
set_option maxHeartbeats 32000000
def gV (n k:Nat) (c:Br) (i:Nat):Br:=
 if kD c.rows then c
 else if¬zU c.rows then c.give
 else match EV c.rows.length n 5000 (eP n c.rows) with
  |none=>c.give
  |some (t,bad)=>
   if 0<=bad then
    match Aq n t bad.toNat with
    |none=>c.give
    |some d=>(kI n i c d).1
   else if(cC n t c.rows.length).1<0 then(if lx (lX n t c.rows.length) then{c with point:=some (lX n t c.rows.length)} else c.give)
   else d9 n k c i (cC n t c.rows.length).1 (cC n t c.rows.length).2
theorem B3 (n k:Nat) (b:Br) (i:Nat):lT n (k+1) b i=if(if i=0 then iq n b b.rows.length else(b,true)).2=false then(if i=0 then iq n b b.rows.length else(b,true)).1 else gV n k (if i=0 then iq n b b.rows.length else(b,true)).1 i:=by
 rw[lT]
 rfl
theorem Ks {n k:Nat} {b:Br} {i:Nat} (h:i≠0):lT n (k+1) b i=gV n k b i:=by
 rw[B3,if_neg h,if_neg (by simp)]
theorem fa.s {m n:Nat} {rows:List aV} {t:cz} (h:fa m n rows t):oz n m t:=⟨h.bl,h.fl,h.cm,h.cn,h.dp,h.cb⟩
theorem fa.b {m n:Nat} {rows:List aV} {t:cz} (h:fa m n rows t):HX m t:=⟨h.dp,fun i hi=>h.cb i 0 hi (by omega)⟩
theorem fa.bs {m n:Nat} {rows:List aV} {t:cz} (h:fa m n rows t):∀i,i<m->0<=t.bas.getD i 0/\t.bas.getD i 0<(n+m:Nat):=fun i hi=>pN h _ (List.mem_append_left _ (qm (l:=t.bas) 0 (by rw[h.bl];exact hi)))
theorem fa.fs {m n:Nat} {rows:List aV} {t:cz} (h:fa m n rows t):∀i,i<n->0<=t.fre.getD i 0/\t.fre.getD i 0<(n+m:Nat):=fun i hi=>pN h _ (List.mem_append_right _ (qm (l:=t.fre) 0 (by rw[h.fl];exact hi)))
theorem Ad {M:ag} (lm:bc) (L:List (Nat×bf)) (n:Nat) (hs:(fA lm L&&eG L lm)=true) (hm:ql lm n M L) (hh:∀ℓ t g m,(ℓ,bf.hdr t g m)∉L):cH (aq lm) M (ag.ofL L):=by
 have h:=hJ (M:=M) lm L (fun _=>none) (fun _=>none) n hs hm (fun ℓ t g m h=>absurd h (hh ℓ t g m)) ⟨fun x B' hB=>(by cases hB),fun x o hx=>(by cases hx),fun x y o hx=>(by cases hx),fun x o k hx=>(by cases hx)⟩
 have e1:cw lm (fun _=>none)=aq lm:=by
  funext x
  unfold cw
  cases aq lm x<;>rfl
 have e2:bh L (fun _=>none)=ag.ofL L:=by
  funext x
  unfold bh
  cases ag.ofL L x<;>rfl
 rw[e1,e2] at h
 exact h
def Ni (n:Nat) (c:Br):List (Nat×bf):=
 [(6001, .box 134 (mT n 1000 c.rows.length 1001 c.nodes.length c.lines c.left .nilsl false)),(6002, .dead),(6003, .dead),(1000, .row 161 ar aw c.rows),(1001, .row 217 an aK c.nodes)]
def IH (rows:List aV):List (Nat×bf):=[(1000, .row 161 ar aw rows)]
def uv:bc:=[(7000, .old 1000)]
def lZ:bc:=[(1000, .old 7000)]
theorem Ih (n:Nat) (c:Br):pQ (Ni n c)=true:=rfl
theorem La (n:Nat) (c:Br):cH (aq uv) (ag.ofL (Ni n c)) (ag.ofL (wq c.rows)):=
 Ad uv (wq c.rows) 400 rfl (aa) (fun ℓ t g m h=>by simp[wq] at h)
theorem Ii (n:Nat) (rows:List aV) (t:cz):cH (cw (dk++lZ) fun x=>(jj 20000 rows.length [] x).map (fun k=>10000+k)) (aY n t rows.length (-1) 10000 [] (wq rows) (aR t)) (aY n t rows.length (-1) 20000 [] (IH rows) (aR t)):=
 jD (E:=IH rows) lZ (fun k=>10000+k) (jd (by decide)) rfl rfl trivial rfl (aa) ⟨_,rfl,fun k _=>rfl⟩ (fun k hk=>dw (a:=[]) rfl (jd (by decide)) hk) (fun k k' _ _ h=>Nat.add_left_cancel h) (fun k hk y hy=>by
  have:=fQ (lm:=dk++lZ) rfl hy
  omega)
theorem qS {x ℓ:Nat} (h:aq uv x=some (.old ℓ)):x=7000/\ℓ=1000:=by
 have:=bd h
 simp only[uv,List.mem_cons,Prod.mk.injEq,List.not_mem_nil,or_false,LM.old.injEq] at this
 exact this
theorem Lb {x ℓ:Nat} {ψ:Nat->Option Nat} (h:aq uv x=some (.old ℓ)):cw (dk++lZ) ψ ℓ=some (.old x):=by
 obtain⟨rfl,rfl⟩:=qS h
 rfl
theorem Lc {n:Nat} {c:Br} {ℓ:Nat} {y:LM} (h:cw (dk++lZ) (fun x=>(jj 20000 c.rows.length [] x).map (fun k=>10000+k)) ℓ=some y):(∃x,aq uv x=some (.old ℓ))\/ag.ofL (Ni n c) ℓ=none:=by
 unfold cw at h
 cases hf:aq (dk++lZ) ℓ with
 |some z=>
  have hm:=bd hf
  simp only[dk,lZ,List.cons_append,List.nil_append,List.mem_cons,Prod.mk.injEq,List.not_mem_nil,or_false] at hm
  rcases hm with ⟨rfl,_⟩|⟨rfl,_⟩|⟨rfl,_⟩|⟨rfl,_⟩|⟨rfl,_⟩
  ·exact .inr rfl
  ·exact .inr rfl
  ·exact .inr rfl
  ·exact .inr rfl
  ·exact .inl ⟨7000,rfl⟩
 |none=>
  rw[hf] at h
  dsimp only at h
  cases hs:jj 20000 c.rows.length [] ℓ with
  |none=>rw[hs] at h;cases h
  |some k=>
   have:=(cx (a:=[]) trivial hs).2
   exact .inr (ej (Ih n c) (by rw[<-this];show 7005<=20000+k;omega))
theorem Ld {n:Nat} {c:Br} {ℓ:Nat} {y:LM} (h:aq lZ ℓ=some y):(∃x,aq uv x=some (.old ℓ))\/ag.ofL (Ni n c) ℓ=none:=by
 have hm:=bd h
 simp only[lZ,List.mem_cons,Prod.mk.injEq,List.not_mem_nil,or_false] at hm
 obtain⟨rfl,_⟩:=hm
 exact .inl ⟨7000,rfl⟩
theorem Ij {M':ag} {rows:List aV} (h:M' 7000=some (.row 161 ar aw rows)):cH (aq lZ) M' (ag.ofL (IH rows)):=
 Ad lZ (IH rows) 400 rfl ⟨by show nB lZ 400 (M' 7000) _;rw[h];rfl,trivial⟩ (fun ℓ t g m h=>by simp[IH] at h)
def II (n:Nat) (c:Br) (t:cz):ag:=iW (aY n t c.rows.length (-1) 20000 [] (IH c.rows) (aR t)) (ag.ofL (Ni n c))
theorem Kt {n:Nat} {c:Br} {t:cz} {k:Nat} (hk:k<c.rows.length):II n c t (20000+k)=some (.row 3 0 al (aR t k)):=by
 unfold II iW
 rw[show aY n t c.rows.length (-1) 20000 [] (IH c.rows) (aR t) (20000+k)=some (.row 3 0 al (aR t k)) from dw (a:=[]) rfl (jd (by decide)) hk]
theorem Ku {n:Nat} {c:Br} {t:cz} {x:Nat} (h1:7005<=x) (h2:x<20000\/20000+c.rows.length<=x):II n c t x=none:=by
 unfold II iW
 have e:aY n t c.rows.length (-1) 20000 [] (IH c.rows) (aR t) x=none:=by
  unfold aY bh
  rw[ej (kL rfl) h1]
  dsimp only
  unfold iA
  cases hs:jj 20000 c.rows.length [] x with
  |none=>rfl
  |some k=>
   have:=cx (a:=[]) trivial hs
   have e2:20000+k=x:=this.2
   omega
 rw[e]
 exact ej (Ih n c) h1
def NJ (m:Nat):Nat->Option LM:=cw (dk++[]) fun x=>(jj 9000 m [] x).map (fm 20000 [])
theorem Le (n:Nat) (c:Br) (t:cz):cH (NJ c.rows.length) (II n c t) (aY n t c.rows.length (-1) 9000 [] [] (aR t)):=
 jD (M:=II n c t) (E:=[]) [] (fm 20000 []) (jd (by decide)) rfl rfl trivial rfl (aa) ⟨_,rfl,fun k _=>rfl⟩ (fun k hk=>Kt hk) (fun k k' h h' e=>pg (jd (p:=20000) (by decide)).1 h h' e)
  (fun k hk y hy=>by
   have:=fQ (lm:=dk++[]) rfl hy
   have e:fm 20000 [] k=20000+k:=rfl
   omega)
theorem Nj {m:Nat} {lab:Nat->Nat} {ℓ:Nat} {y:LM} (hm:m<=10000) (hy:cw dk (yb m lab) ℓ=some y):(∃x,NJ m x=some (.old ℓ))\/∃k,ℓ=30000+k:=by
 unfold cw at hy
 cases hf:aq dk ℓ with
 |some z=>
  have hmem:=bd hf
  unfold dk at hmem
  simp only[List.mem_cons,Prod.mk.injEq,List.not_mem_nil,or_false] at hmem
  left
  rcases hmem with ⟨rfl,_⟩|⟨rfl,_⟩|⟨rfl,_⟩|⟨rfl,_⟩
  ·exact⟨7001,rfl⟩
  ·exact⟨7002,rfl⟩
  ·exact⟨7003,rfl⟩
  ·exact⟨7004,rfl⟩
 |none=>
  rw[hf] at hy
  dsimp only at hy
  unfold yb at hy
  cases hb:(Nat.ble 20000 ℓ&&Nat.blt ℓ (20000+m)) with
  |true=>
   have:=nZ.1 hb
   refine .inl ⟨9000+(ℓ-20000),?_⟩
   unfold NJ
   rw[BV (show ℓ-20000<m by omega)]
   congr 2
   omega
  |false=>
   rw[hb] at hy
   dsimp only at hy
   cases hs:jj 30000 m [] ℓ with
   |none=>rw[hs] at hy;cases hy
   |some k=>
    obtain⟨h1,h2⟩:=cx (a:=[]) trivial hs
    have h2:30000+k=ℓ:=h2
    exact .inr ⟨k,h2.symm⟩
theorem Lf {n:Nat} {c:Br} {t:cz} {lab:Nat->Nat} {ℓ:Nat} {y:LM} (hm:c.rows.length<=10000) (hy:cw dk (yb c.rows.length lab) ℓ=some y):(∃x,NJ c.rows.length x=some (.old ℓ))\/II n c t ℓ=none:=by
 rcases Nj hm hy with h|⟨k,rfl⟩
 ·exact .inl h
 ·exact .inr (Ku (by omega) (by omega))
def Qt (n:Nat) (c:Br) (t0 t:cz) (bad:Int):ag:=iW (bh (dg n t c.rows.length bad 30000 []) (Du c.rows.length (aR t))) (II n c t0)
theorem xU {n:Nat} {c:Br} {t0 t:cz} {bad:Int} (hm:c.rows.length<=10000):mR (Qt n c t0 t bad) n c.rows.length t bad (fun k=>30000+k):=by
 refine⟨rfl,rfl,rfl,⟨_,rfl,fun k _=>rfl⟩,fun k hk=>?_,fun k k' _ _ h=>Nat.add_left_cancel h,fun k _=>.inr (by omega)⟩
 unfold Qt iW
 rw[H5 hm hk]
def Lg (x:Nat):Bool:=Nat.ble 7001 x
theorem kN {n:Nat} {c:Br} {t0 t:cz} {bad:Int} (hm:c.rows.length<=10000):mR (iZ Lg (Qt n c t0 t bad)) n c.rows.length t bad (fun k=>30000+k):=
 (xU hm).only rfl rfl rfl rfl fun k _=>by unfold Lg;rw[Nat.ble_eq];omega
def Ra (n:Nat) (c:Br) (u:AV) (M:ag):Prop:=u= .tup []/\∃pc,rK c.point pc/\(M=ag.ofL (sy n c.rows c.nodes c.lines c.left pc c.gave)\/M=ag.ofL (E' n c.rows c.nodes c.lines c.left pc c.gave))
theorem aj.toP {P:Program} {f:FuncId} {args:List AV} {n:Nat} {L0:List (Nat×bf)} (hL:L0.map (·.1)=[6001,6002,6003]) {c:Br} (h:aj P f args (ag.ofL L0) (Ra n c)):aj P f args (ag.ofL L0) (NI n c):=by
 refine aj.renorm 400 (R:=fun u M=>u= .tup []/\∃pc,rK c.point pc/\bG (Kp 6005) 400 M (E' n c.rows c.nodes c.lines c.left pc c.gave)) ?_ ?_
 case refine_2=>
  rintro u M' ⟨rfl,pc,hpc,hM⟩
  exact⟨_,_, .tup [],(by rw[hL];rfl),hM,trivial,rfl,pc,hpc,rfl⟩
 refine h.after fun u M' hu=>?_
 obtain⟨rfl,pc,hpc,hM|hM⟩:=hu
 ·subst hM
  refine⟨_,Wk.leakBox (ℓ:=6004) (ℓb:=6001) rfl rfl,rfl,pc,hpc,?_⟩
  rcases ii hpc with ⟨_,rfl⟩|⟨x,_,_,rfl⟩|⟨ad,_,rfl⟩
  ·exact(aa)
  ·exact(aa)
  ·exact(aa)
 ·subst hM
  refine⟨_,Wk.refl _,rfl,pc,hpc,?_⟩
  rcases ii hpc with ⟨_,rfl⟩|⟨x,_,_,rfl⟩|⟨ad,_,rfl⟩
  ·exact(aa)
  ·exact(aa)
  ·exact(aa)
theorem Ik {n:Nat} {t:cz} {r:Nat} {d:kR} (h:Aq n t r=some d) (hn:n<=1000):MQ d:=by
 unfold Aq at h
 split at h
 ·cases h
 ·have e:=(Option.some.inj h).symm
  subst e
  have:=su n t r n
  unfold MQ we
  simp only[List.length_map]
  omega
theorem Il {n m:Nat} {t:cz} (hB:HX m t):∀k,k<=m->-1073741824<=(cC n t k).2/\(cC n t k).2<=1073741824
 |0,_=>by rw[cC];dsimp only;omega
 |k+1,hk=>by
  have ih:=Il (n:=n) hB k (by omega)
  have hc:=hB.cb k (by omega)
  rw[cC]
  split
  ·dsimp only
   have:=Int.natAbs_tdiv_le_natAbs (cl t k 0) t.den
   omega
  ·exact ih
end
end Go.Proofs.YtekmminpfhacpaaGreatDoor
