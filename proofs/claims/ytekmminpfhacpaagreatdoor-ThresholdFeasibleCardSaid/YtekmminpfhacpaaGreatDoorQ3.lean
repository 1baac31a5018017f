import Derived.Test.YtekmminpfhacpaaGreatDoorQ2
set_option linter.unusedVariables false
set_option linter.unusedSimpArgs false
namespace Go.Proofs.YtekmminpfhacpaaGreatDoor
section
set_option maxRecDepth 100000
set_option maxHeartbeats 32000000
theorem x4 {n m:Nat} {t0 t:b7} {b0 bad:Int} {M:ac} (hm:m<=10000) (hT:mZ M n m t bad (fun k=>20000+k)) (h0:∀k,k<m->M (9000+k)=none):
  (∀x,aO n t0 m b0 9000 [] [] (aK t0) x≠none->x∉[7001,7002,7003,7004]->M x=none)/\uk (dz (aO n t0 m b0 9000 [] [] (aK t0)) [7001,7002,7003,7004] M) m/\mZ (dz (aO n t0 m b0 9000 [] [] (aK t0)) [7001,7002,7003,7004] M) n m t bad (fun k=>20000+k):=by
 obtain⟨e1,e2⟩:=sv (n:=n) (t:=t0) (bad:=b0) hm h0 (by rw[hT.box];simp) (by rw[hT.bas];simp) (by rw[hT.fre];simp) (by obtain⟨g,h,_⟩:=hT.hdr;rw[h];simp)
 have hd:∀x,x∈[7001,7002,7003,7004]->dz (aO n t0 m b0 9000 [] [] (aK t0)) [7001,7002,7003,7004] M x=M x:=fun x h=>tp h
 have hnew:∀k,k<m->dz (aO n t0 m b0 9000 [] [] (aK t0)) [7001,7002,7003,7004] M (20000+k)=M (20000+k):=by
  intro k hk
  refine vu ?_
  cases h:aO n t0 m b0 9000 [] [] (aK t0) (20000+k) with
  |none=>rfl
  |some B=>
   rcases qa (by rw[h];simp) with h2|⟨k',hk',e⟩
   ·simp only[List.mem_cons,List.not_mem_nil,or_false] at h2;omega
   ·omega
 refine⟨e1,e2,⟨?_,?_,?_,?_,fun k hk=>?_,hT.inj,hT.far⟩⟩
 ·rw[hd _ (by simp)];exact hT.box
 ·rw[hd _ (by simp)];exact hT.bas
 ·rw[hd _ (by simp)];exact hT.fre
 ·obtain⟨g,g1,g2⟩:=hT.hdr
  exact⟨g,by rw[hd _ (by simp)];exact g1,g2⟩
 ·rw[hnew k hk];exact hT.row k hk
def Sq (n m:Nat) (t:b7) (u:AV) (M':ac):Prop:=
 (∃t' bad',Fh m n 5000 t=some (t',bad')/\u= .bool true/\oF n m t'/\uk M' m/\mZ M' n m t' bad' (fun k=>20000+k))\/(Fh m n 5000 t=none/\u= .bool false/\uk M' m)
theorem DU {n m:Nat} {t:b7} {bad:Int} (p q:Nat) (hp:9000<=p) (hq:9000<=q):cp (bU (c6++[]) fun x=>(i4 q m [] x).map (eW p [])) (aO n t m bad p [] [] (aK t)) (aO n t m bad q [] [] (aK t)):=
 jw (M:=aO n t m bad p [] [] (aK t)) [] (eW p []) (iX hq) rfl rfl trivial rfl (aa) ⟨_,rfl,fun k _=>rfl⟩ (fun k hk=>db rfl (iX hp) hk) (fun k k' h h' e=>ph (iX (p:=p) hp).1 h h' e)
  (fun k hk y hy=>by have:=fx (lm:=c6++[]) rfl hy;have:=(iX (p:=p) (m:=m) hp).big k;omega)
theorem Q4 {m:Nat} {lab:Nat->Nat} {x ℓ:Nat} (hm:m<=10000) (hx:bU (c6++[]) (fun x=>(i4 9000 m [] x).map (eW 20000 [])) x=some (.old ℓ)):(x=ℓ/\(x=7001\/x=7002\/x=7003\/x=7004))\/∃k,k<m/\x=9000+k/\ℓ=20000+k:=by
 unfold bU at hx
 cases hf:al (c6++[]) x with
 |some y=>
  rw[hf] at hx
  cases hx
  have hmem:=aQ hf
  rw[List.append_nil] at hmem
  unfold c6 at hmem
  simp only[List.mem_cons,Prod.mk.injEq,List.not_mem_nil,or_false,LM.old.injEq] at hmem
  left
  omega
 |none=>
  rw[hf] at hx
  dsimp only at hx
  cases hs:i4 9000 m [] x with
  |none=>rw[hs] at hx;cases hx
  |some k=>
   rw[hs] at hx
   cases hx
   obtain⟨h1,h2⟩:=bV (a:=[]) trivial hs
   exact .inr ⟨k,h1,h2.symm,rfl⟩
theorem B7 {m:Nat} {k:Nat} (hk:k<m):bU (c6++[]) (fun x=>(i4 9000 m [] x).map (eW 20000 [])) (9000+k)=some (.old (20000+k)):=by
 refine f9 (by rw[List.append_nil];exact m0 (by omega)) ?_
 have:=lj (p:=9000) (m:=m) (a:=[]) trivial hk
 rw[show eW 9000 [] k=9000+k from rfl] at this
 show Option.map (eW 20000 []) (i4 9000 m [] (9000+k))=_
 rw[this]
 rfl
theorem Jv {m k:Nat} {lab:Nat->Nat} (hk:k<m):x8 m lab (20000+k)=some (9000+k):=by
 unfold x8
 rw[oh.2 (by omega)]
 show some (20000+k-11000)=_
 congr 1
 omega
theorem qY {m x ℓ:Nat} {ψ:Nat->Option Nat} (hm:m<=10000) (hψ:∀k,k<m->ψ (20000+k)=some (9000+k)) (hx:bU (c6++[]) (fun x=>(i4 9000 m [] x).map (eW 20000 [])) x=some (.old ℓ)):bU c6 ψ ℓ=some (.old x):=by
 rcases Q4 (lab:=id) hm hx with ⟨rfl,h⟩|⟨k,hk,rfl,rfl⟩
 ·rcases h with rfl|rfl|rfl|rfl<;>rfl
 ·exact f9 (m0 (by omega)) (hψ k hk)
theorem Jw {n m:Nat} {t:b7} {bad:Int} {k:Nat} (hm:m<=10000):aO n t m bad 20000 [] [] (aK t) (30000+k)=none:=by
 cases h:aO n t m bad 20000 [] [] (aK t) (30000+k) with
 |none=>rfl
 |some B=>
  rcases qa (by rw[h];simp) with h2|⟨k',hk',e⟩
  ·simp only[List.mem_cons,List.not_mem_nil,or_false] at h2;omega
  ·omega
theorem Pr {n m:Nat} {t:b7} {bad:Int} {lab:Nat->Nat} {ℓ:Nat} {y:LM} (hm:m<=10000) (hy:bU c6 (x8 m lab) ℓ=some y):
  (∃x,bU (c6++[]) (fun x=>(i4 9000 m [] x).map (eW 20000 [])) x=some (.old ℓ))\/aO n t m bad 20000 [] [] (aK t) ℓ=none:=by
 unfold bU at hy
 cases hf:al c6 ℓ with
 |some z=>
  have hmem:=aQ hf
  unfold c6 at hmem
  simp only[List.mem_cons,Prod.mk.injEq,List.not_mem_nil,or_false] at hmem
  left
  rcases hmem with ⟨rfl,_⟩|⟨rfl,_⟩|⟨rfl,_⟩|⟨rfl,_⟩
  ·exact⟨7001,rfl⟩
  ·exact⟨7002,rfl⟩
  ·exact⟨7003,rfl⟩
  ·exact⟨7004,rfl⟩
 |none=>
  rw[hf] at hy
  dsimp only at hy
  unfold x8 at hy
  cases hb:(Nat.ble 20000 ℓ&&Nat.blt ℓ (20000+m)) with
  |true=>
   have:=oh.1 hb
   refine .inl ⟨9000+(ℓ-20000),?_⟩
   rw[B7 (show ℓ-20000<m by omega)]
   congr 2
   omega
  |false=>
   rw[hb] at hy
   dsimp only at hy
   cases hs:i4 30000 m [] ℓ with
   |none=>rw[hs] at hy;cases hy
   |some k=>
    obtain⟨h1,h2⟩:=bV (a:=[]) trivial hs
    have h2:30000+k=ℓ:=h2
    subst h2
    exact .inr (Jw hm)
theorem Jx {n m:Nat} {t:b7} {bad:Int} {c:Nat->List Int} {k:Nat} (hm:m<=10000) (hk:k<m):aY (cR n t m bad 30000 []) (DS m c) (30000+k)=some (.row 3 0 ak (c k)):=by
 unfold aY
 rw[dZ (L:=cR n t m bad 30000 []) rfl (by omega)]
 dsimp only
 unfold DS
 have hb:(Nat.ble 20000 (30000+k)&&Nat.blt (30000+k) (20000+m))=false:=by
  cases hb:(Nat.ble 20000 (30000+k)&&Nat.blt (30000+k) (20000+m)) with
  |false=>rfl
  |true=>have:=oh.1 hb;omega
 rw[hb]
 dsimp only
 unfold ij
 have:=lj (p:=30000) (m:=m) (a:=[]) trivial hk
 rw[show eW 30000 [] k=30000+k from rfl] at this
 rw[this]
theorem Ps {n m:Nat} {t t1:b7} {bad b1:Int} {fr fr':List AV} (hm:m<=10000) (hf:fV (c6++[]) 400 fr fr'):
  bd [7001,7002,7003,7004] fr (iH (aY (cR n t m bad 30000 []) (DS m (aK t))) (aO n t1 m b1 20000 [] [] (aK t1))) fr' (aO n t m bad 20000 [] [] (aK t)):=by
 refine xY (lmE:=[]) (c6++[]) (fun k=>30000+k) (iX (by decide)) rfl rfl trivial rfl (aa) ⟨_,rfl,fun k _=>rfl⟩ (fun k hk=>?_) (fun k k' _ _ h=>Nat.add_left_cancel h) (fun k hk y hy=>?_) (fun d hd=>?_) (fun k y h=>ce k y h) hf
 ·unfold iH
  rw[Jx hm hk]
 ·have h5:=fx (lm:=c6++[]) rfl hy
  omega
 ·simp only[List.mem_cons,List.not_mem_nil,or_false] at hd
  rcases hd with rfl|rfl|rfl|rfl<;>rfl
def Fo (m:Nat):ac:=fun x=>match Nat.ble 20000 x&&Nat.blt x (20000+m) with
 |true=>some .dead
 |false=>none
def Fx (m:Nat) (x:Nat):Option Nat:=match Nat.ble 20000 x&&Nat.blt x (20000+m) with
 |true=>some (x-11000)
 |false=>none
def Tl:List (Nat×aU):=[(7001, .dead),(7002, .dead),(7003, .dead),(7004, .dead)]
theorem nG {lm:aV} {n:Nat} {x:Option aU} (h:x≠none):jx lm n x .dead:=by
 cases x with
 |none=>exact absurd rfl h
 |some B=>cases B<;>trivial
theorem sA {m x o:Nat} (h:Fx m x=some o):20000<=x/\x<20000+m/\o=x-11000/\Fo m x=some .dead:=by
 unfold Fx at h
 unfold Fo
 cases hb:(Nat.ble 20000 x&&Nat.blt x (20000+m)) with
 |true=>
  rw[hb] at h
  cases h
  have:=oh.1 hb
  exact⟨this.1,this.2,rfl,rfl⟩
 |false=>rw[hb] at h;cases h
theorem qZ {m:Nat} {M':ac} (hh:uk M' m):cp (bU c6 (Fx m)) M' (aY Tl (Fo m)):=by
 obtain⟨h1,h2,h3,h4,h5⟩:=hh
 refine gK c6 Tl (Fo m) (Fx m) 400 rfl ⟨nG h1,nG h2,nG h3,nG h4,trivial⟩ (fun ℓ t0 g m' hmem=>?_) ⟨fun x B' hB=>?_,fun x o hx=>?_,fun x y o hx hy g1 g2=>?_,fun x o k hx g1 hk=>?_⟩
 ·unfold Tl at hmem
  simp only[List.mem_cons,Prod.mk.injEq,List.not_mem_nil,or_false] at hmem
  rcases hmem with ⟨_,h⟩|⟨_,h⟩|⟨_,h⟩|⟨_,h⟩<;>cases h
 ·unfold Fo at hB
  cases hb:(Nat.ble 20000 x&&Nat.blt x (20000+m)) with
  |false=>rw[hb] at hB;cases hB
  |true=>
   rw[hb] at hB
   cases hB
   have hi:=oh.1 hb
   refine⟨m0 (by omega),dZ (L:=Tl) rfl (by omega),x-11000, .dead,?_,?_, .inl rfl⟩
   ·unfold Fx;rw[hb]
   ·have:=h5 (x-20000) (by omega)
    rw[show 9000+(x-20000)=x-11000 by omega] at this
    exact this
 ·rw[(sA hx).2.2.2];simp
 ·exact absurd (sA hx).2.2.2 g1
 ·exact absurd (sA hx).2.2.2 g1
theorem Jy {m k:Nat} (hk:k<m):Fx m (20000+k)=some (9000+k):=by
 unfold Fx
 rw[oh.2 (by omega)]
 show some (20000+k-11000)=_
 congr 1
 omega
theorem B8 {m:Nat} {M:ac} {ℓ:Nat} {y:LM} (hy:bU c6 (Fx m) ℓ=some y):
  (∃x,bU (c6++[]) (fun x=>(i4 9000 m [] x).map (eW 20000 [])) x=some (.old ℓ))\/M ℓ=none:=by
 unfold bU at hy
 left
 cases hf:al c6 ℓ with
 |some z=>
  have hmem:=aQ hf
  unfold c6 at hmem
  simp only[List.mem_cons,Prod.mk.injEq,List.not_mem_nil,or_false] at hmem
  rcases hmem with ⟨rfl,_⟩|⟨rfl,_⟩|⟨rfl,_⟩|⟨rfl,_⟩
  ·exact⟨7001,rfl⟩
  ·exact⟨7002,rfl⟩
  ·exact⟨7003,rfl⟩
  ·exact⟨7004,rfl⟩
 |none=>
  rw[hf] at hy
  dsimp only at hy
  cases hd:Fx m ℓ with
  |none=>rw[hd] at hy;cases hy
  |some o=>
   have hi:=sA hd
   refine⟨9000+(ℓ-20000),?_⟩
   rw[B7 (show ℓ-20000<m by omega)]
   congr 2
   omega
theorem Pt {n m:Nat} {t t1:b7} {b1:Int} (hm:m<=10000):(∀x,aO n t m (-1) 9000 [] [] (aK t) x≠none->x∉[7001,7002,7003,7004]->iH (aY Tl (Fo m)) (aO n t1 m b1 20000 [] [] (aK t1)) x=none)/\
  uk (dz (aO n t m (-1) 9000 [] [] (aK t)) [7001,7002,7003,7004] (iH (aY Tl (Fo m)) (aO n t1 m b1 20000 [] [] (aK t1)))) m:=by
 refine sv hm (fun k hk=>?_) (fun h=>by cases (show some aU.dead=none from h)) (fun h=>by cases (show some aU.dead=none from h)) (fun h=>by cases (show some aU.dead=none from h)) (fun h=>by cases (show some aU.dead=none from h))
 unfold iH
 have e:aY Tl (Fo m) (9000+k)=none:=by
  unfold aY
  rw[dZ (L:=Tl) rfl (by omega)]
  dsimp only
  cases h:Fo m (9000+k) with
  |none=>rfl
  |some B=>
   unfold Fo at h
   cases hb:(Nat.ble 20000 (9000+k)&&Nat.blt (9000+k) (20000+m)) with
   |false=>rw[hb] at h;cases h
   |true=>have:=oh.1 hb;omega
 rw[e]
 exact nC rfl (by omega) (by omega) rfl
theorem Jz (n m:Nat) (t:b7) (ht:oF n m t) (hn:n<=1000) (hm:m<=10000):
  aj Tryz.prog 131 [.ptr 7001 0] (aO n t m (-1) 9000 [] [] (aK t)) (fun u M'=>Sq n m t u M'):=by
 refine aj.introG (args':=[.ptr 7001 0]) (M1:=aO n t m (-1) 20000 [] [] (aK t)) ae ag (bU (c6++[]) fun x=>(i4 20000 m [] x).map (eW 9000 [])) [7001,7002,7003,7004]
  (DU 9000 20000 (by decide) (by decide))
  (fun d hd=>ce d _ (by
   simp only[List.mem_cons,List.not_mem_nil,or_false] at hd
   rcases hd with rfl|rfl|rfl|rfl<;>rfl))
  (eI.by_ (lm:=c6) 400 ce (aa)) Tryz.func131 rfl (by decide) ?_
 conv=>whnf
 refine a8.loopM ae ag (fun x:Nat×b7=>x.1<=5000/\oF n m x.2/\Fh m n (5000-x.1) x.2=Fh m n 5000 t) (fun x=>[(5, .int .i64 (x.1:Int))]) (fun x=>aO n x.2 m (-1) 20000 [] [] (aK x.2)) (fun x=>5000-x.1) (0,t) ⟨Nat.zero_le _,ht,rfl⟩ ?_
 conv=>whnf
 refine⟨?_,?_⟩
 ·show bd _ _ _ _ _
  exact mY (iX (by decide)) (iX (by decide)) [] (fun q hq=>by cases hq) (aa)
 rintro⟨k,t1⟩ ⟨hk,hs1,hsl⟩
 dsimp only at hk hs1 hsl
 have hfree:∀k,k<m->aO n t1 m (-1) 20000 [] [] (aK t1) (9000+k)=none:=fun k hk=>nC rfl (by omega) (by omega) rfl
 refine jj ?_
 conv=>whnf
 by_cases hlt:k<5000
 ·refine tI ?_
  conv=>whnf
  have hstep:Fh m n (5000-k) t1=if ja t1 m<0 then some (t1,-1)
   else if qf t1 (ja t1 m).toNat n<0 then some (t1,ja t1 m)
   else if Fw m n t1 (ja t1 m).toNat (qf t1 (ja t1 m).toNat n).toNat then Fh m n (4999-k) (so m n t1 (ja t1 m).toNat (qf t1 (ja t1 m).toNat n).toNat)
   else none:=by
   rw[show 5000-k=(4999-k)+1 by omega]
   rfl
  rw[hsl] at hstep
  refine aj.borrowG (Jr n m t1 (-1) hs1 (by omega) (by omega)) (nE (qb 20000 (by decide)) hs1.cm) (fun u hu=>by rw[hu];rfl) ?_
  rintro u rfl
  conv=>whnf
  refine ai ?_ ?_<;>(intro h1;conv=>whnf)
  ·rw[if_pos h1] at hstep
   have e:=x4 (t0:=t) (b0:=-1) hm (qb (n:=n) (m:=m) (t:=t1) (bad:=-1) 20000 (by decide)) hfree
   exact⟨e.1, .inl ⟨t1,-1,hstep,rfl,hs1,e.2.1,e.2.2⟩⟩
  ·rw[if_neg h1] at hstep
   have hrng:=sq t1 m
   refine aj.borrowG (Fl n m t1 (-1) (ja t1 m) hs1 (by omega) (by omega) (by omega)) (Fn (qb 20000 (by decide)) hs1.cm) (fun u hu=>by rw[hu];rfl) ?_
   rintro u rfl
   conv=>whnf
   refine ai ?_ ?_<;>(intro h2;conv=>whnf)
   ·rw[if_pos h2] at hstep
    have hT:mZ ((aO n t1 m (-1) 20000 [] [] (aK t1)).set 7001 (.box 206 [.int .i64 n, .int .i64 t1.den, .row 7002 t1.bas.length 1, .row 7003 t1.fre.length 1, .row 7004 m 1, .int .i64 (ja t1 m)])) n m t1 (ja t1 m) (fun k=>20000+k):=
     ⟨rfl,rfl,rfl,⟨_,rfl,fun k _=>rfl⟩,fun k hk=>by
      rw[ac.set_ne _ _ (by omega)]
      exact db (a:=[]) rfl (iX (by decide)) hk,fun k k' _ _ h=>Nat.add_left_cancel h,fun k _=>.inr (by omega)⟩
    have e:=x4 (t0:=t) (b0:=-1) hm hT (fun k hk=>by
     rw[ac.set_ne _ _ (by omega)]
     exact hfree k hk)
    exact⟨e.1, .inl ⟨t1,ja t1 m,hstep,rfl,hs1,e.2.1,e.2.2⟩⟩
   ·rw[if_neg h2] at hstep
    have hrng2:=sr t1 (ja t1 m).toNat n
    have hpos:=xT t1 (ja t1 m).toNat n (by omega)
    have pv:=Pp n m t1 (-1) (ja t1 m).toNat (qf t1 (ja t1 m).toNat n).toNat hs1 hn hm (by omega) (by omega) (by omega)
    rw[Int.toNat_of_nonneg (show 0<=ja t1 m by omega),Int.toNat_of_nonneg (show 0<=qf t1 (ja t1 m).toNat n by omega)] at pv
    refine aj.callG _ (aO n t1 m (-1) 9000 [] [] (aK t1)) (DU 20000 9000 (by decide) (by decide)) (eI.by_ (lm:=c6) 400 ce (aa)) pv ?_
    rintro u M' (⟨hpv,rfl,hh,lab,hT,hlab⟩|⟨hpv,rfl,hh⟩)
    ·rw[if_pos hpv] at hstep
     have hs2:=hs1.pv (by omega) (by omega) hpos hpv
     generalize so m n t1 (ja t1 m).toNat (qf t1 (ja t1 m).toNat n).toNat=t2 at hstep hT hs2
     refine⟨bU c6 (x8 m lab),aY (cR n t2 m (-1) 30000 []) (DS m (aK t2)), .bool true,qX hT hh hm,fun x ℓ hx=>qY hm (fun k hk=>Jv hk) hx,fun ℓ y hy=>Pr hm hy,fun S ρ v h=>((eE 400).1 (.bool true) (.bool true) v rfl h).mono (ah.le_refl _) (iP (lm:=[]) (fun k y h=>by cases h)),?_⟩
     conv=>whnf
     refine aI ?_
     conv=>whnf
     refine⟨(k+1,t2),Ps hm (aa),⟨by dsimp only;omega,hs2,?_⟩,by dsimp only;omega⟩
     dsimp only
     rw[hstep]
     congr 1
     omega
    ·rw[if_neg hpv] at hstep
     refine⟨bU c6 (Fx m),aY Tl (Fo m), .bool false,qZ hh,fun x ℓ hx=>qY hm (fun k hk=>Jy hk) hx,fun ℓ y hy=>B8 hy,fun S ρ v h=>((eE 400).1 (.bool false) (.bool false) v rfl h).mono (ah.le_refl _) (iP (lm:=[]) (fun k y h=>by cases h)),?_⟩
     conv=>whnf
     have e:=Pt (n:=n) (t:=t) (t1:=t1) (b1:=-1) hm
     exact⟨e.1, .inr ⟨hstep,rfl,e.2⟩⟩
 ·refine fI ?_
  conv=>whnf
  have e0:5000-k=0:=by omega
  rw[e0] at hsl
  have hnone:Fh m n 5000 t=none:=hsl.symm
  have e:=x4 (t0:=t) (b0:=-1) hm (qb (n:=n) (m:=m) (t:=t1) (bad:=-1) 20000 (by decide)) hfree
  exact⟨e.1, .inr ⟨hnone,rfl,e.2.1⟩⟩
def L6 (n:Nat):List Int:=(List.range n).map fun j:Nat=>(j:Int)
theorem Pu (k:Nat):L6 k++[(k:Int)]=L6 (k+1):=by simp[L6,List.range_succ]
theorem L7 (k:Nat):(L6 k).length=k:=by simp[L6]
def wb (rows:List br):List (Nat×aU):=[(7000, .row 161 av aE rows)]
def SM (n:Nat) (rows:List br) (l:List Int):List (Nat×aU):=[(7000, .row 161 av aE rows),(7001, .box 206 [.int .i64 n, .int .i64 1, .nilsl, .row 7003 l.length 1, .nilsl, .int .i64 (-1)]),(7003, .row 3 0 ak l)]
def PQ (n i:Nat):List Int:=(List.range i).map fun k:Nat=>((n:Int)+(k:Int))
def wd (n:Nat) (rows:List br) (i:Nat):b7:=⟨1,PQ n i,L6 n,(rows.take i).map kM⟩
theorem L8 (n:Nat) (rows:List br):wd n rows rows.length=ep n rows:=by
 unfold wd ep PQ L6
 rw[List.take_length]
theorem cp.ghost {f:Nat->Option LM} {M M':ac} (h:cp f M M') (g:Nat) (hg:f g=none):cp (fun x=>if x=g then some (.nil 1) else f x) M (M'.set g (.row 3 (0:Int) ak [])):=by
 refine⟨fun x B' hB=>?_,fun x y hy=>?_,fun a b ℓ ha hb h1 h2=>?_⟩
 ·by_cases e:x=g
  ·subst e
   rw[ac.set_eq] at hB
   cases hB
   unfold rk
   dsimp only
   rw[if_pos rfl]
   exact .inl ⟨_,_,_,_,rfl⟩
  ·rw[ac.set_ne _ _ e] at hB
   have:=h.tell x B' hB
   unfold rk at*
   dsimp only
   rw[if_neg e]
   revert this
   cases f x with
   |none=>exact fun h=>h
   |some y=>
    cases y with
    |nil _=>exact fun h=>h
    |old ℓ=>
     rintro⟨B,h1,h2⟩
     refine⟨B,h1,h2.imp id fun h3=>⟨h3.1,fun S F ρ w b hb=>dk.keep (h3.2 S F ρ w b hb) (ah.le_refl _) (fun y c hc=>by
      unfold eH at hc⊢
      have e2:y≠g:=fun e2=>by subst e2;rw[hg] at hc;cases hc
      dsimp only
      rw[if_neg e2]
      exact hc) (fun _=>⟨rfl,rfl⟩)⟩⟩
 ·by_cases e:x=g
  ·subst e;rw[ac.set_eq];simp
  ·rw[ac.set_ne _ _ e]
   rw[if_neg e] at hy
   exact h.keys x y hy
 ·by_cases e:a=g
  ·subst e;rw[if_pos rfl] at ha;cases ha
  ·by_cases e':b=g
   ·subst e';rw[if_pos rfl] at hb;cases hb
   ·rw[if_neg e] at ha
    rw[if_neg e'] at hb
    rw[ac.set_ne _ _ e] at h1
    rw[ac.set_ne _ _ e'] at h2
    exact h.olds a b ℓ ha hb h1 h2
def SN:aV:=[(7001, .old 7001),(7002, .nil 1),(7003, .old 7003),(7004, .nil 1),(7000, .old 7000)]
theorem Pv {n:Nat} {rows:List br} {fr fr':List AV} (hf:fV SN 400 fr fr'):bd [7000] fr (ac.ofL (SM n rows (L6 n))) fr' (aO n (wd n rows 0) 0 (-1) 10000 [] (wb rows) (aK (wd n rows 0))):=by
 refine bd.fam SN (cR n (wd n rows 0) 0 (-1) 10000 []++wb rows) _ (fun _=>none) 400 rfl (aa) (fun ℓ' t g' m hmem=>?_) ⟨fun x B' hB=>?_,fun x o hx=>(by cases hx),fun x y o hx=>(by cases hx),fun x o k hx=>(by cases hx)⟩ (fun d hd=>?_) hf
 ·simp only[cR,wb,List.cons_append,List.nil_append,List.mem_cons,Prod.mk.injEq,List.not_mem_nil,or_false] at hmem
  rcases hmem with ⟨_,h⟩|⟨_,h⟩|⟨_,h⟩|⟨rfl,h⟩|⟨_,h⟩
  ·cases h
  ·cases h
  ·cases h
  ·injection h with h1 h2 h3
  ·cases h
 ·unfold ij at hB
  cases hs:i4 10000 0 [] x with
  |none=>rw[hs] at hB;cases hB
  |some k=>exact absurd (bV (a:=[]) trivial hs).1 (Nat.not_lt_zero _)
 ·simp only[List.mem_cons,List.not_mem_nil,or_false] at hd
  subst hd
  rfl
theorem rE {M:ac} {n m:Nat} {t:b7} {bad:Int} {p:Nat} {a:List (Nat×Nat)} {E:List (Nat×aU)} {c:Nat->List Int} (lm:aV) (lab:Nat->Nat) (hw:oE p m a) (hE:p9 E=true) (hlow:xW lm=true) (hEh:Pn E) (h4:al lm 7004=some (.old 7004))
  (hs:(fe lm (cR n t m bad p a++E)&&ee (cR n t m bad p a++E) lm)=true) (hm:qv lm 400 M (cR n t m bad p a++E))
  (hg:∃g,M 7004=some (.hdr 24 g m)/\∀k,k<m->g k=[.row (lab k) (n+1) 1]) (hrow:∀k,k<m->M (lab k)=some (.row 3 0 ak (c k)))
  (hlab:∀k k',k<m->k'<m->lab k=lab k'->k=k') (hfar:∀k,k<m->∀y,al lm y≠some (.old (lab k))):
  cp (bU lm fun x=>(i4 p m a x).map lab) M (aO n t m bad p a E c):=by
 refine tu lm (cR n t m bad p a++E) 400 7004 24 3 (n+1) m c (i4 p m a) lab (eW p a) hs hm (fun ℓ t0 g m' hmem=>?_) h4 hg hrow (fun x k hx=>?_) (fun x y k hx hy=>?_) (fun k hk=>lj hw.1 hk) hlab (fun k hk y hy=>absurd hy (hfar k hk y))
 ·rcases List.mem_append.1 hmem with h|h
  ·unfold cR at h
   simp only[List.mem_cons,Prod.mk.injEq,List.not_mem_nil,or_false] at h
   rcases h with ⟨_,h⟩|⟨_,h⟩|⟨_,h⟩|⟨h1,h⟩
   ·cases h
   ·cases h
   ·cases h
   ·injection h with e1 e2 e3
    subst e1;subst e2;subst e3
    exact⟨h1,rfl,rfl,fun k _=>rfl⟩
  ·exact(xX hEh _ _ _ _ h).elim
 ·have:=hw.key hx
  exact⟨(bV hw.1 hx).1,kP hlow (by omega),dZ (kQ hE) (by omega)⟩
 ·rw[<-(bV hw.1 hx).2,(bV hw.1 hy).2]
def Rj (n:Nat) (rows:List br) (i:Nat):b7:={wd n rows i with bas:=(wd n rows i).bas++[(n:Int)+(i:Int)]}
theorem Pw (n i:Nat):PQ n i++[(n:Int)+(i:Int)]=PQ n (i+1):=by simp[PQ,List.range_succ]
def Sr (rows:List br) (r:br):List (Nat×aU):=wb rows++[(55, .row 3 0 ak (kM r))]
def Rk:aV:=[(7001, .old 7001),(7002, .old 47),(7003, .old 7003),(7004, .old 7004),(7000, .old 7000),(55, .old 55)]
def Rl:aV:=[(7001, .old 7001),(7002, .old 7002),(7003, .old 7003),(7004, .old 7004),(7000, .old 7000),(55, .old 55)]
theorem Af {M:ac} (hd':Nat) (lm:aV) (L:List (Nat×aU)) (n:Nat) (hd:Nat) (t0 ti:TypeId) (w m:Nat) (c:Nat->List Int) (σ:Nat->Option Nat) (lab lab':Nat->Nat)
  (hs:(fe lm L&&ee L lm)=true) (hm:qv lm n M L) (hL:∀ℓ t g m',(ℓ,aU.hdr t g m')∈L->ℓ=hd/\t=t0/\m'=m/\∀k,k<m->g k=[.row (lab' k) w 1])
  (h4:al lm hd=some (.old hd')) (hg:∃g,M hd'=some (.hdr t0 g m)/\∀k,k<m->g k=[.row (lab k) w 1]) (hrow:∀k,k<m->M (lab k)=some (.row ti 0 ak (c k)))
  (hσ1:∀x k,σ x=some k->k<m/\al lm x=none/\ac.ofL L x=none) (hσ2:∀x y k,σ x=some k->σ y=some k->x=y) (hσ3:∀k,k<m->σ (lab' k)=some k)
  (hlab:∀k k',k<m->k'<m->lab k=lab k'->k=k') (hfar:∀k,k<m->∀y,al lm y=some (.old (lab k))->ac.ofL L y=some .dead):
  cp (bU lm fun x=>(σ x).map lab) M (aY L (ij ti σ c)):=by
 refine gK lm L _ _ n hs hm (fun ℓ t g m' hmem=>?_) ⟨fun x B' hB=>?_,fun x o hx=>?_,fun x y o hx hy _ _=>?_,fun x o k hx _ hk=>?_⟩
 ·obtain⟨rfl,rfl,rfl,hgg⟩:=hL ℓ t g m' hmem
  unfold Ep
  rw[h4]
  obtain⟨g0,h1,h2⟩:=hg
  refine⟨g0,h1,fun i hi=>?_⟩
  rw[h2 i hi,hgg i hi]
  refine eI.one (kj.row (f9 (hσ1 _ _ (hσ3 i hi)).2.1 ?_))
  rw[hσ3 i hi];rfl
 ·unfold ij at hB
  split at hB
  ·rename_i k hk
   cases hB
   obtain⟨h1,h2,h3⟩:=hσ1 x k hk
   refine⟨h2,h3,lab k,_,by rw[hk];rfl,hrow k h1, .inr ⟨rfl,rfl⟩⟩
  ·cases hB
 ·unfold ij
  cases hσx:σ x with
  |none=>rw[hσx] at hx;cases hx
  |some k=>simp
 ·cases h1:σ x with
  |none=>rw[h1] at hx;cases hx
  |some k=>
   cases h2:σ y with
   |none=>rw[h2] at hy;cases hy
   |some k'=>
    rw[h1] at hx
    rw[h2] at hy
    simp only[Option.map_some,Option.some.injEq] at hx hy
    have:=hlab k k' (hσ1 x k h1).1 (hσ1 y k' h2).1 (hx.trans hy.symm)
    subst this
    exact hσ2 x y k h1 h2
 ·cases h1:σ x with
  |none=>rw[h1] at hx;cases hx
  |some i=>
   rw[h1] at hx
   simp only[Option.map_some,Option.some.injEq] at hx
   subst hx
   exact hfar i (hσ1 x i h1).1 k hk
theorem Ag {M:ac} (hd':Nat) {n m:Nat} {t:b7} {bad:Int} {p:Nat} {a:List (Nat×Nat)} {E:List (Nat×aU)} {c:Nat->List Int} (lm:aV) (lab:Nat->Nat) (hw:oE p m a) (hE:p9 E=true) (hlow:xW lm=true) (hEh:Pn E) (h4:al lm 7004=some (.old hd'))
  (hs:(fe lm (cR n t m bad p a++E)&&ee (cR n t m bad p a++E) lm)=true) (hm:qv lm 400 M (cR n t m bad p a++E))
  (hg:∃g,M hd'=some (.hdr 24 g m)/\∀k,k<m->g k=[.row (lab k) (n+1) 1]) (hrow:∀k,k<m->M (lab k)=some (.row 3 0 ak (c k)))
  (hlab:∀k k',k<m->k'<m->lab k=lab k'->k=k') (hfar:∀k,k<m->∀y,al lm y≠some (.old (lab k))):
  cp (bU lm fun x=>(i4 p m a x).map lab) M (aO n t m bad p a E c):=by
 refine Af hd' lm (cR n t m bad p a++E) 400 7004 24 3 (n+1) m c (i4 p m a) lab (eW p a) hs hm (fun ℓ t0 g m' hmem=>?_) h4 hg hrow (fun x k hx=>?_) (fun x y k hx hy=>?_) (fun k hk=>lj hw.1 hk) hlab (fun k hk y hy=>absurd hy (hfar k hk y))
 ·rcases List.mem_append.1 hmem with h|h
  ·unfold cR at h
   simp only[List.mem_cons,Prod.mk.injEq,List.not_mem_nil,or_false] at h
   rcases h with ⟨_,h⟩|⟨_,h⟩|⟨_,h⟩|⟨h1,h⟩
   ·cases h
   ·cases h
   ·cases h
   ·injection h with e1 e2 e3
    subst e1;subst e2;subst e3
    exact⟨h1,rfl,rfl,fun k _=>rfl⟩
  ·exact(xX hEh _ _ _ _ h).elim
 ·have:=hw.key hx
  exact⟨(bV hw.1 hx).1,kP hlow (by omega),dZ (kQ hE) (by omega)⟩
 ·rw[<-(bV hw.1 hx).2,(bV hw.1 hy).2]
def Ss:aV:=[(7001, .old 7001),(7002, .old 7002),(7003, .old 7003),(7004, .old 76),(7000, .old 7000)]
def Fp (i k:Nat):Nat:=match Nat.blt k i with
 |true=>10000+k
 |false=>55
theorem nH {i k:Nat} (h:k<i):Fp i k=10000+k:=by
 unfold Fp
 have:Nat.blt k i=true:=by simp only[Nat.blt,Nat.ble_eq];omega
 rw[this]
theorem sB {i k:Nat} (h:¬k<i):Fp i k=55:=by
 unfold Fp
 have:Nat.blt k i=false:=by
  cases hb:Nat.blt k i with
  |false=>rfl
  |true=>simp only[Nat.blt,Nat.ble_eq] at hb;omega
 rw[this]
theorem um {n:Nat} {rows:List br} {i k:Nat} (hk:k<i) (hi:i<=rows.length):aK (wd n rows i) k=kM (rows.getD k av):=by
 unfold aK wd
 dsimp only
 rw[am [] (by simp;omega),am av (show k<rows.length by omega)]
 simp
theorem L9 {n:Nat} {rows:List br} {i:Nat} {c:Nat->List Int}:aO n (wd n rows (i+1)) (i+1) (-1) 10000 [] (wb rows) c=aO n (Rj n rows i) (i+1) (-1) 10000 [] (wb rows) c:=by
 have eb:(wd n rows (i+1)).bas=(Rj n rows i).bas:=(Pw n i).symm
 unfold aO cR
 rw[eb]
 rfl
def Tc (n:Nat) (rows:List br) (u:AV) (M':ac):Prop:=
 (z3 rows/\u= .tup [.ptr 7001 0, .bool true]/\M'=aO n (ep n rows) rows.length (-1) 10000 [] (wb rows) (aK (ep n rows)))\/(¬z3 rows/\∃x,u= .tup [x, .bool false]/\M' 7000=some (.row 161 av aE rows))
theorem rF (n:Nat) (rows:List br) (hn:n<=1000) (hl:rows.length<=10000) (hw:∀i,i<rows.length->(rows.getD i av).coef.length=n):
  aj Tryz.prog 130 [.int .i64 n, .row 7000 rows.length 2] (ac.ofL (wb rows)) (fun u M'=>Tc n rows u M'):=by
 refine aj.intro ae ag (wb rows) Tryz.func130 rfl (by decide) ?_
 conv=>whnf
 refine yl ?_
 conv=>whnf
 refine a8.loopF ae ag (fun k:Nat=>k<=n) (fun k=>[(17, .int .i64 (k:Int)),(6, .ptr 7001 0),(15, .ptr 7001 0)]) (fun k=>SM n rows (L6 k)) (fun k=>n-k) 0 (Nat.zero_le _) ?_;conv=>whnf
 refine⟨bd.by_ [(7000, .old 7000),(7001, .old 15),(7003, .nil 1)] _ 400 rfl (aa) (aa),?_⟩
 rintro k hk
 have hfl:=L7 k
 conv=>whnf
 refine ai ?_ ?_<;>(intro h1;conv=>whnf)
 ·have hlt:k<n:=by omega
  first|refine lP (by decide+kernel) ?_|skip
  conv=>whnf
  first|refine dn ?_|skip
  conv=>whnf
  refine di [(k:Int)] rfl lI ?_
  conv=>whnf
  repeat' ((first|refine nI ?_|refine aI ?_|refine uI ?_|refine vI ?_|refine dI ?_|refine dR ?_|refine dP ?_|refine ar rfl ?_|refine pI _ rfl ?_|refine an _ rfl ?_|refine tI ?_|refine fI ?_|refine ai (fun _=>?_) (fun _=>?_))<;>conv=>whnf)
  refine⟨k+1,?_,by omega,by dsimp only;omega⟩
  dsimp only
  rw[<-Pu]
  exact bd.by_ [(7000, .old 7000),(7001, .old 7001),(7003, .old 27)] _ 400 rfl (aa) (aa)
 ·obtain rfl:n=k:=by omega
  refine a8.loopM ae ag (fun i:Nat=>i<=rows.length/\∀q,q<i->∀j,j<(kM (rows.getD q av)).length->ct ((kM (rows.getD q av)).getD j 0)) (fun i=>[(33, .int .i64 (i:Int))]) (fun i=>aO n (wd n rows i) i (-1) 10000 [] (wb rows) (aK (wd n rows i))) (fun i=>rows.length-i) 0 ⟨Nat.zero_le _,fun q hq=>absurd hq (Nat.not_lt_zero _)⟩ ?_
  conv=>whnf
  refine⟨?_,?_⟩
  ·show bd _ _ _ _ _
   exact Pv (aa)
  rintro i ⟨hi,ha⟩
  by_cases hlt:i<rows.length
  ·refine jj ?_
   conv=>whnf
   refine tI ?_
   conv=>whnf
   refine nI ?_
   rw[tN]
   conv=>whnf
   refine aI ?_
   conv=>whnf
   have hbl:(wd n rows i).bas.length=i:=by simp[wd,PQ]
   refine di [(n:Int)+(i:Int)] rfl lI ?_
   conv=>whnf
   have hwi:=hw i hlt
   refine di (rows.getD i av).coef rfl lI ?_
   conv=>whnf
   refine a8.loopM ae ag (fun j:Nat=>j<=(kM (rows.getD i av)).length/\∀q,q<j->ct ((kM (rows.getD i av)).getD q 0)) (fun j=>[(58, .int .i64 (j:Int)),(9, .top),(42, .top),(46, .top),(47, .top),(50, .top),(52, .top),(53, .top)]) (fun _=>(aO n (Rj n rows i) i (-1) 10000 [] (Sr rows (rows.getD i av)) (aK (wd n rows i))).set 9999 (.row 3 (0:Int) ak [])) (fun j=>(kM (rows.getD i av)).length-j) 0 ⟨Nat.zero_le _,fun q hq=>absurd hq (Nat.not_lt_zero _)⟩ ?_
   conv=>whnf
   refine⟨?_,?_⟩
   ·show bd _ _ _ _ _
    refine bd.gen _ (cp.ghost (rE (E:=Sr rows (rows.getD i av)) (c:=aK (wd n rows i)) Rk (fun k=>10000+k) (iX (by decide)) rfl rfl trivial rfl rfl (by
     have e:(Rj n rows i).bas.length=(wd n rows i).bas.length+[(n:Int)+(i:Int)].length:=List.length_append
     unfold cR
     rw[e]
     repeat' (first|exact True.intro|exact rfl|(refine And.intro ?_ ?_)|((conv=>whnf);omega)|((conv=>whnf);simp only[List.length_append,List.length_cons,List.length_nil];done)|((conv=>whnf);simp only[List.length_append,List.length_cons,List.length_nil];omega))) ⟨_,rfl,fun k _=>rfl⟩ (fun k hk=>?_) (fun k k' _ _ h=>Nat.add_left_cancel h) (fun k hk y hy=>?_)) 9999 ?_) (fun d hd=>?_) (eI.by_ (lm:=Rk) 400 ?_ (aa))
    ·rw[ac.set_ne _ _ (by omega),ac.set_ne _ _ (by omega),ac.set_ne _ _ (by omega),ac.set_ne _ _ (by omega),ac.set_ne _ _ (by omega),ac.set_ne _ _ (by omega),ac.set_ne _ _ (by omega),ac.set_ne _ _ (by omega),ac.set_ne _ _ (by omega)]
     exact db (a:=[]) rfl (iX (by decide)) hk
    ·have h5:=fx (lm:=Rk) rfl hy
     omega
    ·rfl
    ·simp only[wb,List.map_cons,List.map_nil,List.mem_cons,List.not_mem_nil,or_false] at hd
     subst hd
     rfl
    ·intro k y hky
     have hk5:¬7005<=k:=fun h=>by rw[kP (lm:=Rk) rfl h] at hky;cases hky
     rw[if_neg (by omega)]
     exact ce k y hky
   ·rintro j ⟨hj,hb⟩
    have hln:(kM (rows.getD i av)).length=1+(rows.getD i av).coef.length:=by simp[kM];omega
    by_cases hjl:j<(kM (rows.getD i av)).length
    ·refine jj ?_
     conv=>whnf
     refine tI ?_
     conv=>whnf
     refine nI ?_
     rw[tN]
     conv=>whnf
     have hnb:¬ct ((kM (rows.getD i av)).getD j 0)->¬z3 rows:=fun h1 h2=>h1 (h2 i hlt j hjl)
     refine ai ?_ ?_<;>(intro g1;conv=>whnf)
     ·exact .inr ⟨hnb (fun h=>by unfold ct at h;omega),_,rfl,rfl⟩
     ·refine ai ?_ ?_<;>(intro g2;conv=>whnf)
      ·exact .inr ⟨hnb (fun h=>by unfold ct at h;omega),_,rfl,rfl⟩
      ·refine aI ?_
       conv=>whnf
       refine⟨j+1,?_,⟨by omega,fun q hq=>?_⟩,by dsimp only;omega⟩
       ·refine bd.gen _ (cp.ghost (rE (E:=Sr rows (rows.getD i av)) (c:=aK (wd n rows i)) Rl (fun k=>10000+k) (iX (by decide)) rfl rfl trivial rfl rfl (aa) ⟨_,rfl,fun k _=>rfl⟩ (fun k hk=>?_) (fun k k' _ _ h=>Nat.add_left_cancel h) (fun k hk y hy=>?_)) 9999 ?_) (fun d hd=>?_) (eI.by_ (lm:=Rl) 400 ?_ (aa))
        ·rw[ac.set_ne _ _ (by omega)]
         exact db (a:=[]) rfl (iX (by decide)) hk
        ·have h5:=fx (lm:=Rl) rfl hy
         omega
        ·rfl
        ·simp only[wb,List.map_cons,List.map_nil,List.mem_cons,List.not_mem_nil,or_false] at hd
         subst hd
         rfl
        ·intro k y hky
         have hk5:¬7005<=k:=fun h=>by rw[kP (lm:=Rl) rfl h] at hky;cases hky
         rw[if_neg (by omega)]
         exact ce k y hky
       ·by_cases e:q=j
        ·subst e;unfold ct;omega
        ·exact hb q (by omega)
    ·refine jj ?_
     conv=>whnf
     refine fI ?_
     conv=>whnf
     refine bp (by show(i+1)*24<=140737488355328;omega) ?_
     conv=>whnf
     refine aI ?_
     conv=>whnf
     refine⟨i+1,?_,⟨by omega,fun q hq j hj=>?_⟩,by dsimp only;omega⟩
     ·dsimp only
      rw[L9]
      refine bd.gen _ (Ag (E:=wb rows) (c:=aK (wd n rows (i+1))) 76 Ss (Fp i) (iX (by decide)) rfl rfl trivial rfl rfl (aa) ⟨_,rfl,fun k hk=>?_⟩ (fun k hk=>?_) (fun k k' hk hk' h=>?_) (fun k hk y hy=>?_)) (fun d hd=>?_) (eI.by_ (lm:=Ss) 400 (fun k y h=>ce k y h) (aa))
      ·unfold Fp
       cases Nat.blt k i with
       |true=>rfl
       |false=>
        show[AV.row 55 (1+(rows.getD i av).coef.length) 1]=[AV.row 55 (n+1) 1]
        rw[hwi,Nat.add_comm]
      ·by_cases e:k<i
       ·rw[nH e,um (by omega) (by omega),<-um (n:=n) e (by omega),ac.set_ne _ _ (by omega),ac.set_ne _ _ (by omega),ac.set_ne _ _ (by omega),ac.set_ne _ _ (by omega),ac.set_ne _ _ (by omega)]
        exact db (a:=[]) rfl (iX (by decide)) e
       ·rw[sB e,um (by omega) (by omega)]
        obtain rfl:i=k:=by omega
        rfl
      ·by_cases e:k<i<;>by_cases e':k'<i
       ·rw[nH e,nH e'] at h;omega
       ·rw[nH e,sB e'] at h;omega
       ·rw[sB e,nH e'] at h;omega
       ·omega
      ·have hmem:=aQ hy
       unfold Ss at hmem
       simp only[List.mem_cons,Prod.mk.injEq,List.not_mem_nil,or_false,LM.old.injEq] at hmem
       by_cases e:k<i
       ·rw[nH e] at hmem;omega
       ·rw[sB e] at hmem;omega
      ·simp only[wb,List.map_cons,List.map_nil,List.mem_cons,List.not_mem_nil,or_false] at hd
       subst hd
       rfl
     ·by_cases e:q=i
      ·subst e
       exact hb j (by omega)
      ·exact ha q (by omega) j hj
  ·obtain rfl:rows.length=i:=by omega
   refine jj ?_
   conv=>whnf
   refine fI ?_
   conv=>whnf
   rw[L8]
   exact .inl ⟨fun q hq j hj=>ha q hq j hj,rfl,rfl⟩
def Ti (n lr nr ln nn:Nat) (li le:Int) (pc:AV) (g:Bool):List AV:=[.int .i64 n, .row lr nr 2, .row ln nn 5, .int .i64 li, .int .i64 le,pc, .bool g]
def oJ (n:Nat) (rows:List br) (nodes:List gC) (li le:Int) (g:Bool):List (Nat×aU):=
 [(6001, .box 134 (Ti n 6002 rows.length 6003 nodes.length li le .nilsl g)),(6002, .row 161 av aE rows),(6003, .row 217 aw bn nodes)]
def sC (n:Nat) (rows:List br) (nodes:List gC) (li le:Int) (pc:AV) (g:Bool):List (Nat×aU):=
 [(6001, .box 134 (Ti n 6004 rows.length 6005 nodes.length li le pc g)),(6002, .dead),(6003, .dead),(6004, .row 161 av aE rows),(6005, .row 217 aw bn nodes)]
def DV (r s:Nat):aV:=[(6001, .old 6001),(6002, .old 6002),(6003, .old 6003),(6004, .old r),(6005, .old s)]
theorem Q5 (n:Nat) (rows:List br) (nodes:List gC) (li le:Int) (g:Bool) (hn:nodes.length<=100000) (hl:0<=le/\le<=100000):
  aj Tryz.prog 58 [.ptr 6001 0] (ac.ofL (oJ n rows nodes li le g))
   (fun u M=>(le=0/\u= .int .i64 (-1)/\M=ac.ofL (sC n rows nodes li le .nilsl true))\/(le≠0/\u= .int .i64 nodes.length/\M=ac.ofL (sC n rows (nodes++[iW]) li (le-1) .nilsl g))):=by
 refine aj.renorm 400 (R:=fun u M=>(le=0/\u= .int .i64 (-1)/\bD (DV 6002 6003) 400 M (sC n rows nodes li le .nilsl true))\/(le≠0/\u= .int .i64 nodes.length/\bD (DV 6002 25) 400 M (sC n rows (nodes++[iW]) li (le-1) .nilsl g))) ?_ ?_
 case refine_2=>
  rintro u M' (⟨h0,rfl,hM⟩|⟨h0,rfl,hM⟩)
  ·exact⟨_,_, .int .i64 (-1),rfl,hM,rfl, .inl ⟨h0,rfl,rfl⟩⟩
  ·exact⟨_,_, .int .i64 nodes.length,rfl,hM,rfl, .inr ⟨h0,rfl,rfl⟩⟩
 refine aj.intro ae ag (oJ n rows nodes li le g) Tryz.func58 rfl (by decide) ?_
 conv=>whnf
 refine ai ?_ ?_<;>(intro h1;conv=>whnf)
 ·exact .inl ⟨h1,rfl,aa⟩
 ·refine aI ?_
  conv=>whnf
  first|refine dI ?_|refine lP (by decide+kernel) ?_|skip
  conv=>whnf
  refine J4 aw bn [iW] ⟨⟨.inr ⟨rfl,_,_,_,rfl⟩, .inl rfl, .inl rfl, .inl rfl, .inl rfl,trivial⟩,trivial⟩ ?_
  conv=>whnf
  first|refine dn ?_|skip
  conv=>whnf
  refine di [iW] rfl lI ?_
  conv=>whnf
  refine yj trivial lI ?_
  conv=>whnf
  refine .inr ⟨h1,x6 (by simp only[List.length_append,List.length_cons,List.length_nil];omega),aa⟩
def un (nodes:List gC) (i:Nat) (d:l8):List gC:=nodes.set i {nodes.getD i aw with lines:=(nodes.getD i aw).lines++[d]}
theorem Px (n i:Nat) (rows:List br) (nodes:List gC) (li le:Int) (g:Bool) (d:l8) (hn:n<=96) (hr:mR n rows) (hl:rows.length<=1000000) (hi:i<nodes.length) (hk:(nodes.getD i aw).lines.length<=1000000) (hd:Ri d) (hb:0<=li/\li<=100000):
  aj Tryz.prog 133 [.ptr 6001 0, .int .i64 (i:Int), .agg (vP d)] (ac.ofL (oJ n rows nodes li le g))
   (fun u M=>((x7 n rows d/\li≠400)/\u= .bool true/\M=ac.ofL (sC n (rows++[od n rows d]) (un nodes i d) (li+1) le .nilsl g))\/(¬(x7 n rows d/\li≠400)/\u= .bool false/\M=ac.ofL (sC n rows nodes li le .nilsl true))):=by
 refine aj.renorm 400 (R:=fun u M=>((x7 n rows d/\li≠400)/\u= .bool true/\bD (DV 70 6003) 400 M (sC n (rows++[od n rows d]) (un nodes i d) (li+1) le .nilsl g))\/(¬(x7 n rows d/\li≠400)/\u= .bool false/\bD (DV 6002 6003) 400 M (sC n rows nodes li le .nilsl true))) ?_ ?_
 case refine_2=>
  rintro u M' (⟨h0,rfl,hM⟩|⟨h0,rfl,hM⟩)
  ·exact⟨_,_, .bool true,rfl,hM,rfl, .inl ⟨h0,rfl,rfl⟩⟩
  ·exact⟨_,_, .bool false,rfl,hM,rfl, .inr ⟨h0,rfl,rfl⟩⟩
 refine aj.intro ae ag (oJ n rows nodes li le g) Tryz.func133 rfl (by decide) ?_
 conv=>whnf
 refine ar rfl ?_
 conv=>whnf
 first|refine dI ?_|refine lP (by decide+kernel) ?_|refine lQ (by decide+kernel) ?_|skip
 conv=>whnf
 refine aj.call [(7001, .old 7),(7002, .old 6002)] (pX n [] rows) 400 rfl (aa) (aa) (LU n [] rows d hn hr (by omega) hd) ?_
 rintro u M' ⟨hu,rfl⟩
 rcases hu with ⟨hdv,rfl⟩|⟨hdv,r,rfl⟩
 ·refine⟨[(7, .old 7001),(6002, .old 7002)],[(7, .box 223 [.int .i64 n, .sl aw bn [], .row 6002 rows.length 2]),(6002, .row 161 av aE rows)], .tup [.agg (aE (od n rows d)), .bool true],rfl,(aa),(aa),?_⟩
  conv=>whnf
  refine ai ?_ ?_<;>(intro h1;conv=>whnf)
  ·exact .inr ⟨fun h=>h.2 h1,rfl,aa⟩
  ·refine aI ?_
   conv=>whnf
   refine nI ?_
   rw[tN]
   conv=>whnf
   refine bp (by show(nodes.getD i aw).lines.length*56<=140737488355328;omega) ?_
   conv=>whnf
   refine c7 E1 vP [d] rfl ?_
   conv=>whnf
   refine di [d] rfl lI ?_
   conv=>whnf
   refine an {nodes.getD i aw with lines:=(nodes.getD i aw).lines++[d]} rfl ?_
   conv=>whnf
   first|refine dI ?_|refine lP (by decide+kernel) ?_|refine lQ (by decide+kernel) ?_|skip
   conv=>whnf
   refine c7 av aE [od n rows d] rfl ?_
   conv=>whnf
   first|refine dn ?_|skip
   conv=>whnf
   refine di [od n rows d] rfl lI ?_
   conv=>whnf
   refine .inl ⟨⟨hdv,h1⟩,rfl,?_⟩
   have e:(un nodes i d).length=nodes.length:=List.length_set
   unfold sC
   rw[e]
   exact(aa)
 ·refine⟨[(7, .old 7001),(6002, .old 7002)],[(7, .box 223 [.int .i64 n, .sl aw bn [], .row 6002 rows.length 2]),(6002, .row 161 av aE rows)], .tup [.agg (aE r), .bool false],rfl,(aa),(aa),?_⟩
  conv=>whnf
  exact .inr ⟨fun h=>hdv h.1,rfl,aa⟩
def iL (A:Nat->Bool) (M:ac):ac:=fun x=>match A x with
 |true=>M x
 |false=>match M x with
  |some _=>some .dead
  |none=>none
def we (A:Nat->Bool) (M:ac):ac:=fun x=>match A x with
 |true=>(match M x with
  |some _=>some .dead
  |none=>none)
 |false=>M x
section
variable {P:Program} {S F:ah} {ρ:aB} {M:ac} {w:World}
theorem oH {A:Nat->Bool} {x:Nat} {B:aU} {b:eT} (h:iL A M x=some B) (hl:B.live b):A x=true/\M x=some B:=by
 unfold iL at h
 cases hA:A x with
 |true=>rw[hA] at h;exact⟨rfl,h⟩
 |false=>
  rw[hA] at h
  dsimp only at h
  cases hM:M x with
  |none=>rw[hM] at h;cases h
  |some C=>rw[hM] at h;cases h;exact hl.elim
theorem oI {A:Nat->Bool} {x:Nat} {B:aU} {b:eT} (h:we A M x=some B) (hl:B.live b):A x=false/\M x=some B:=by
 unfold we at h
 cases hA:A x with
 |false=>rw[hA] at h;exact⟨rfl,h⟩
 |true=>
  rw[hA] at h
  dsimp only at h
  cases hM:M x with
  |none=>rw[hM] at h;cases h
  |some C=>rw[hM] at h;cases h;exact hl.elim
theorem az.only (hM:az S F ρ M w) (A:Nat->Bool):az S F ρ (iL A M) w:=by
 refine⟨hM.sw,hM.fw,hM.sf,fun ℓ b hb=>?_,fun ℓ B hB=>?_,fun x y B C b c h1 h2 h3 h4 h5 h6 hne=>?_,hM.gl⟩
 ·have:=hM.dom ℓ b hb
  unfold iL
  cases A ℓ with
  |true=>exact this
  |false=>
   cases h:M ℓ with
   |none=>exact absurd h this
   |some B=>simp
 ·unfold iL at hB
  cases hA:A ℓ with
  |true=>rw[hA] at hB;exact hM.blk ℓ B hB
  |false=>
   rw[hA] at hB
   dsimp only at hB
   cases h:M ℓ with
   |none=>rw[h] at hB;cases hB
   |some C=>
    rw[h] at hB
    cases hB
    obtain⟨b,hb,_⟩:=hM.blk ℓ C h
    exact⟨b,hb,trivial⟩
 ·exact hM.inj x y B C b c (oH h1 h5).2 (oH h2 h6).2 h3 h4 h5 h6 hne
theorem az.leakA (hM:az S F ρ M w) (A:Nat->Bool):az (ci S ρ (iL A M) w) F ρ (we A M) w:=by
 have hO:=hM.only A
 have hle:=mB (S:=S) (F:=F) hO
 refine⟨yQ hO,hM.fw,fun k=>?_,fun ℓ b hb=>?_,fun ℓ B hB=>?_,fun x y B C b c h1 h2 h3 h4 h5 h6 hne=>?_,hM.gl.mono hle⟩
 ·by_cases hr:mA ρ (iL A M) k
  ·exact .inr (ni hO hr).2.1
  ·have e:ci S ρ (iL A M) w k=S k:=by unfold ci;rw[if_neg hr]
   rw[e]
   exact hM.sf k
 ·have:=hM.dom ℓ b hb
  unfold we
  cases A ℓ with
  |false=>exact this
  |true=>
   cases h:M ℓ with
   |none=>exact absurd h this
   |some B=>simp
 ·by_cases hl:∃b,B.live b
  ·obtain⟨b0,hl⟩:=hl
   obtain⟨hA,hMB⟩:=oI hB hl
   obtain⟨b,hb,hr⟩:=hM.blk ℓ B hMB
   refine⟨b,hb,hr.keep hle (aB.le_refl _) fun hlb=>⟨rfl,?_⟩⟩
   have hn:¬mA ρ (iL A M) b.blk:=by
    rintro⟨y,C,c,g1,g2,_,g4,g5⟩
    obtain⟨hA2,hMC⟩:=oH g1 g4
    exact hM.inj y ℓ C B c b hMC hMB g2 hb g4 hlb (fun e=>by subst e;rw[hA] at hA2;cases hA2) g5
   unfold ci
   rw[if_neg hn]
  ·unfold we at hB
   cases hA:A ℓ with
   |false=>
    rw[hA] at hB
    obtain⟨b,hb,hr⟩:=hM.blk ℓ B hB
    exact⟨b,hb,hr.keep hle (aB.le_refl _) fun h=>absurd ⟨_,h⟩ hl⟩
   |true=>
    rw[hA] at hB
    dsimp only at hB
    cases h:M ℓ with
    |none=>rw[h] at hB;cases hB
    |some C=>
     rw[h] at hB
     cases hB
     obtain⟨b,hb,_⟩:=hM.blk ℓ C h
     exact⟨b,hb,trivial⟩
 ·exact hM.inj x y B C b c (oI h1 h5).2 (oI h2 h6).2 h3 h4 h5 h6 hne
theorem aj.leakA {f:FuncId} {args args':List AV} {R:AV->ac->Prop} (A:Nat->Bool) (h:aj P f args' (we A M) R)
  (hconv:∀S F ρ w vs,az S F ρ M w->ba S ρ vs args->ba (ci S ρ (iL A M) w) ρ vs args'):aj P f args M R:=by
 rw[bB] at h⊢
 refine⟨h.1,fun S F ρ vs w hM hv=>?_⟩
 refine(h.2 _ F ρ vs w (hM.leakA A) (hconv S F ρ w vs hM hv)).mono ?_
 rintro e w' ⟨v,u,M',S',ρ',h1,h2,h3,h4⟩
 exact⟨v,u,M',S',ρ',h1,h2,ah.le_trans (mB (S:=S) (F:=F) (hM.only A)) h3,h4⟩
theorem ab.weaken {f:FuncId} {args args':List AV} {R:AV->Prop} (h:ab P f args' R) (hw:∀S vs,ib S vs args->ib S vs args'):ab P f args R:=by
 rw[cZ] at*
 exact⟨h.1,fun S F vs w h1 h2 h3 h4 hv=>h.2 S F vs w h1 h2 h3 h4 (hw S vs hv)⟩
theorem JA {α:Type} (d:α) (enc:α->List AV) (S:ah) (ad:Addr):RP S (.slice (some ad) 0 0) (.sl d enc []):=
 .sl d enc [] (some ad) 0 0 (fun _ _=>undef) (by simp) (by simp) (by simp) (by simp) (by simp) (by simp)
end
theorem mZ.only {M:ac} {n m:Nat} {t:b7} {bad:Int} {lab:Nat->Nat} (h:mZ M n m t bad lab) {A:Nat->Bool} (h1:A 7001=true) (h2:A 7002=true) (h3:A 7003=true) (h4:A 7004=true) (h5:∀k,k<m->A (lab k)=true):mZ (iL A M) n m t bad lab:=by
 have e:∀{x},A x=true->iL A M x=M x:=fun{x} hx=>by unfold iL;rw[hx]
 refine⟨(e h1).trans h.box,(e h2).trans h.bas,(e h3).trans h.fre,?_,fun k hk=>(e (h5 k hk)).trans (h.row k hk),h.inj,h.far⟩
 obtain⟨g,g1,g2⟩:=h.hdr
 exact⟨g,(e h4).trans g1,g2⟩
theorem kR {M:ac} {n m:Nat} {t:b7} {bad:Int} {lab:Nat->Nat} {A:Nat->Bool} (hT:mZ (iL A M) n m t bad lab) (hm:t.cel.length=m):∀S F ρ w vs,az S F ρ M w->ba S ρ vs [.ptr 7001 0]->ba (ci S ρ (iL A M) w) ρ vs [.pd (gq n t bad)]:=
 fun S F ρ w vs hM hv=>(nE hT hm S F ρ w vs (hM.only A) hv).rv ρ
theorem JB (m:Nat) (t:b7) (bad:Int) (ht:oF 0 m t) (hm:m<=100000) (hbs:∀i,i<m->0<=t.bas.getD i 0):ab Tryz.prog 136 [.pd (gq 0 t bad)] (fun u=>∃ad:Addr,u= .val (.slice (some ad) 0 0)):=by
 have hb:=ht.bl
 refine ab.introZ 3 ae ag Tryz.func136 rfl (by decide) ?_
 conv=>whnf
 refine bp ⟨rfl,rfl⟩ ?_
 intro ad
 conv=>whnf
 refine a8.loopF ae ag (fun k:Nat=>k<=m) (fun k=>[(16, .int .i64 (k:Int))]) (fun k=>[(9998, .row 3 0 ak [])]) (fun k=>m-k) 0 (Nat.zero_le _) ?_;conv=>whnf
 refine⟨sI,?_⟩
 rintro k hk
 conv=>whnf
 refine ai ?_ ?_<;>(intro h1;conv=>whnf)
 ·have hlt:k<m:=by omega
  have hb0:=hbs k hlt
  refine nI ?_
  rw[tN]
  conv=>whnf
  refine fI ?_
  conv=>whnf
  refine aI ?_
  conv=>whnf
  exact⟨k+1,sI,by omega,by dsimp only;omega⟩
 ·exact⟨⟨ad,rfl⟩,rfl⟩
theorem MW (n:Nat) (rows:List br) (nodes:List gC) (li le:Int) (g:Bool) (x:List Int) (hx:x.length<=1000):
  aj Tryz.prog 135 [.ptr 6001 0, .sl 0 ak x] (ac.ofL (oJ n rows nodes li le g))
   (fun u M=>u= .tup []/\((jz x/\M=ac.ofL (sC n rows nodes li le (.sl 0 ak x) g))\/(¬jz x/\M=ac.ofL (sC n rows nodes li le .nilsl true)))):=by
 refine aj.renorm 400 (R:=fun u M=>u= .tup []/\((jz x/\bD (DV 6002 6003) 400 M (sC n rows nodes li le (.sl 0 ak x) g))\/(¬jz x/\bD (DV 6002 6003) 400 M (sC n rows nodes li le .nilsl true)))) ?_ ?_
 case refine_2=>
  rintro u M' ⟨rfl,⟨h0,hM⟩|⟨h0,hM⟩⟩
  ·exact⟨_,_, .tup [],rfl,hM,trivial,rfl, .inl ⟨h0,rfl⟩⟩
  ·exact⟨_,_, .tup [],rfl,hM,trivial,rfl, .inr ⟨h0,rfl⟩⟩
 refine aj.intro ae ag (oJ n rows nodes li le g) Tryz.func135 rfl (by decide) ?_
 conv=>whnf
 refine dC (pJ x (by omega)) (fun _=>?_) (fun _=>?_)<;>(conv=>whnf)
 ·rename_i h
  exact⟨rfl, .inl ⟨h,aa⟩⟩
 ·rename_i h
  exact⟨rfl, .inr ⟨h,aa⟩⟩
theorem MY (n:Nat) (rows:List br) (nodes:List gC) (li le:Int) (g:Bool) (ad:Addr):
  aj Tryz.prog 135 [.ptr 6001 0, .val (.slice (some ad) 0 0)] (ac.ofL (oJ n rows nodes li le g))
   (fun u M=>u= .tup []/\M=ac.ofL (sC n rows nodes li le (.val (.slice (some ad) 0 0)) g)):=by
 have hO:ab Tryz.prog 86 [.val (.slice (some ad) 0 0)] (fun u=>u= .bool (decide (jz []))):=ab.weaken (pJ [] (by simp)) (fun S vs hv=>by
  obtain⟨v,vs',rfl,h1,h2⟩:=hv.cons_inv
  have e2:vs'=[]:=List.eq_nil_of_length_eq_zero h2.1
  subst e2
  cases h1
  exact ib.cons (JA 0 ak S ad) (ib.nil _))
 refine aj.renorm 400 (R:=fun u M=>u= .tup []/\bD (DV 6002 6003) 400 M (sC n rows nodes li le (.val (.slice (some ad) 0 0)) g)) ?_ ?_
 case refine_2=>
  rintro u M' ⟨rfl,hM⟩
  exact⟨_,_, .tup [],rfl,hM,trivial,rfl,rfl⟩
 refine aj.intro ae ag (oJ n rows nodes li le g) Tryz.func135 rfl (by decide) ?_
 conv=>whnf
 refine dC (hO) (fun _=>?_) (fun _=>?_)<;>(conv=>whnf)
 ·exact⟨rfl,aa⟩
 ·rename_i h
  exact absurd (fun j hj=>absurd hj (Nat.not_lt_zero _)) h
theorem JC (r:br):∀k,oA r k=LX r k
 |0=>rfl
 |k+1=>by rw[oA,LX,JC r k]
def Td (n:Nat) (b:Br):List (Nat×aU):=
 [(6001, .box 134 (Ti n 1000 b.rows.length 1001 b.nodes.length b.lines b.left .nilsl b.gave)),(6002, .dead),(6003, .dead),(1000, .row 161 av aE b.rows),(1001, .row 217 aw bn b.nodes)]
def SO (n:Nat) (r:Br×Bool) (u:AV) (M:ac):Prop:=u= .bool r.2/\M=ac.ofL (sC n r.1.rows r.1.nodes r.1.lines r.1.left .nilsl r.1.gave)
theorem B9 {n i:Nat} {b:Br} {d:l8} (h:x7 n b.rows d/\(b.lines:Int)≠400):l5 n i b d=({b with rows:=b.rows++[od n b.rows d],lines:=b.lines+1,nodes:=un b.nodes i d},true):=by
 unfold l5
 rw[if_pos ⟨h.1,by have:=h.2;omega⟩]
 rfl
theorem Ca {n i:Nat} {b:Br} {d:l8} (h:¬(x7 n b.rows d/\(b.lines:Int)≠400)):l5 n i b d=(b.give,false):=by
 unfold l5
 rw[if_neg (fun hh=>h ⟨hh.1,by have:=hh.2;omega⟩)]
theorem JD {n:Nat} {b:Br} {k:Nat} (h:(iK n b k).2=false):∀m,k<=m->iK n b m=iK n b k:=by
 intro m hm
 induction m with
 |zero=>rw[Nat.le_zero.1 hm]
 |succ m ih=>
  by_cases e:k=m+1
  ·rw[e]
  ·have:=ih (by omega)
   rw[iK,this,if_pos h]
theorem JE (n:Nat) (b:Br) (h:iC n 0 b) (hl:b.rows.length<=10000):
  aj Tryz.prog 128 [.ptr 6001 0, .int .i64 0, .int .i64 0] (ac.ofL (oJ n b.rows b.nodes b.lines b.left b.gave)) (SO n (iK n b b.rows.length)):=by
 have hlen:=h.len
 refine aj.renorm 400 (R:=fun u M=>u= .bool (iK n b b.rows.length).2/\((bD (DV 1000 1001) 400 M (sC n (iK n b b.rows.length).1.rows (iK n b b.rows.length).1.nodes (iK n b b.rows.length).1.lines (iK n b b.rows.length).1.left .nilsl (iK n b b.rows.length).1.gave))\/
  (bD (DV 1002 1003) 400 M (sC n (iK n b b.rows.length).1.rows (iK n b b.rows.length).1.nodes (iK n b b.rows.length).1.lines (iK n b b.rows.length).1.left .nilsl (iK n b b.rows.length).1.gave)))) ?_ ?_
 case refine_2=>
  rintro u M' ⟨rfl,hM|hM⟩
  ·exact⟨_,_, .bool (iK n b b.rows.length).2,rfl,hM,rfl,rfl,rfl⟩
  ·exact⟨_,_, .bool (iK n b b.rows.length).2,rfl,hM,rfl,rfl,rfl⟩
 refine aj.intro ae ag (oJ n b.rows b.nodes b.lines b.left b.gave) Tryz.func128 rfl (by decide) ?_
 conv=>whnf
 refine a8.loopF ae ag (fun x:Nat×Br=>x.1<=b.rows.length/\iK n b x.1=(x.2,true)) (fun x=>[(8, .int .i64 (x.1:Int))]) (fun x=>Td n x.2) (fun x=>b.rows.length-x.1) (0,b) ⟨Nat.zero_le _,rfl⟩ ?_;conv=>whnf
 refine⟨bd.by_ [(6001, .old 6001),(6002, .old 6002),(6003, .old 6003),(1000, .old 6002),(1001, .old 6003)] _ 400 rfl (aa) (aa),?_⟩
 rintro⟨k,c⟩ ⟨hk,hc⟩
 dsimp only at hk hc
 obtain⟨ha,hs⟩:=xV (n:=n) (b:=b) (by omega) (by rw[h.new];rfl) h.gv k hk
 rw[hc] at ha hs
 dsimp only at ha hs
 have hrl:=(xp h.rdy (hs.resolve_left (fun h=>by cases h.1)).2.2).2
 obtain⟨m,em⟩:=ha.rows
 have hrdy:=ha.rdy h.rdy
 have hlin:=ha.lin
 have hlmx:=ha.lmx h.lmx
 have hnl:=ha.len
 have h0:(b.nodes.getD 0 aw).lines.length=0:=by rw[h.new];rfl
 conv=>whnf
 refine ai ?_ ?_<;>(intro h1;conv=>whnf)
 ·have hlt:k<b.rows.length:=by omega
  have hcl:b.rows.length<=c.rows.length:=by rw[em,List.length_append];omega
  have er:c.rows.getD k av=b.rows.getD k av:=by rw[em,eP av hlt]
  have hr:=hrdy k (by omega)
  refine nI ?_
  rw[tN]
  conv=>whnf
  (refine oP (Ja (c.rows.getD k av) hr.2 (by have:=h.n96;omega)) ?_;conv=>whnf)
  have hD:oA (c.rows.getD k av) (c.rows.getD k av).coef.length=oD (b.rows.getD k av):=by rw[JC,er];rfl
  have hDb:=BW hr.2.1 (c.rows.getD k av).coef.length (Nat.le_refl _)
  rw[hD] at hDb
  have hup:iK n b (k+1)=if 1<oD (b.rows.getD k av)/\(b.rows.getD k av).const.tmod (oD (b.rows.getD k av))≠0 then l5 n 0 c ⟨[(k:Int)],[1],oD (b.rows.getD k av)⟩ else(c,true):=by
   rw[iK,hc,if_neg (by simp)]
  rw[hD]
  refine ai ?_ ?_<;>(intro h2;conv=>whnf)
  ·refine nI ?_
   rw[tN]
   conv=>whnf
   refine nI ?_
   conv=>whnf
   rw[er]
   refine ai ?_ ?_<;>(intro h3;conv=>whnf)
   ·rw[if_pos ⟨h2,h3⟩] at hup
    refine aj.handB 47 rfl ?_
    refine aj.handB 48 rfl ?_
    refine aj.call [(6001, .old 6001),(6002, .old 1000),(6003, .old 1001)] (oJ n c.rows c.nodes c.lines c.left c.gave) 400 rfl (aa) (aa)
     (Px n 0 c.rows c.nodes c.lines c.left c.gave ⟨[(k:Int)],[1],oD (b.rows.getD k av)⟩ h.n96 hrdy (by omega) (by omega) (by omega) ⟨by simp,by simp⟩ (by omega)) ?_
    rintro u M' (⟨hd,rfl,rfl⟩|⟨hd,rfl,rfl⟩)
    ·rw[B9 hd] at hup
     refine⟨[(6001, .old 6001),(1000, .old 6002),(1001, .old 6003),(1002, .old 6004),(1003, .old 6005)],[(6001, .box 134 (Ti n 1002 (c.rows++[od n c.rows ⟨[(k:Int)],[1],oD (b.rows.getD k av)⟩]).length 1003 (un c.nodes 0 ⟨[(k:Int)],[1],oD (b.rows.getD k av)⟩).length (c.lines+1) c.left .nilsl c.gave)),(1000, .dead),(1001, .dead),(1002, .row 161 av aE (c.rows++[od n c.rows ⟨[(k:Int)],[1],oD (b.rows.getD k av)⟩])),(1003, .row 217 aw bn (un c.nodes 0 ⟨[(k:Int)],[1],oD (b.rows.getD k av)⟩))], .bool true,rfl,(aa),rfl,?_⟩
     conv=>whnf
     repeat' ((first|refine nI ?_|refine aI ?_|refine uI ?_|refine vI ?_|refine dI ?_|refine dR ?_|refine dP ?_|refine ar rfl ?_|refine pI _ rfl ?_|refine an _ rfl ?_|refine tI ?_|refine fI ?_|refine ai (fun _=>?_) (fun _=>?_))<;>conv=>whnf)
     exact⟨(k+1,{c with rows:=c.rows++[od n c.rows ⟨[(k:Int)],[1],oD (b.rows.getD k av)⟩],lines:=c.lines+1,nodes:=un c.nodes 0 ⟨[(k:Int)],[1],oD (b.rows.getD k av)⟩}),
      bd.by_ [(6001, .old 6001),(6002, .old 6002),(6003, .old 6003),(1000, .old 1002),(1001, .old 1003)] _ 400 rfl (aa) (aa),⟨by dsimp only;omega,hup⟩,by dsimp only;omega⟩
    ·rw[Ca hd] at hup
     refine⟨[(6001, .old 6001),(1000, .old 6002),(1001, .old 6003),(1002, .old 6004),(1003, .old 6005)],[(6001, .box 134 (Ti n 1002 c.rows.length 1003 c.nodes.length c.lines c.left .nilsl true)),(1000, .dead),(1001, .dead),(1002, .row 161 av aE c.rows),(1003, .row 217 aw bn c.nodes)], .bool false,rfl,(aa),rfl,?_⟩
     conv=>whnf
     have hst:=JD (n:=n) (b:=b) (k:=k+1) (by rw[hup]) b.rows.length (by omega)
     rw[hst,hup]
     exact⟨rfl, .inr (aa)⟩
   ·rw[if_neg (fun hh=>h3 hh.2)] at hup
    repeat' ((first|refine nI ?_|refine aI ?_|refine uI ?_|refine vI ?_|refine dI ?_|refine dR ?_|refine dP ?_|refine ar rfl ?_|refine pI _ rfl ?_|refine an _ rfl ?_|refine tI ?_|refine fI ?_|refine ai (fun _=>?_) (fun _=>?_))<;>conv=>whnf)
    exact⟨(k+1,c),sI,⟨by dsimp only;omega,hup⟩,by dsimp only;omega⟩
  ·rw[if_neg (fun hh=>h2 hh.1)] at hup
   repeat' ((first|refine nI ?_|refine aI ?_|refine uI ?_|refine vI ?_|refine dI ?_|refine dR ?_|refine dP ?_|refine ar rfl ?_|refine pI _ rfl ?_|refine an _ rfl ?_|refine tI ?_|refine fI ?_|refine ai (fun _=>?_) (fun _=>?_))<;>conv=>whnf)
   exact⟨(k+1,c),sI,⟨by dsimp only;omega,hup⟩,by dsimp only;omega⟩
 ·obtain rfl:k=b.rows.length:=by omega
  rw[hc]
  exact⟨rfl, .inl (aa)⟩
end
section
set_option maxRecDepth 100000
set_option maxHeartbeats 32000000
theorem Tg {P:Program} {tt:TT} {draw:Option aG} {all r:List Oper} {o:Oper} {fr fr':List AV} {M:ac} {K:List AV->ac->Prop} (u:AV) (hg:o.guard=none)
  (h:∀K':AV->ac->Prop,K' u M->aZ P tt draw o ((aF o.op).map (cC fr)) M K') (e:b8 fr o.dst u=fr') (hk:cD P tt draw all r fr' M K):cD P tt draw all (o::r) fr M K:=by
 subst e
 simp only[cD]
 rw[bq]
 rw[hg]
 simp only[gv]
 exact h _ hk
theorem DW {P:Program} {tt:TT} {draw:Option aG} {all r:List Oper} {fr:List AV} {M:ac} {K:List AV->ac->Prop} {t ty:TypeId} {ps:String} {af:Array Edge} {a b:Operand} {ℓ o:Nat} {x:AV} {cs cells cells':List AV} {bt:TypeId} {i:TI}
  (hd:draw=some .flat\/draw=some .any) (ha:cC fr a= .ptr ℓ o) (hb:cC fr b=x) (hc:bv x=some cs) (ht:tt.find t=some i) (hM:M ℓ=some (.box bt cells)) (h1:Nat.beq cs.length i.size=true) (h2:allOne cs=true) (h3:Nat.ble (o+cs.length) cells.length=true)
  (hs:ew cells o cs=cells') (hk:cD P tt draw all r fr (M.set ℓ (.box bt cells')) K):
  cD P tt draw all ({dst:=none,op:=.store t a b,type:=ty,pos:=ps,after:=af,guard:=none}::r) fr M K:=by
 subst hs
 simp only[cD]
 rw[bq]
 rcases hd with rfl|rfl
 ·simp only[gv,aF,List.map_cons,List.map_nil,ha,hb,aZ,dG,dF,hc,ht,hM,h1,h2,h3,b8,cY]
  exact hk
 ·simp only[gv,aF,List.map_cons,List.map_nil,ha,hb,aZ,dG,dF,hc,ht,hM,h1,h2,h3,b8,cY]
  exact hk
theorem Ah {P:Program} {tt:TT} {all r:List Oper} {fr:List AV} {M:ac} {K:List AV->ac->Prop} {d:Option Tmp} {a:Operand} {xs:Array Operand} {ts:Array TypeId} {ty:TypeId} {ps:String} {af:Array Edge} {f:FuncId} {caps us:List AV}
  (ha:cC fr a= .fn f caps) (hs:xs.toList.map (cC fr)=us) (h:aj P f (us++caps) M fun u M'=>cD P tt none all r (b8 fr d u) M' K):
  cD P tt none all ({dst:=d,op:=.call {callee:=.value a,args:=xs,argTypes:=ts},type:=ty,pos:=ps,after:=af,guard:=none}::r) fr M K:=by
 subst hs
 simp only[cD]
 rw[bq]
 simp only[gv,aF,List.map_cons,ha,aZ,m9]
 exact h
theorem QA {P:Program} {tt:TT} {draw:Option aG} {all:List Oper} {fr:List AV} {M:ac} {K:List AV->ac->Prop} (h:K fr M):cD P tt draw all [] fr M K:=h
theorem Tj {P:Program} {tt:TT} {D:List Nat} {a b:Code} {fr:List AV} {M:ac} {Q:dy} (h:bO P tt D a fr M fun e fr' M'=>match e with
  |.normal=>bO P tt D b fr' M' Q
  |.exit i=>Q (.exit i) fr' M'
  |.ret=>Q .ret fr' M'):bO P tt D (.seq a b) fr M Q:=h
theorem Tk {P:Program} {tt:TT} {D:List Nat} {id:Nat} {ops:Array Oper} {fr:List AV} {M:ac} {Q:dy} (h:cD P tt none ops.toList ops.toList fr M (Q .normal)):bO P tt D (.region id ops false) fr M Q:=h
section
variable {P:Program} {S F:ah} {ρ:aB} {M:ac} {w:World}
def Wk (M M':ac):Prop:=∀S F ρ w,az S F ρ M w->∃S',ah.le S S'/\az S' F ρ M' w
theorem Wk.leakBox {ℓ ℓb:Nat} {t tb:TypeId} {α:Type} {d:α} {enc:α->List AV} {l:List α} {cells:List AV} (hl:M ℓ=some (.row t d enc l)) (hb:M ℓb=some (.box tb cells)):
  Wk M ((M.set ℓ (.gone d enc l)).set ℓb (.box tb (cells.map (jG ℓ (.sl d enc l))))):=by
 intro S F ρ w hM
 obtain⟨S1,b,hle,_,hM1,_⟩:=hM.leak hl
 have hne:ℓb≠ℓ:=fun e=>by subst e;rw[hl] at hb;cases hb
 have hb1:M.set ℓ (.gone d enc l) ℓb=some (.box tb cells):=by rw[ac.set_ne _ _ hne];exact hb
 obtain⟨c,hc,vs,h1,h2,h3,h4⟩:=hM1.blk _ _ hb1
 refine⟨S1,hle,hM1.upd hb1 hc (fun _ _=>rfl) (fun h=>h) ⟨vs,h1,⟨by simpa using h2.1,fun i u hu=>?_⟩,h3,h4⟩⟩
 rw[List.getElem?_map] at hu
 obtain⟨u0,h0,rfl⟩:=Option.map_eq_some_iff.1 hu
 obtain⟨v,hv,hr⟩:=h2.2 i u0 h0
 exact⟨v,hv,jf hM1 (ac.set_eq _ _ _) hr⟩
theorem aj.wk {f:FuncId} {args:List AV} {M':ac} {R:AV->ac->Prop} (hw:Wk M M') (h:aj P f args M' R):aj P f args M R:=by
 rw[bB] at h⊢
 refine⟨h.1,fun S F ρ vs w hM hv=>?_⟩
 obtain⟨S1,hle,hM1⟩:=hw S F ρ w hM
 refine(h.2 S1 F ρ vs w hM1 (hv.mono hle (aB.le_refl _))).mono ?_
 rintro e w' ⟨v,u,M',S',ρ',a,b,c,r⟩
 exact⟨v,u,M',S',ρ',a,b,ah.le_trans hle c,r⟩
theorem aj.after {f:FuncId} {args:List AV} {R R':AV->ac->Prop} (h:aj P f args M R) (hk:∀u M',R u M'->∃M'',Wk M' M''/\R' u M''):aj P f args M R':=by
 rw[bB] at h⊢
 refine⟨h.1,fun S F ρ vs w hM hv=>(h.2 S F ρ vs w hM hv).mono ?_⟩
 rintro e w' ⟨v,u,M',S',ρ',rfl,hR,hle,hρ,hM',hr,hw⟩
 obtain⟨M'',hw2,hR'⟩:=hk u M' hR
 obtain⟨S2,hle2,hM2⟩:=hw2 S' F ρ' w' hM'
 exact⟨v,u,M'',S2,ρ',rfl,hR',ah.le_trans hle hle2,hρ,hM2,hr.mono hle2 (aB.le_refl _),hw⟩
theorem Wk.refl (M:ac):Wk M M:=fun S F ρ w hM=>⟨S,ah.le_refl _,hM⟩
end
def rL (n:Nat) (rows:List br) (ln nn:Nat) (li le:Int) (pc:AV) (g:Bool):List AV:=[.int .i64 n, .sl av aE rows, .row ln nn 5, .int .i64 li, .int .i64 le,pc, .bool g]
def MZ (n:Nat) (rows:List br) (nodes:List gC) (li le:Int) (g:Bool):List (Nat×aU):=
 [(6001, .box 134 (rL n rows 6003 nodes.length li le .nilsl g)),(6002, .dead),(6003, .row 217 aw bn nodes)]
def Fq (n:Nat) (rows:List br) (nodes:List gC) (li le:Int) (pc:AV) (g:Bool):List (Nat×aU):=
 [(6001, .box 134 (rL n rows 6005 nodes.length li le pc g)),(6002, .dead),(6003, .dead),(6005, .row 217 aw bn nodes)]
def L' (s:Nat):aV:=[(6001, .old 6001),(6002, .old 6002),(6003, .old 6003),(6005, .old s)]
theorem M3 (n:Nat) (rows:List br) (nodes:List gC) (li le:Int) (g:Bool) (hn:nodes.length<=100000) (hl:0<=le/\le<=100000):
  aj Tryz.prog 58 [.ptr 6001 0] (ac.ofL (MZ n rows nodes li le g))
   (fun u M=>(le=0/\u= .int .i64 (-1)/\M=ac.ofL (Fq n rows nodes li le .nilsl true))\/(le≠0/\u= .int .i64 nodes.length/\M=ac.ofL (Fq n rows (nodes++[iW]) li (le-1) .nilsl g))):=by
 refine aj.renorm 400 (R:=fun u M=>(le=0/\u= .int .i64 (-1)/\bD (L' 6003) 400 M (Fq n rows nodes li le .nilsl true))\/(le≠0/\u= .int .i64 nodes.length/\bD (L' 25) 400 M (Fq n rows (nodes++[iW]) li (le-1) .nilsl g))) ?_ ?_
 case refine_2=>
  rintro u M' (⟨h0,rfl,hM⟩|⟨h0,rfl,hM⟩)
  ·exact⟨_,_, .int .i64 (-1),rfl,hM,rfl, .inl ⟨h0,rfl,rfl⟩⟩
  ·exact⟨_,_, .int .i64 nodes.length,rfl,hM,rfl, .inr ⟨h0,rfl,rfl⟩⟩
 refine aj.intro ae ag (MZ n rows nodes li le g) Tryz.func58 rfl (by decide) ?_
 conv=>whnf
 refine ai ?_ ?_<;>(intro h1;conv=>whnf)
 ·exact .inl ⟨h1,rfl,aa⟩
 ·refine aI ?_
  conv=>whnf
  first|refine dI ?_|refine lP (by decide+kernel) ?_|skip
  conv=>whnf
  refine J4 aw bn [iW] ⟨⟨.inr ⟨rfl,_,_,_,rfl⟩, .inl rfl, .inl rfl, .inl rfl, .inl rfl,trivial⟩,trivial⟩ ?_
  conv=>whnf
  first|refine dn ?_|skip
  conv=>whnf
  refine di [iW] rfl lI ?_
  conv=>whnf
  refine yj trivial lI ?_
  conv=>whnf
  refine .inr ⟨h1,x6 (by simp only[List.length_append,List.length_cons,List.length_nil];omega),aa⟩
def rM:Option (List Int)->AV->Prop
 |none,pc=>pc= .nilsl
 |some x,pc=>(x≠[]/\pc= .sl 0 ak x)\/(x=[]/\∃ad:Addr,pc= .val (.slice (some ad) 0 0))
def PR (n:Nat) (c:Br) (u:AV) (M:ac):Prop:=u= .tup []/\∃pc,rM c.point pc/\M=ac.ofL (Fq n c.rows c.nodes c.lines c.left pc c.gave)
def Fy (b:Br):Prop:=b.rows.length+b.left<=1600+b.lines/\b.nodes.length+b.left<=1000
def St (n k:Nat):Prop:=∀(b:Br) (i:Nat),iC n i b->0<i->b.left<k->Fy b->
 aj Tryz.prog 57 [.ptr 6001 0, .int .i64 (i:Int)] (ac.ofL (oJ n b.rows b.nodes b.lines b.left b.gave)) (PR n (ma n k b i))
def gw (n i:Nat) (v a:Int) (b:Br):Br:=(gp i v a b.nodes.length (bZ b)).put b.rows (jr n v a)
def jC (n i:Nat) (v a:Int) (b:Br) (l:List br):Br:=(gF i v a b.nodes.length (bZ b)).put l (jA n v (a+1))
def d6 (n k:Nat) (b:Br) (i:Nat) (v a:Int):Br:=
 if 1048576<a then b.give
 else if b.left=0 then b.give
 else
  let c:=(ma n k (gw n i v a b) b.nodes.length).cut b.rows.length
  if c.point.isSome=true\/c.gave=true then c
  else if c.left=0 then c.give
  else(ma n k (jC n i v a c b.rows) c.nodes.length).cut b.rows.length
def nV (x:gC) (v:Int):gC:={x with var:=v}
def nA (x:gC) (v:Int):gC:={x with at_:=v}
def nL (x:gC) (v:Int):gC:={x with left:=v}
def nR (x:gC) (v:Int):gC:={x with right:=v}
theorem M4 {N0 N1 N2 N3:List gC} {i:Nat} {v a:Int} {f:gC->gC} (hi:i<N0.length) (h1:N0.set i (nV (N0.getD i aw) v)=N1) (h2:N1.set i (nA (N1.getD i aw) a)=N2) (h3:N2.set i (f (N2.getD i aw))=N3):
  N3=N0.set i (f (nA (nV (N0.getD i aw) v) a))/\N1.length=N0.length/\N2.length=N0.length/\N3.length=N0.length:=by
 subst h3;subst h2;subst h1
 refine⟨?_,by simp,by simp,by simp⟩
 rw[List.set_set,List.set_set,gS hi,gS (by rw[List.length_set];exact hi)]
def Te (n:Nat) (c:Br):List (Nat×aU):=[(6001, .box 134 (rL n c.rows 1001 c.nodes.length c.lines c.left .nilsl false)),(6002, .dead),(6003, .dead),(1001, .row 217 aw bn c.nodes)]
theorem gT {p:Option (List Int)} {pc:AV} (h:rM p pc):(p=none/\pc= .nilsl)\/(∃x,p=some x/\x≠[]/\pc= .sl 0 ak x)\/(∃ad:Addr,p=some []/\pc= .val (.slice (some ad) 0 0)):=by
 cases p with
 |none=>exact .inl ⟨rfl,h⟩
 |some x=>
  rcases h with ⟨h1,h2⟩|⟨rfl,ad,h2⟩
  ·exact .inr (.inl ⟨x,rfl,h1,h2⟩)
  ·exact .inr (.inr ⟨ad,rfl,h2⟩)
theorem JF {n i:Nat} {v a:Int} {b0 b:Br} (h:iC n i b0) (ha:fv n i b0 b) (hg:b.gave=false) (hv:0<=v/\v<n) (har:0<=a/\a<=1048576):iC n b.nodes.length (gw n i v a b):=by
 have hb:b.nodes.length=i+1:=ha.len.trans h.len
 refine⟨?_,?_,ha.pt.trans h.pt,hg,nq (ha.rdy h.rdy) (rZ (.inr rfl) (by unfold iB;omega)),ha.lmx h.lmx,h.n96⟩
 ·unfold gw gp bZ Br.put
  simp only[List.length_set,List.length_append,List.length_singleton]
 ·unfold gw gp bZ Br.put
  dsimp only
  rw[QY (by omega),nz]
theorem Q6 {n i:Nat} {v a:Int} {b:Br} (hW:Fy b) (hl:b.left≠0):Fy (gw n i v a b):=by
 obtain⟨h1,h2⟩:=hW
 refine⟨?_,?_⟩
 ·show(b.rows++[jr n v a]).length+(b.left-1)<=1600+b.lines
  rw[List.length_append,List.length_singleton];omega
 ·show((b.nodes++[iW]).set i _).length+(b.left-1)<=1000
  rw[List.length_set,List.length_append,List.length_singleton];omega
theorem Py {n i:Nat} {v a:Int} {b0 b c:Br} (h:iC n i b0) (ha:fv n i b0 b) (har:0<=a/\a<=1048576) (hH:uR n i v a b0 b c) (hp:c.point=none) (hg:c.gave=false):iC n c.nodes.length (jC n i v a c b.rows):=by
 refine⟨?_,?_,hp,hg,nq (ha.rdy h.rdy) (rZ (.inl rfl) (by unfold iB;omega)),hH.lmx,h.n96⟩
 ·unfold jC gF bZ Br.put
  simp only[List.length_set,List.length_append,List.length_singleton]
 ·have:=hH.len
  unfold jC gF bZ Br.put
  dsimp only
  rw[QY (by omega),nz]
theorem Ai {n i:Nat} {v a:Int} {b0 b c:Br} (h:iC n i b0) (ha:fv n i b0 b) (hH:uR n i v a b0 b c):b.lines<=c.lines/\c.left+1<=b.left/\c.nodes.length+c.left=b.nodes.length+b.left:=by
 have k1:=hH.lin
 have k2:=nB h ha
 have k3:=E3 c.nodes (show i+1<=c.nodes.length by have:=hH.len;omega)
 rw[kN,hH.nod] at k3
 dsimp only at k3
 have k4:=hH.cnt
 have k5:=ha.lft
 have k6:=ha.len
 have k7:=hH.len
 have k8:=h.len
 omega
theorem Q7 {n i:Nat} {v a:Int} {b0 b c:Br} (h:iC n i b0) (ha:fv n i b0 b) (hH:uR n i v a b0 b c) (hW:Fy b) (hl:c.left≠0):Fy (jC n i v a c b.rows):=by
 obtain⟨h1,h2⟩:=hW
 obtain⟨k1,k2,k3⟩:=Ai h ha hH
 refine⟨?_,?_⟩
 ·show(b.rows++[jA n v (a+1)]).length+(c.left-1)<=1600+c.lines
  rw[List.length_append,List.length_singleton];omega
 ·show((c.nodes++[iW]).set i _).length+(c.left-1)<=1000
  rw[List.length_set,List.length_append,List.length_singleton];omega
theorem DX {n i:Nat} {b d:Br} {l:List br} {r:br} (h:iq n i b d) (hr:b.rows=l++[r]):l.length<=d.rows.length/\d.rows.take l.length=l:=by
 obtain⟨m,em⟩:=h.rows
 rw[em,hr,List.append_assoc]
 exact⟨by rw[List.length_append];omega,List.take_left' rfl⟩
theorem q7 (d:Br) (m:Nat):(d.cut m).point=d.point:=rfl
theorem Ma {n k i:Nat} {b:Br} {v a:Int} (hal:¬1048576<a) (hl:b.left≠0) (hs:((ma n k (gw n i v a b) b.nodes.length).cut b.rows.length).point.isSome=true\/((ma n k (gw n i v a b) b.nodes.length).cut b.rows.length).gave=true):
  d6 n k b i v a=(ma n k (gw n i v a b) b.nodes.length).cut b.rows.length:=by
 unfold d6
 rw[if_neg hal,if_neg hl]
 dsimp only
 rw[if_pos hs]
theorem Mb {n k i:Nat} {b c:Br} {v a:Int} (hal:¬1048576<a) (hl:b.left≠0) (hc:c=(ma n k (gw n i v a b) b.nodes.length).cut b.rows.length) (hp:c.point=none) (hg:c.gave=false) (h0:c.left=0):
  d6 n k b i v a=c.give:=by
 subst hc
 unfold d6
 rw[if_neg hal,if_neg hl]
 dsimp only
 rw[if_neg (fun h=>by rcases h with h|h;rw[hp] at h;cases h;rw[hg] at h;cases h),if_pos h0]
theorem JG {n k i:Nat} {b c:Br} {v a:Int} (hal:¬1048576<a) (hl:b.left≠0) (hc:c=(ma n k (gw n i v a b) b.nodes.length).cut b.rows.length) (hp:c.point=none) (hg:c.gave=false) (h0:c.left≠0):
  d6 n k b i v a=(ma n k (jC n i v a c b.rows) c.nodes.length).cut b.rows.length:=by
 subst hc
 unfold d6
 rw[if_neg hal,if_neg hl]
 dsimp only
 rw[if_neg (fun h=>by rcases h with h|h;rw[hp] at h;cases h;rw[hg] at h;cases h),if_neg h0]
theorem JH (n k i:Nat) (b0 b:Br) (v a:Int) (h:iC n i b0) (ha:fv n i b0 b) (hg:b.gave=false) (hv:0<=v/\v<n) (h0:0<=a/\a<=1073741824) (hk:b.left<=k) (hW:Fy b) (ih:St n k):
  aj Tryz.prog 137 [.ptr 6001 0, .int .i64 (i:Int), .int .i64 v, .int .i64 a] (ac.ofL (MZ n b.rows b.nodes b.lines b.left false)) (PR n (d6 n k b i v a)):=by
 have hb:b.nodes.length=i+1:=ha.len.trans h.len
 have hrdy:=ha.rdy h.rdy
 have hlmx:=ha.lmx h.lmx
 have hn96:=h.n96
 have hpt:b.point=none:=ha.pt.trans h.pt
 have hW1:=hW.1
 have hW2:=hW.2
 refine aj.renorm 400 (R:=fun u M=>u= .tup []/\∃pc,rM (d6 n k b i v a).point pc/\
  (bD (L' 6003) 400 M (Fq n (d6 n k b i v a).rows (d6 n k b i v a).nodes (d6 n k b i v a).lines (d6 n k b i v a).left pc (d6 n k b i v a).gave)\/
   bD (L' 1001) 400 M (Fq n (d6 n k b i v a).rows (d6 n k b i v a).nodes (d6 n k b i v a).lines (d6 n k b i v a).left pc (d6 n k b i v a).gave)\/
   bD (L' 1006) 400 M (Fq n (d6 n k b i v a).rows (d6 n k b i v a).nodes (d6 n k b i v a).lines (d6 n k b i v a).left pc (d6 n k b i v a).gave)\/
   bD (L' 1007) 400 M (Fq n (d6 n k b i v a).rows (d6 n k b i v a).nodes (d6 n k b i v a).lines (d6 n k b i v a).left pc (d6 n k b i v a).gave))) ?_ ?_
 case refine_2=>
  rintro u M' ⟨rfl,pc,hpc,hM|hM|hM|hM⟩
  ·exact⟨_,_, .tup [],rfl,hM,trivial,rfl,pc,hpc,rfl⟩
  ·exact⟨_,_, .tup [],rfl,hM,trivial,rfl,pc,hpc,rfl⟩
  ·exact⟨_,_, .tup [],rfl,hM,trivial,rfl,pc,hpc,rfl⟩
  ·exact⟨_,_, .tup [],rfl,hM,trivial,rfl,pc,hpc,rfl⟩
 refine aj.intro ae ag (MZ n b.rows b.nodes b.lines b.left false) Tryz.func137 rfl (by decide) ?_
 conv=>whnf
 refine ai ?_ ?_<;>(intro h1;conv=>whnf)
 ·have e:d6 n k b i v a=b.give:=by unfold d6;rw[if_pos h1]
  rw[e]
  refine⟨rfl, .nilsl,?_, .inl (aa)⟩
  show rM b.point .nilsl
  rw[hpt]
  rfl
 have hal:¬1048576<a:=h1
 have har:0<=a/\a<=1048576:=by omega
 first|refine dI ?_|refine lP (by decide+kernel) ?_|skip
 conv=>whnf
 (refine oC (LT n v a (by omega) hv) ?_;conv=>whnf)
 refine aI ?_
 conv=>whnf
 (refine oC (Jb n v (a+1) (by omega) hv (by omega)) ?_;conv=>whnf)
 refine c7 av aE [jr n v a,jA n v (a+1)] rfl ?_
 conv=>whnf
 refine ef ?_
 conv=>whnf
 refine a8.loopF ae ag (fun x:Nat×Br=>x.2.rows=b.rows/\x.2.point=none/\x.2.gave=false/\((x.1=0/\x.2=b)\/(x.1=1/\b.left≠0/\x.2=(ma n k (gw n i v a b) b.nodes.length).cut b.rows.length)\/(x.1=2/\x.2=d6 n k b i v a))) (fun x=>[(40, .int .i64 (x.1:Int))]) (fun x=>Te n x.2) (fun x=>2-x.1) (0,b) ⟨rfl,hpt,hg, .inl ⟨rfl,rfl⟩⟩ ?_;conv=>whnf
 refine⟨bd.by_ [(6001, .old 6001),(6002, .old 6002),(6003, .old 6003),(1001, .old 6003)] _ 400 rfl (aa) (aa),?_⟩
 rintro⟨s,c⟩ ⟨hcr,hcp,hcg,hs⟩
 dsimp only at hcr hcp hcg hs
 conv=>whnf
 rcases hs with ⟨rfl,rfl⟩|⟨rfl,hbl,hc⟩|⟨rfl,hc⟩
 ·have hzero:c.left=0->d6 n k c i v a=c.give:=fun h=>by unfold d6;rw[if_neg hal,if_pos h]
  have hIn:iC n c.nodes.length (gw n i v a c):=JF h ha hg hv har
  have hlt:c.left≠0->(gw n i v a c).left<k:=fun hl=>by show c.left-1<k;omega
  have hW3:c.left≠0->Fy (gw n i v a c):=fun hl=>Q6 hW hl
  have hfin:c.left≠0->c.rows.length<=(ma n k (gw n i v a c) c.nodes.length).rows.length/\(ma n k (gw n i v a c) c.nodes.length).rows.take c.rows.length=c.rows/\(((ma n k (gw n i v a c) c.nodes.length).point.isSome=true\/(ma n k (gw n i v a c) c.nodes.length).gave=true)->d6 n k c i v a=(ma n k (gw n i v a c) c.nodes.length).cut c.rows.length):=fun hl=>by
   have:=DX (qW k hIn) (l:=c.rows) (r:=jr n v a) rfl
   exact⟨this.1,this.2,fun hs=>Ma hal hl hs⟩
  refine dQ (by dsimp only;simp only[List.length_cons,List.length_nil];omega) ?_
  conv=>whnf
  refine bp (by dsimp only;simp only[List.length_cons,List.length_nil];omega) ?_
  conv=>whnf
  have hO:=M3 n c.rows c.nodes c.lines c.left false (by omega) (by omega)
  obtain⟨N0,hN0⟩:∃N0,N0=c.nodes++[iW]:=⟨_,rfl⟩
  rw[<-hN0] at hO
  refine aj.call [(6001, .old 6001),(6002, .old 6002),(6003, .old 1001)] (MZ n c.rows c.nodes c.lines c.left false) 400 rfl (aa) (aa) hO ?_
  rintro u M' (⟨hl0,rfl,rfl⟩|⟨hl0,rfl,rfl⟩)
  ·refine⟨[(6001, .old 6001),(6002, .old 6002),(1001, .old 6003),(1006, .old 6005)],[(6001, .box 134 (rL n c.rows 1006 c.nodes.length c.lines c.left .nilsl true)),(6002, .dead),(1001, .dead),(1006, .row 217 aw bn c.nodes)], .int .i64 (-1),rfl,(aa),rfl,?_⟩
   conv=>whnf
   rw[hzero (by omega)]
   refine⟨rfl, .nilsl,?_, .inr (.inr (.inl (aa)))⟩
   show rM c.point .nilsl
   rw[hcp]
   rfl
  have hl1:c.left≠0:=by omega
  refine⟨[(6001, .old 6001),(6002, .old 6002),(1001, .old 6003),(1006, .old 6005)],[(6001, .box 134 (rL n c.rows 1006 N0.length c.lines (c.left-1) .nilsl false)),(6002, .dead),(1001, .dead),(1006, .row 217 aw bn N0)], .int .i64 c.nodes.length,rfl,(aa),rfl,?_⟩
  conv=>whnf
  refine fI ?_
  conv=>whnf
  have hln:N0.length=c.nodes.length+1:=by rw[hN0,List.length_append];rfl
  refine nI ?_
  rw[tN]
  conv=>whnf
  refine an (nV (N0.getD i aw) v) rfl ?_
  generalize hN1:N0.set i (nV (N0.getD i aw) v)=N1
  conv=>whnf
  refine an (nA (N1.getD i aw) a) rfl ?_
  generalize hN2:N1.set i (nA (N1.getD i aw) a)=N2
  conv=>whnf
  refine dQ (by dsimp only;omega) ?_
  conv=>whnf
  refine an (nL (N2.getD i aw) (c.nodes.length:Int)) rfl ?_
  generalize hN3:N2.set i (nL (N2.getD i aw) (c.nodes.length:Int))=N3
  obtain⟨hq,hq1,hq2,hq3⟩:=M4 (f:=fun x=>nL x (c.nodes.length:Int)) (by omega) hN1 hN2 hN3
  clear hN1 hN2 hN3
  conv=>whnf
  first|refine dI ?_|refine lP (by decide+kernel) ?_|refine lQ (by decide+kernel) ?_|refine CA [(76,6001),(81,10),(85,6001)] (by decide+kernel) ?_
  conv=>whnf
  refine bp (by rw[hcr];omega) ?_
  conv=>whnf
  refine c7 av aE [jr n v a] rfl ?_
  conv=>whnf
  first|refine dn ?_|skip
  conv=>whnf
  refine bp lI ?_
  conv=>whnf
  refine di [jr n v a] rfl lI ?_
  refine L4 ?_
  refine Tg (.ptr 6001 0) rfl (fun K' h=>h) rfl ?_
  refine Tg (.ptr 6001 1) rfl (fun K' h=>h) rfl ?_
  refine DW (ℓ:=6001) (o:=1) (x:=.row 83 (c.rows.length+1) 2) (.inl rfl) rfl rfl rfl rfl rfl rfl rfl rfl rfl ?_
  refine QA ?_
  dsimp only
  refine Tj (Tk ?_)
  refine Tg (.ptr 6001 0) rfl (fun K' h=>h) rfl ?_
  refine Tg (.int .i64 c.nodes.length) rfl (fun K' h=>h) rfl ?_
  refine Ah (f:=57) (caps:=[]) (us:=[.ptr 6001 0, .int .i64 c.nodes.length]) rfl rfl ?_
  have hS:=ih (gw n i v a c) c.nodes.length hIn (by omega) (hlt hl1) (hW3 hl1)
  have e1:(gw n i v a c).rows=c.rows++[jr n v a]:=rfl
  have e2:(gw n i v a c).nodes=N3:=by rw[hq,hN0];rfl
  have e3:((gw n i v a c).left:Int)=(c.left:Int)-1:=by show((c.left-1:Nat):Int)=_;omega
  have e4:((gw n i v a c).lines:Int)=(c.lines:Int):=rfl
  have e5:(gw n i v a c).gave=false:=hcg
  rw[e1,e2,e3,e4,e5] at hS
  refine aj.call [(6001, .old 6001),(6002, .old 83),(6003, .old 1006)] (oJ n (c.rows++[jr n v a]) N3 c.lines ((c.left:Int)-1) false) 400 rfl (aa) (aa) hS ?_
  rintro u M' ⟨rfl,pc,hpc,rfl⟩
  obtain⟨d,hd⟩:∃d,d=ma n k (gw n i v a c) c.nodes.length:=⟨_,rfl⟩
  have hfin:=hfin hl1
  rw[<-hd] at hpc hfin⊢
  obtain⟨hdl,hdt,hfin⟩:=hfin
  rcases gT hpc with ⟨hp,rfl⟩|⟨x,hp,hx,rfl⟩|⟨ad,hp,rfl⟩
  ·cases hgv:d.gave
   ·refine⟨[(6001, .old 6001),(83, .old 6002),(1006, .old 6003),(1007, .old 6005)],[(6001, .box 134 (rL n d.rows 1007 d.nodes.length d.lines d.left .nilsl false)),(83, .dead),(1006, .dead),(1007, .row 217 aw bn d.nodes)], .tup [],rfl,(aa),trivial,?_⟩
    refine QA ?_
    dsimp only
    conv=>whnf
    refine nI ?_
    rw[tN]
    conv=>whnf
    refine yj trivial (by first|omega|(dsimp only;omega)) ?_
    conv=>whnf
    refine⟨(1,d.cut c.rows.length),bd.by_ [(6001, .old 6001),(6002, .old 6002),(6003, .old 6003),(1001, .old 1007)] _ 400 rfl (aa) (aa),⟨hdt,hp,hgv,?_⟩,by dsimp only;omega⟩
    exact .inr (.inl ⟨rfl,hl1,by rw[hd]⟩)
   ·refine⟨[(6001, .old 6001),(83, .old 6002),(1006, .old 6003),(1007, .old 6005)],[(6001, .box 134 (rL n d.rows 1007 d.nodes.length d.lines d.left .nilsl true)),(83, .dead),(1006, .dead),(1007, .row 217 aw bn d.nodes)], .tup [],rfl,(aa),trivial,?_⟩
    refine QA ?_
    dsimp only
    conv=>whnf
    refine nI ?_
    rw[tN]
    conv=>whnf
    rw[hfin (.inr hgv)]
    exact⟨rfl, .nilsl,by rw[q7,hp];rfl, .inr (.inr (.inr (by rw[show(d.cut c.rows.length).gave=true from hgv];repeat' (first|exact True.intro|exact rfl|(refine And.intro ?_ ?_)|((conv=>whnf);omega)|((conv=>whnf);simp only[List.length_append,List.length_cons,List.length_nil];done)|((conv=>whnf);simp only[List.length_append,List.length_cons,List.length_nil];omega)))))⟩
  ·refine⟨[(6001, .old 6001),(83, .old 6002),(1006, .old 6003),(1007, .old 6005)],[(6001, .box 134 (rL n d.rows 1007 d.nodes.length d.lines d.left (.sl 0 ak x) d.gave)),(83, .dead),(1006, .dead),(1007, .row 217 aw bn d.nodes)], .tup [],rfl,(aa),trivial,?_⟩
   refine QA ?_
   dsimp only
   conv=>whnf
   refine nI ?_
   rw[tN]
   conv=>whnf
   refine bp hx ?_
   conv=>whnf
   rw[hfin (.inl (by rw[hp];rfl))]
   exact⟨rfl, .sl 0 ak x,by rw[q7,hp];exact .inl ⟨hx,rfl⟩, .inr (.inr (.inr (aa)))⟩
  ·refine⟨[(6001, .old 6001),(83, .old 6002),(1006, .old 6003),(1007, .old 6005)],[(6001, .box 134 (rL n d.rows 1007 d.nodes.length d.lines d.left (.val (.slice (some ad) 0 0)) d.gave)),(83, .dead),(1006, .dead),(1007, .row 217 aw bn d.nodes)], .tup [],rfl,(aa),trivial,?_⟩
   refine QA ?_
   dsimp only
   conv=>whnf
   refine nI ?_
   rw[tN]
   conv=>whnf
   rw[hfin (.inl (by rw[hp];rfl))]
   exact⟨rfl, .val (.slice (some ad) 0 0),by rw[q7,hp];exact .inr ⟨rfl,ad,rfl⟩, .inr (.inr (.inr (aa)))⟩
 ·have hIn0:iC n b.nodes.length (gw n i v a b):=JF h ha hg hv har
  have hH:uR n i v a b0 b c:=by
   have hk1:=qW (n:=n) k hIn0
   rw[hb] at hk1
   have:=DN h ha hv har hbl (c0:=ma n k (gw n i v a b) (i+1)) hk1
   rw[hc,hb]
   exact this
  have hzero:c.left=0->d6 n k b i v a=c.give:=fun h=>Mb hal hbl hc hcp hcg h
  have hIn:iC n c.nodes.length (jC n i v a c b.rows):=Py h ha har hH hcp hcg
  obtain⟨q1,q2,q3⟩:=Ai h ha hH
  have hclm:=hH.lmx
  have hcln:=hH.len
  have hlt:c.left≠0->(jC n i v a c b.rows).left<k:=fun hl=>by show c.left-1<k;omega
  have hW3:c.left≠0->Fy (jC n i v a c b.rows):=fun hl=>Q7 h ha hH hW hl
  have hcl:c.rows.length=b.rows.length:=by rw[hcr]
  have hfin:c.left≠0->b.rows.length<=(ma n k (jC n i v a c b.rows) c.nodes.length).rows.length/\(ma n k (jC n i v a c b.rows) c.nodes.length).rows.take b.rows.length=b.rows/\(((ma n k (jC n i v a c b.rows) c.nodes.length).point.isSome=true\/(ma n k (jC n i v a c b.rows) c.nodes.length).gave=true)->d6 n k b i v a=(ma n k (jC n i v a c b.rows) c.nodes.length).cut b.rows.length):=fun hl=>by
   have:=DX (qW k hIn) (l:=b.rows) (r:=jA n v (a+1)) rfl
   exact⟨this.1,this.2,fun _=>JG hal hbl hc hcp hcg hl⟩
  have hfin2:c.left≠0->d6 n k b i v a=(ma n k (jC n i v a c b.rows) c.nodes.length).cut b.rows.length:=fun hl=>by exact JG hal hbl hc hcp hcg hl
  refine dQ (by dsimp only;simp only[List.length_cons,List.length_nil];omega) ?_
  conv=>whnf
  refine bp (by dsimp only;simp only[List.length_cons,List.length_nil];omega) ?_
  conv=>whnf
  have hO:=M3 n c.rows c.nodes c.lines c.left false (by omega) (by omega)
  obtain⟨N0,hN0⟩:∃N0,N0=c.nodes++[iW]:=⟨_,rfl⟩
  rw[<-hN0] at hO
  refine aj.call [(6001, .old 6001),(6002, .old 6002),(6003, .old 1001)] (MZ n c.rows c.nodes c.lines c.left false) 400 rfl (aa) (aa) hO ?_
  rintro u M' (⟨hl0,rfl,rfl⟩|⟨hl0,rfl,rfl⟩)
  ·refine⟨[(6001, .old 6001),(6002, .old 6002),(1001, .old 6003),(1006, .old 6005)],[(6001, .box 134 (rL n c.rows 1006 c.nodes.length c.lines c.left .nilsl true)),(6002, .dead),(1001, .dead),(1006, .row 217 aw bn c.nodes)], .int .i64 (-1),rfl,(aa),rfl,?_⟩
   conv=>whnf
   rw[hzero (by omega)]
   refine⟨rfl, .nilsl,?_, .inr (.inr (.inl (aa)))⟩
   show rM c.point .nilsl
   rw[hcp]
   rfl
  have hl1:c.left≠0:=by omega
  refine⟨[(6001, .old 6001),(6002, .old 6002),(1001, .old 6003),(1006, .old 6005)],[(6001, .box 134 (rL n c.rows 1006 N0.length c.lines (c.left-1) .nilsl false)),(6002, .dead),(1001, .dead),(1006, .row 217 aw bn N0)], .int .i64 c.nodes.length,rfl,(aa),rfl,?_⟩
  conv=>whnf
  refine fI ?_
  conv=>whnf
  have hln:N0.length=c.nodes.length+1:=by rw[hN0,List.length_append];rfl
  refine nI ?_
  rw[tN]
  conv=>whnf
  refine an (nV (N0.getD i aw) v) rfl ?_
  generalize hN1:N0.set i (nV (N0.getD i aw) v)=N1
  conv=>whnf
  refine an (nA (N1.getD i aw) a) rfl ?_
  generalize hN2:N1.set i (nA (N1.getD i aw) a)=N2
  conv=>whnf
  refine j9 (by dsimp only;omega) ?_
  conv=>whnf
  refine an (nR (N2.getD i aw) (c.nodes.length:Int)) rfl ?_
  generalize hN3:N2.set i (nR (N2.getD i aw) (c.nodes.length:Int))=N3
  obtain⟨hq,hq1,hq2,hq3⟩:=M4 (f:=fun x=>nR x (c.nodes.length:Int)) (by omega) hN1 hN2 hN3
  clear hN1 hN2 hN3
  conv=>whnf
  first|refine dI ?_|refine lP (by decide+kernel) ?_|refine lQ (by decide+kernel) ?_|refine CA [(76,6001),(81,10),(85,6001)] (by decide+kernel) ?_
  conv=>whnf
  refine bp (by rw[hcr];omega) ?_
  conv=>whnf
  refine c7 av aE [jA n v (a+1)] rfl ?_
  conv=>whnf
  first|refine dn ?_|skip
  conv=>whnf
  refine bp lI ?_
  conv=>whnf
  refine di [jA n v (a+1)] rfl lI ?_
  refine L4 ?_
  refine Tg (.ptr 6001 0) rfl (fun K' h=>h) rfl ?_
  refine Tg (.ptr 6001 1) rfl (fun K' h=>h) rfl ?_
  refine DW (ℓ:=6001) (o:=1) (x:=.row 83 (c.rows.length+1) 2) (.inl rfl) rfl rfl rfl rfl rfl rfl rfl rfl rfl ?_
  refine QA ?_
  dsimp only
  refine Tj (Tk ?_)
  refine Tg (.ptr 6001 0) rfl (fun K' h=>h) rfl ?_
  refine Tg (.int .i64 c.nodes.length) rfl (fun K' h=>h) rfl ?_
  refine Ah (f:=57) (caps:=[]) (us:=[.ptr 6001 0, .int .i64 c.nodes.length]) rfl rfl ?_
  have hS:=ih (jC n i v a c b.rows) c.nodes.length hIn (by omega) (hlt hl1) (hW3 hl1)
  have e1:(jC n i v a c b.rows).rows=c.rows++[jA n v (a+1)]:=(by rw[hcr];rfl)
  have e2:(jC n i v a c b.rows).nodes=N3:=by rw[hq,hN0];rfl
  have e3:((jC n i v a c b.rows).left:Int)=(c.left:Int)-1:=by show((c.left-1:Nat):Int)=_;omega
  have e4:((jC n i v a c b.rows).lines:Int)=(c.lines:Int):=rfl
  have e5:(jC n i v a c b.rows).gave=false:=hcg
  rw[e1,e2,e3,e4,e5] at hS
  refine aj.call [(6001, .old 6001),(6002, .old 83),(6003, .old 1006)] (oJ n (c.rows++[jA n v (a+1)]) N3 c.lines ((c.left:Int)-1) false) 400 rfl (aa) (aa) hS ?_
  rintro u M' ⟨rfl,pc,hpc,rfl⟩
  obtain⟨d,hd⟩:∃d,d=ma n k (jC n i v a c b.rows) c.nodes.length:=⟨_,rfl⟩
  have hfin:=hfin hl1
  have hfin2:=hfin2 hl1
  rw[<-hd] at hfin2
  rw[<-hd] at hpc hfin⊢
  obtain⟨hdl,hdt,hfin⟩:=hfin
  rcases gT hpc with ⟨hp,rfl⟩|⟨x,hp,hx,rfl⟩|⟨ad,hp,rfl⟩
  ·cases hgv:d.gave
   ·refine⟨[(6001, .old 6001),(83, .old 6002),(1006, .old 6003),(1007, .old 6005)],[(6001, .box 134 (rL n d.rows 1007 d.nodes.length d.lines d.left .nilsl false)),(83, .dead),(1006, .dead),(1007, .row 217 aw bn d.nodes)], .tup [],rfl,(aa),trivial,?_⟩
    refine QA ?_
    dsimp only
    conv=>whnf
    refine nI ?_
    rw[tN]
    conv=>whnf
    refine yj trivial (by first|omega|(dsimp only;omega)) ?_
    conv=>whnf
    refine⟨(2,d.cut b.rows.length),bd.by_ [(6001, .old 6001),(6002, .old 6002),(6003, .old 6003),(1001, .old 1007)] _ 400 rfl (aa) (aa),⟨hdt,hp,hgv,?_⟩,by dsimp only;omega⟩
    exact .inr (.inr ⟨rfl,hfin2.symm⟩)
   ·refine⟨[(6001, .old 6001),(83, .old 6002),(1006, .old 6003),(1007, .old 6005)],[(6001, .box 134 (rL n d.rows 1007 d.nodes.length d.lines d.left .nilsl true)),(83, .dead),(1006, .dead),(1007, .row 217 aw bn d.nodes)], .tup [],rfl,(aa),trivial,?_⟩
    refine QA ?_
    dsimp only
    conv=>whnf
    refine nI ?_
    rw[tN]
    conv=>whnf
    rw[hfin (.inr hgv)]
    exact⟨rfl, .nilsl,by rw[q7,hp];rfl, .inr (.inr (.inr (by rw[show(d.cut b.rows.length).gave=true from hgv];repeat' (first|exact True.intro|exact rfl|(refine And.intro ?_ ?_)|((conv=>whnf);omega)|((conv=>whnf);simp only[List.length_append,List.length_cons,List.length_nil];done)|((conv=>whnf);simp only[List.length_append,List.length_cons,List.length_nil];omega)))))⟩
  ·refine⟨[(6001, .old 6001),(83, .old 6002),(1006, .old 6003),(1007, .old 6005)],[(6001, .box 134 (rL n d.rows 1007 d.nodes.length d.lines d.left (.sl 0 ak x) d.gave)),(83, .dead),(1006, .dead),(1007, .row 217 aw bn d.nodes)], .tup [],rfl,(aa),trivial,?_⟩
   refine QA ?_
   dsimp only
   conv=>whnf
   refine nI ?_
   rw[tN]
   conv=>whnf
   refine bp hx ?_
   conv=>whnf
   rw[hfin (.inl (by rw[hp];rfl))]
   exact⟨rfl, .sl 0 ak x,by rw[q7,hp];exact .inl ⟨hx,rfl⟩, .inr (.inr (.inr (aa)))⟩
  ·refine⟨[(6001, .old 6001),(83, .old 6002),(1006, .old 6003),(1007, .old 6005)],[(6001, .box 134 (rL n d.rows 1007 d.nodes.length d.lines d.left (.val (.slice (some ad) 0 0)) d.gave)),(83, .dead),(1006, .dead),(1007, .row 217 aw bn d.nodes)], .tup [],rfl,(aa),trivial,?_⟩
   refine QA ?_
   dsimp only
   conv=>whnf
   refine nI ?_
   rw[tN]
   conv=>whnf
   rw[hfin (.inl (by rw[hp];rfl))]
   exact⟨rfl, .val (.slice (some ad) 0 0),by rw[q7,hp];exact .inr ⟨rfl,ad,rfl⟩, .inr (.inr (.inr (aa)))⟩
 ·refine j9 (by dsimp only;simp only[List.length_cons,List.length_nil];omega) ?_
  conv=>whnf
  rw[<-hc]
  refine⟨rfl, .nilsl,by rw[hcp];rfl, .inr (.inl ?_)⟩
  rw[hcg]
  exact(aa)
end
section
set_option maxRecDepth 100000
set_option maxHeartbeats 32000000
def ia (n k:Nat) (c:Br) (i:Nat):Br:=
 if kF c.rows then c
 else if¬z3 c.rows then c.give
 else match Fh c.rows.length n 5000 (ep n c.rows) with
  |none=>c.give
  |some (t,bad)=>
   if 0<=bad then
    match Ar n t bad.toNat with
    |none=>c.give
    |some d=>(l5 n i c d).1
   else if(ca n t c.rows.length).1<0 then(if jz (lZ n t c.rows.length) then{c with point:=some (lZ n t c.rows.length)} else c.give)
   else d6 n k c i (ca n t c.rows.length).1 (ca n t c.rows.length).2
theorem JI (n k:Nat) (b:Br) (i:Nat):ma n (k+1) b i=if(if i=0 then iK n b b.rows.length else(b,true)).2=false then(if i=0 then iK n b b.rows.length else(b,true)).1 else ia n k (if i=0 then iK n b b.rows.length else(b,true)).1 i:=by
 rw[ma]
 rfl
theorem Mc {n k:Nat} {b:Br} {i:Nat} (h:i≠0):ma n (k+1) b i=ia n k b i:=by
 rw[JI,if_neg h,if_neg (by simp)]
theorem eO.s {m n:Nat} {rows:List br} {t:b7} (h:eO m n rows t):oF n m t:=⟨h.bl,h.fl,h.cm,h.cn,h.dp,h.cb⟩
theorem eO.b {m n:Nat} {rows:List br} {t:b7} (h:eO m n rows t):Js m t:=⟨h.dp,fun i hi=>h.cb i 0 hi (by omega)⟩
theorem eO.bs {m n:Nat} {rows:List br} {t:b7} (h:eO m n rows t):∀i,i<m->0<=t.bas.getD i 0/\t.bas.getD i 0<(n+m:Nat):=fun i hi=>p6 h _ (List.mem_append_left _ (tv (l:=t.bas) 0 (by rw[h.bl];exact hi)))
theorem eO.fs {m n:Nat} {rows:List br} {t:b7} (h:eO m n rows t):∀i,i<n->0<=t.fre.getD i 0/\t.fre.getD i 0<(n+m:Nat):=fun i hi=>p6 h _ (List.mem_append_right _ (tv (l:=t.fre) 0 (by rw[h.fl];exact hi)))
theorem Aj {M:ac} (lm:aV) (L:List (Nat×aU)) (n:Nat) (hs:(fe lm L&&ee L lm)=true) (hm:qv lm n M L) (hh:∀ℓ t g m,(ℓ,aU.hdr t g m)∉L):cp (al lm) M (ac.ofL L):=by
 have h:=gK (M:=M) lm L (fun _=>none) (fun _=>none) n hs hm (fun ℓ t g m h=>absurd h (hh ℓ t g m)) ⟨fun x B' hB=>(by cases hB),fun x o hx=>(by cases hx),fun x y o hx=>(by cases hx),fun x o k hx=>(by cases hx)⟩
 have e1:bU lm (fun _=>none)=al lm:=by
  funext x
  unfold bU
  cases al lm x<;>rfl
 have e2:aY L (fun _=>none)=ac.ofL L:=by
  funext x
  unfold aY
  cases ac.ofL L x<;>rfl
 rw[e1,e2] at h
 exact h
def Pz (n:Nat) (c:Br):List (Nat×aU):=
 [(6001, .box 134 (Ti n 1000 c.rows.length 1001 c.nodes.length c.lines c.left .nilsl false)),(6002, .dead),(6003, .dead),(1000, .row 161 av aE c.rows),(1001, .row 217 aw bn c.nodes)]
def JX (rows:List br):List (Nat×aU):=[(1000, .row 161 av aE rows)]
def uo:aV:=[(7000, .old 1000)]
def l6:aV:=[(1000, .old 7000)]
theorem JJ (n:Nat) (c:Br):p9 (Pz n c)=true:=rfl
theorem M5 (n:Nat) (c:Br):cp (al uo) (ac.ofL (Pz n c)) (ac.ofL (wb c.rows)):=
 Aj uo (wb c.rows) 400 rfl (aa) (fun ℓ t g m h=>by simp[wb] at h)
theorem JK (n:Nat) (rows:List br) (t:b7):cp (bU (c6++l6) fun x=>(i4 20000 rows.length [] x).map (fun k=>10000+k)) (aO n t rows.length (-1) 10000 [] (wb rows) (aK t)) (aO n t rows.length (-1) 20000 [] (JX rows) (aK t)):=
 jw (E:=JX rows) l6 (fun k=>10000+k) (iX (by decide)) rfl rfl trivial rfl (aa) ⟨_,rfl,fun k _=>rfl⟩ (fun k hk=>db (a:=[]) rfl (iX (by decide)) hk) (fun k k' _ _ h=>Nat.add_left_cancel h) (fun k hk y hy=>by
  have:=fx (lm:=c6++l6) rfl hy
  omega)
theorem q8 {x ℓ:Nat} (h:al uo x=some (.old ℓ)):x=7000/\ℓ=1000:=by
 have:=aQ h
 simp only[uo,List.mem_cons,Prod.mk.injEq,List.not_mem_nil,or_false,LM.old.injEq] at this
 exact this
theorem M6 {x ℓ:Nat} {ψ:Nat->Option Nat} (h:al uo x=some (.old ℓ)):bU (c6++l6) ψ ℓ=some (.old x):=by
 obtain⟨rfl,rfl⟩:=q8 h
 rfl
theorem M7 {n:Nat} {c:Br} {ℓ:Nat} {y:LM} (h:bU (c6++l6) (fun x=>(i4 20000 c.rows.length [] x).map (fun k=>10000+k)) ℓ=some y):(∃x,al uo x=some (.old ℓ))\/ac.ofL (Pz n c) ℓ=none:=by
 unfold bU at h
 cases hf:al (c6++l6) ℓ with
 |some z=>
  have hm:=aQ hf
  simp only[c6,l6,List.cons_append,List.nil_append,List.mem_cons,Prod.mk.injEq,List.not_mem_nil,or_false] at hm
  rcases hm with ⟨rfl,_⟩|⟨rfl,_⟩|⟨rfl,_⟩|⟨rfl,_⟩|⟨rfl,_⟩
  ·exact .inr rfl
  ·exact .inr rfl
  ·exact .inr rfl
  ·exact .inr rfl
  ·exact .inl ⟨7000,rfl⟩
 |none=>
  rw[hf] at h
  dsimp only at h
  cases hs:i4 20000 c.rows.length [] ℓ with
  |none=>rw[hs] at h;cases h
  |some k=>
   have:=(bV (a:=[]) trivial hs).2
   exact .inr (dZ (JJ n c) (by rw[<-this];show 7005<=20000+k;omega))
theorem M8 {n:Nat} {c:Br} {ℓ:Nat} {y:LM} (h:al l6 ℓ=some y):(∃x,al uo x=some (.old ℓ))\/ac.ofL (Pz n c) ℓ=none:=by
 have hm:=aQ h
 simp only[l6,List.mem_cons,Prod.mk.injEq,List.not_mem_nil,or_false] at hm
 obtain⟨rfl,_⟩:=hm
 exact .inl ⟨7000,rfl⟩
theorem JL {M':ac} {rows:List br} (h:M' 7000=some (.row 161 av aE rows)):cp (al l6) M' (ac.ofL (JX rows)):=
 Aj l6 (JX rows) 400 rfl ⟨by show jx l6 400 (M' 7000) _;rw[h];rfl,trivial⟩ (fun ℓ t g m h=>by simp[JX] at h)
def JY (n:Nat) (c:Br) (t:b7):ac:=iH (aO n t c.rows.length (-1) 20000 [] (JX c.rows) (aK t)) (ac.ofL (Pz n c))
theorem Md {n:Nat} {c:Br} {t:b7} {k:Nat} (hk:k<c.rows.length):JY n c t (20000+k)=some (.row 3 0 ak (aK t k)):=by
 unfold JY iH
 rw[show aO n t c.rows.length (-1) 20000 [] (JX c.rows) (aK t) (20000+k)=some (.row 3 0 ak (aK t k)) from db (a:=[]) rfl (iX (by decide)) hk]
theorem Me {n:Nat} {c:Br} {t:b7} {x:Nat} (h1:7005<=x) (h2:x<20000\/20000+c.rows.length<=x):JY n c t x=none:=by
 unfold JY iH
 have e:aO n t c.rows.length (-1) 20000 [] (JX c.rows) (aK t) x=none:=by
  unfold aO aY
  rw[dZ (kQ rfl) h1]
  dsimp only
  unfold ij
  cases hs:i4 20000 c.rows.length [] x with
  |none=>rfl
  |some k=>
   have:=bV (a:=[]) trivial hs
   have e2:20000+k=x:=this.2
   omega
 rw[e]
 exact dZ (JJ n c) h1
def PS (m:Nat):Nat->Option LM:=bU (c6++[]) fun x=>(i4 9000 m [] x).map (eW 20000 [])
theorem M9 (n:Nat) (c:Br) (t:b7):cp (PS c.rows.length) (JY n c t) (aO n t c.rows.length (-1) 9000 [] [] (aK t)):=
 jw (M:=JY n c t) (E:=[]) [] (eW 20000 []) (iX (by decide)) rfl rfl trivial rfl (aa) ⟨_,rfl,fun k _=>rfl⟩ (fun k hk=>Md hk) (fun k k' h h' e=>ph (iX (p:=20000) (by decide)).1 h h' e)
  (fun k hk y hy=>by
   have:=fx (lm:=c6++[]) rfl hy
   have e:eW 20000 [] k=20000+k:=rfl
   omega)
theorem PB {m:Nat} {lab:Nat->Nat} {ℓ:Nat} {y:LM} (hm:m<=10000) (hy:bU c6 (x8 m lab) ℓ=some y):(∃x,PS m x=some (.old ℓ))\/∃k,ℓ=30000+k:=by
 unfold bU at hy
 cases hf:al c6 ℓ with
 |some z=>
  have hmem:=aQ hf
  unfold c6 at hmem
  simp only[List.mem_cons,Prod.mk.injEq,List.not_mem_nil,or_false] at hmem
  left
  rcases hmem with ⟨rfl,_⟩|⟨rfl,_⟩|⟨rfl,_⟩|⟨rfl,_⟩
  ·exact⟨7001,rfl⟩
  ·exact⟨7002,rfl⟩
  ·exact⟨7003,rfl⟩
  ·exact⟨7004,rfl⟩
 |none=>
  rw[hf] at hy
  dsimp only at hy
  unfold x8 at hy
  cases hb:(Nat.ble 20000 ℓ&&Nat.blt ℓ (20000+m)) with
  |true=>
   have:=oh.1 hb
   refine .inl ⟨9000+(ℓ-20000),?_⟩
   unfold PS
   rw[B7 (show ℓ-20000<m by omega)]
   congr 2
   omega
  |false=>
   rw[hb] at hy
   dsimp only at hy
   cases hs:i4 30000 m [] ℓ with
   |none=>rw[hs] at hy;cases hy
   |some k=>
    obtain⟨h1,h2⟩:=bV (a:=[]) trivial hs
    have h2:30000+k=ℓ:=h2
    exact .inr ⟨k,h2.symm⟩
theorem Na {n:Nat} {c:Br} {t:b7} {lab:Nat->Nat} {ℓ:Nat} {y:LM} (hm:c.rows.length<=10000) (hy:bU c6 (x8 c.rows.length lab) ℓ=some y):(∃x,PS c.rows.length x=some (.old ℓ))\/JY n c t ℓ=none:=by
 rcases PB hm hy with h|⟨k,rfl⟩
 ·exact .inl h
 ·exact .inr (Me (by omega) (by omega))
def Su (n:Nat) (c:Br) (t0 t:b7) (bad:Int):ac:=iH (aY (cR n t c.rows.length bad 30000 []) (DS c.rows.length (aK t))) (JY n c t0)
theorem x5 {n:Nat} {c:Br} {t0 t:b7} {bad:Int} (hm:c.rows.length<=10000):mZ (Su n c t0 t bad) n c.rows.length t bad (fun k=>30000+k):=by
 refine⟨rfl,rfl,rfl,⟨_,rfl,fun k _=>rfl⟩,fun k hk=>?_,fun k k' _ _ h=>Nat.add_left_cancel h,fun k _=>.inr (by omega)⟩
 unfold Su iH
 rw[Jx hm hk]
def Nb (x:Nat):Bool:=Nat.ble 7001 x
theorem kS {n:Nat} {c:Br} {t0 t:b7} {bad:Int} (hm:c.rows.length<=10000):mZ (iL Nb (Su n c t0 t bad)) n c.rows.length t bad (fun k=>30000+k):=
 (x5 hm).only rfl rfl rfl rfl fun k _=>by unfold Nb;rw[Nat.ble_eq];omega
def Tf (n:Nat) (c:Br) (u:AV) (M:ac):Prop:=u= .tup []/\∃pc,rM c.point pc/\(M=ac.ofL (sC n c.rows c.nodes c.lines c.left pc c.gave)\/M=ac.ofL (Fq n c.rows c.nodes c.lines c.left pc c.gave))
theorem aj.toP {P:Program} {f:FuncId} {args:List AV} {n:Nat} {L0:List (Nat×aU)} (hL:L0.map (·.1)=[6001,6002,6003]) {c:Br} (h:aj P f args (ac.ofL L0) (Tf n c)):aj P f args (ac.ofL L0) (PR n c):=by
 refine aj.renorm 400 (R:=fun u M=>u= .tup []/\∃pc,rM c.point pc/\bD (L' 6005) 400 M (Fq n c.rows c.nodes c.lines c.left pc c.gave)) ?_ ?_
 case refine_2=>
  rintro u M' ⟨rfl,pc,hpc,hM⟩
  exact⟨_,_, .tup [],(by rw[hL];rfl),hM,trivial,rfl,pc,hpc,rfl⟩
 refine h.after fun u M' hu=>?_
 obtain⟨rfl,pc,hpc,hM|hM⟩:=hu
 ·subst hM
  refine⟨_,Wk.leakBox (ℓ:=6004) (ℓb:=6001) rfl rfl,rfl,pc,hpc,?_⟩
  rcases gT hpc with ⟨_,rfl⟩|⟨x,_,_,rfl⟩|⟨ad,_,rfl⟩
  ·exact(aa)
  ·exact(aa)
  ·exact(aa)
 ·subst hM
  refine⟨_,Wk.refl _,rfl,pc,hpc,?_⟩
  rcases gT hpc with ⟨_,rfl⟩|⟨x,_,_,rfl⟩|⟨ad,_,rfl⟩
  ·exact(aa)
  ·exact(aa)
  ·exact(aa)
theorem JM {n:Nat} {t:b7} {r:Nat} {d:l8} (h:Ar n t r=some d) (hn:n<=1000):Ri d:=by
 unfold Ar at h
 split at h
 ·cases h
 ·have e:=(Option.some.inj h).symm
  subst e
  have:=sy n t r n
  unfold Ri vZ
  simp only[List.length_map]
  omega
theorem JN {n m:Nat} {t:b7} (hB:Js m t):∀k,k<=m->-1073741824<=(ca n t k).2/\(ca n t k).2<=1073741824
 |0,_=>by rw[ca];dsimp only;omega
 |k+1,hk=>by
  have ih:=JN (n:=n) hB k (by omega)
  have hc:=hB.cb k (by omega)
  rw[ca]
  split
  ·dsimp only
   have:=Int.natAbs_tdiv_le_natAbs (cl t k 0) t.den
   omega
  ·exact ih
end
end Go.Proofs.YtekmminpfhacpaaGreatDoor
