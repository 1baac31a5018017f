import Derived.Test.YtokjgegkhlkopaaGreatDoorMG
set_option linter.unusedVariables false
set_option linter.unusedSimpArgs false
namespace Go.Proofs.YtokjgegkhlkopaaGreatDoor
set_option maxRecDepth 100000
set_option maxHeartbeats 16000000
def uw (p:ao) (n f:Nat):Nat->List az
 |0=>[]
 |k+1=>uw p n f k++(if kA p ⟨n,k,f⟩ then[⟨n,k,f⟩] else[])
def sD (p:ao) (n:Nat):Nat->List az
 |0=>[]
 |k+1=>sD p n k++uw p n k (n+1)
def Dm (p:ao) (n:Nat):List az:=sD p n (n+1)
def oB (p:ao):Nat->List az
 |0=>[]
 |k+1=>oB p k++Dm p (k+1)
theorem v7 (p:ao) (n f:Nat):∀k,(uw p n f k).length<=k
 |0=>by simp[uw]
 |k+1=>by
  have:=v7 p n f k
  simp only[uw,List.length_append]
  split<;>simp<;>omega
theorem ov (p:ao) (n:Nat):∀k,(sD p n k).length<=k*(n+1)
 |0=>by simp[sD]
 |k+1=>by
  have:=ov p n k
  have:=v7 p n k (n+1)
  simp only[sD,List.length_append]
  rw[Nat.add_mul]
  omega
theorem ow (p:ao):∀k,k<=8->(oB p k).length<=k*81
 |0,_=>by simp[oB]
 |k+1,h=>by
  have h1:=ow p k (by omega)
  have h2:=ov p (k+1) (k+1+1)
  have h3:(k+1+1)*(k+1+1)<=9*9:=Nat.mul_le_mul (by omega) (by omega)
  simp only[oB,Dm,List.length_append]
  omega
theorem Bp {p:ao} {n f:Nat} {z:az}:∀{k:Nat},z∈uw p n f k->kA p z/\z.n=n
 |0,h=>by simp[uw] at h
 |k+1,h=>by
  simp only[uw,List.mem_append] at h
  rcases h with h|h
  ·exact Bp h
  ·split at h
   ·rename_i ha
    rw[List.mem_singleton] at h
    subst h
    exact⟨ha,rfl⟩
   ·cases h
theorem Bq {p:ao} {n:Nat} {z:az}:∀{k:Nat},z∈sD p n k->kA p z/\z.n=n
 |0,h=>by simp[sD] at h
 |k+1,h=>by
  simp only[sD,List.mem_append] at h
  rcases h with h|h
  ·exact Bq h
  ·exact Bp h
theorem Br {p:ao} {z:az}:∀{k:Nat},z∈oB p k->kA p z/\1<=z.n/\z.n<=k
 |0,h=>by simp[oB] at h
 |k+1,h=>by
  simp only[oB,List.mem_append] at h
  rcases h with h|h
  ·have:=Br h
   exact⟨this.1,this.2.1,by omega⟩
  ·have:=Bq h
   refine⟨this.1,?_⟩
   rw[this.2]
   omega
theorem F8 {p:ao} {q:bn} {z:az} {k:Nat} (hv:cq p q=0) (hk:k<=8) (h:z∈oB p k):dB p q z=0:=by
 obtain⟨h1,h2,h3⟩:=Br h
 unfold dB
 rw[if_neg (by omega)]
 unfold cT
 have h4:bD p=0:=by
  by_cases hh:bD p=0
  ·exact hh
  ·exfalso
   unfold cq at hv
   rw[if_pos hh] at hv
   exact hh hv
 rw[if_neg (by omega),if_neg (by simpa using h1),if_neg (by omega)]
def CZ (l:List az):aX:=.row 32 fF b7 l
theorem F9 {p:ao} {n f t:Nat} {A:List az}:A++uw p n f (t+1)=A++uw p n f t++(if kA p ⟨n,t,f⟩ then[⟨n,t,f⟩] else[]):=by
 simp only[uw,List.append_assoc]
theorem Om (p:ao) {n f t:Nat} (hn:n<=8) (hf:f<=n) (ht:t<=n+1):(sD p n f++uw p n f t).length<=100:=by
 have h1:=ov p n f
 have h2:=v7 p n f t
 have h3:f*(n+1)<=8*9:=Nat.mul_le_mul (by omega) (by omega)
 rw[List.length_append]
 omega
theorem K4 (p:ao) (n:Nat) (hp:¬b9 p) (hv:bD p=0) (hn:1<=n/\n<=8):ae Tryz.prog 62 [.agg (bf p), .int .i64 (n:Int)] (fun u=>u= .tup [.sl fF b7 (Dm p n), .int .i64 0]):=by
 have hV:=jU p (iO hp)
 rw[hv] at hV
 refine ae.intro ab ac Tryz.func62 rfl (by decide) ?_;(conv=>whnf)
 refine am rfl ?_
 conv=>whnf
 (refine oP (hV) ?_;conv=>whnf)
 refine fI ?_
 conv=>whnf
 refine fI ?_
 conv=>whnf
 refine fI ?_
 conv=>whnf
 refine aE.loopF ab ac (fun f:Nat=>f<=n+1) (fun f=>[(8, .int .i64 (f:Int)),(7, .row 1000 (sD p n f).length 3)]) (fun f=>[(1000,CZ (sD p n f))]) (fun f=>n+1-f) 0 (Nat.zero_le _) ?_;conv=>whnf
 refine⟨aM.by_ [(1000, .nil 3)] _ 400 rfl (aa) (aa),?_⟩
 rintro f hf
 conv=>whnf
 refine ah ?_ ?_<;>(intro g1;conv=>whnf)
 ·refine aE.loopF ab ac (fun t:Nat=>t<=n+1) (fun t=>[(9, .int .i64 (t:Int)),(7, .row 1000 (sD p n f++uw p n f t).length 3)]) (fun t=>[(1000,CZ (sD p n f++uw p n f t))]) (fun t=>n+1-t) 0 (Nat.zero_le _) ?_;conv=>whnf
  have e0:sD p n f++uw p n f 0=sD p n f:=by simp[uw]
  refine⟨by rw[e0];exact sI,?_⟩
  rintro t ht
  have hB:=Om p hn.2 (show f<=n by omega) ht
  conv=>whnf
  refine ah ?_ ?_<;>(intro g2;conv=>whnf)
  ·have hup:=F9 (p:=p) (n:=n) (f:=f) (t:=t) (A:=sD p n f)
   refine dC (Mm p ⟨n,t,f⟩ hp (kB hv)) (fun _=>?_) (fun _=>?_)<;>(conv=>whnf)
   ·rename_i ha
    rw[if_pos ha] at hup
    refine cA fF b7 [⟨n,t,f⟩] rfl ?_
    conv=>whnf
    refine cB [⟨n,t,f⟩] rfl lI ?_
    conv=>whnf
    repeat' ((first|refine nI ?_|refine aI ?_|refine tI ?_|refine fI ?_|fail);conv=>whnf)
    refine⟨t+1,?_,by omega,by dsimp only;omega⟩
    dsimp only
    rw[hup]
    exact aM.by_ [(1000, .old 42)] _ 400 rfl (aa) (aa)
   ·rename_i ha
    rw[if_neg ha,List.append_nil] at hup
    repeat' ((first|refine nI ?_|refine aI ?_|refine tI ?_|refine fI ?_|fail);conv=>whnf)
    refine⟨t+1,?_,by omega,by dsimp only;omega⟩
    dsimp only
    rw[hup]
    exact sI
  ·obtain rfl:t=n+1:=by omega
   repeat' ((first|refine nI ?_|refine aI ?_|refine tI ?_|refine fI ?_|fail);conv=>whnf)
   refine⟨f+1,?_,by omega,by dsimp only;omega⟩
   dsimp only
   exact sI
 ·obtain rfl:f=n+1:=by omega
  exact⟨rfl,rfl⟩
theorem K5 (p:ao) (n:Nat) (hp:¬b9 p) (hv:bD p=0) (hn:1<=n/\n<=8):ae Tryz.prog 67 [.agg (bf p), .int .i64 (n:Int)] (fun u=>u= .tup [.sl fF b7 (Dm p n), .int .i64 0]):=by
 have hV:=o0 p (iO hp)
 rw[hv] at hV
 refine ae.intro ab ac Tryz.func67 rfl (by decide) ?_;(conv=>whnf)
 refine am rfl ?_
 conv=>whnf
 (refine oP (hV) ?_;conv=>whnf)
 refine fI ?_
 conv=>whnf
 refine dC (bm _ _ _) (fun _=>?_) (fun _=>?_)<;>(conv=>whnf)
 case refine_2=>
  rename_i hw
  exact absurd ⟨by omega,by omega⟩ hw
 refine aE.loopF ab ac (fun f:Nat=>f<=n+1) (fun f=>[(8, .int .i64 (f:Int)),(7, .row 1000 (sD p n f).length 3)]) (fun f=>[(1000,CZ (sD p n f))]) (fun f=>n+1-f) 0 (Nat.zero_le _) ?_;conv=>whnf
 refine⟨aM.by_ [(1000, .nil 3)] _ 400 rfl (aa) (aa),?_⟩
 rintro f hf
 conv=>whnf
 refine ah ?_ ?_<;>(intro g1;conv=>whnf)
 ·refine aE.loopF ab ac (fun t:Nat=>t<=n+1) (fun t=>[(9, .int .i64 (t:Int)),(7, .row 1000 (sD p n f++uw p n f t).length 3)]) (fun t=>[(1000,CZ (sD p n f++uw p n f t))]) (fun t=>n+1-t) 0 (Nat.zero_le _) ?_;conv=>whnf
  have e0:sD p n f++uw p n f 0=sD p n f:=by simp[uw]
  refine⟨by rw[e0];exact sI,?_⟩
  rintro t ht
  have hB:=Om p hn.2 (show f<=n by omega) ht
  conv=>whnf
  refine ah ?_ ?_<;>(intro g2;conv=>whnf)
  ·have hup:=F9 (p:=p) (n:=n) (f:=f) (t:=t) (A:=sD p n f)
   refine dC (px p ⟨n,t,f⟩ hp (kB hv)) (fun _=>?_) (fun _=>?_)<;>(conv=>whnf)
   ·rename_i ha
    rw[if_pos ha] at hup
    refine cA fF b7 [⟨n,t,f⟩] rfl ?_
    conv=>whnf
    refine cB [⟨n,t,f⟩] rfl lI ?_
    conv=>whnf
    repeat' ((first|refine nI ?_|refine aI ?_|refine tI ?_|refine fI ?_|fail);conv=>whnf)
    refine⟨t+1,?_,by omega,by dsimp only;omega⟩
    dsimp only
    rw[hup]
    exact aM.by_ [(1000, .old 39)] _ 400 rfl (aa) (aa)
   ·rename_i ha
    rw[if_neg ha,List.append_nil] at hup
    repeat' ((first|refine nI ?_|refine aI ?_|refine tI ?_|refine fI ?_|fail);conv=>whnf)
    refine⟨t+1,?_,by omega,by dsimp only;omega⟩
    dsimp only
    rw[hup]
    exact sI
  ·obtain rfl:t=n+1:=by omega
   repeat' ((first|refine nI ?_|refine aI ?_|refine tI ?_|refine fI ?_|fail);conv=>whnf)
   refine⟨f+1,?_,by omega,by dsimp only;omega⟩
   dsimp only
   exact sI
 ·obtain rfl:f=n+1:=by omega
  exact⟨rfl,rfl⟩
theorem K6 (p:ao) (m:Int) (hp:¬b9 p) (hv:bD p=0) (hm:m<=8):ae Tryz.prog 35 [.agg (bf p), .int .i64 m] (fun u=>u= .sl fF b7 (oB p m.toNat)):=by
 refine ae.intro ab ac Tryz.func35 rfl (by decide) ?_;(conv=>whnf)
 refine am rfl ?_
 conv=>whnf
 refine aE.loopF ab ac (fun k:Nat=>k<=m.toNat) (fun k=>[(6, .int .i64 ((k:Int)+1)),(5, .row 1000 (oB p k).length 3)]) (fun k=>[(1000,CZ (oB p k))]) (fun k=>m.toNat-k) 0 (Nat.zero_le _) ?_;conv=>whnf
 refine⟨aM.by_ [(1000, .nil 3)] _ 400 rfl (aa) (aa),?_⟩
 rintro k hk
 conv=>whnf
 refine ah ?_ ?_<;>(intro g1;conv=>whnf)
 ·have h1:=ow p k (by omega)
  have h2:=ov p (k+1) (k+1+1)
  have h3:(k+1+1)*(k+1+1)<=9*9:=Nat.mul_le_mul (by omega) (by omega)
  have hN:(Dm p (k+1)).length<=100:=by unfold Dm;omega
  rw[show((k:Int)+1)=((k+1:Nat):Int) by omega]
  (refine oP (K4 p (k+1) hp hv ⟨by omega,by omega⟩) ?_;conv=>whnf)
  refine cB (Dm p (k+1)) rfl (by show((oB p k).length+(Dm p (k+1)).length)*24<=140737488355328;omega) ?_
  conv=>whnf
  repeat' ((first|refine nI ?_|refine aI ?_|refine tI ?_|refine fI ?_|fail);conv=>whnf)
  refine⟨k+1,?_,by omega,by dsimp only;omega⟩
  dsimp only
  rw[oB]
  exact aM.by_ [(1000, .old 22)] _ 400 rfl (aa) (aa)
 ·obtain rfl:k=m.toNat:=by omega
  exact⟨rfl,rfl⟩
theorem K7 (p:ao) (m:Int) (hp:¬b9 p) (hv:bD p=0) (hm:m<=8):ae Tryz.prog 37 [.agg (bf p), .int .i64 m] (fun u=>u= .sl fF b7 (oB p m.toNat)):=by
 refine ae.intro ab ac Tryz.func37 rfl (by decide) ?_;(conv=>whnf)
 refine am rfl ?_
 conv=>whnf
 refine aE.loopF ab ac (fun k:Nat=>k<=m.toNat) (fun k=>[(6, .int .i64 ((k:Int)+1)),(5, .row 1000 (oB p k).length 3)]) (fun k=>[(1000,CZ (oB p k))]) (fun k=>m.toNat-k) 0 (Nat.zero_le _) ?_;conv=>whnf
 refine⟨aM.by_ [(1000, .nil 3)] _ 400 rfl (aa) (aa),?_⟩
 rintro k hk
 conv=>whnf
 refine ah ?_ ?_<;>(intro g1;conv=>whnf)
 ·have h1:=ow p k (by omega)
  have h2:=ov p (k+1) (k+1+1)
  have h3:(k+1+1)*(k+1+1)<=9*9:=Nat.mul_le_mul (by omega) (by omega)
  have hN:(Dm p (k+1)).length<=100:=by unfold Dm;omega
  rw[show((k:Int)+1)=((k+1:Nat):Int) by omega]
  (refine oP (K5 p (k+1) hp hv ⟨by omega,by omega⟩) ?_;conv=>whnf)
  refine cB (Dm p (k+1)) rfl (by show((oB p k).length+(Dm p (k+1)).length)*24<=140737488355328;omega) ?_
  conv=>whnf
  repeat' ((first|refine nI ?_|refine aI ?_|refine tI ?_|refine fI ?_|fail);conv=>whnf)
  refine⟨k+1,?_,by omega,by dsimp only;omega⟩
  dsimp only
  rw[oB]
  exact aM.by_ [(1000, .old 22)] _ 400 rfl (aa) (aa)
 ·obtain rfl:k=m.toNat:=by omega
  exact⟨rfl,rfl⟩
end Go.Proofs.YtokjgegkhlkopaaGreatDoor
