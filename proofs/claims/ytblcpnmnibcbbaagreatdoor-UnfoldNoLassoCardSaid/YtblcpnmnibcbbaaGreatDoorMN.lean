import Derived.Test.YtblcpnmnibcbbaaGreatDoorM6
set_option linter.unusedVariables false
set_option linter.unusedSimpArgs false
namespace Go.Proofs.YtblcpnmnibcbbaaGreatDoor
set_option maxRecDepth 100000
set_option maxHeartbeats 16000000
def wP (a b d e:Nat) (c:ap):AV:=.agg [.row a c.shape.length 1, .row b c.states.length 1, .int .i64 c.correct, .row d c.sent.length 1, .row e c.faulty.length 1, .int .i64 c.value]
def eH (c:ap):AV:=wP 1001 1002 1003 1004 c
def eW (c:ap):List (Nat×bj):=[(1001,cH c.shape),(1002,cH c.states),(1003,cH c.sent),(1004,cH c.faulty)]
def kD (a b d e:Nat):c9:=[(1001, .old a),(1002, .old b),(1003, .old d),(1004, .old e)]
def Gd (a b d e:Nat) (c:ap) (M:ah):Prop:=M a=some (cH c.shape)/\M b=some (cH c.states)/\M d=some (cH c.sent)/\M e=some (cH c.faulty)
def IZ (a b d e:Nat) (c:ap):AV->ah->Prop:=fun u M=>u=wP a b d e c/\Gd a b d e c M
def Jl (a b d e:Nat) (c:ap) (n:Int):AV->ah->Prop:=fun u M=>u= .tup [wP a b d e c, .int .i64 n]/\Gd a b d e c M
theorem HM {a b d e:Nat} {c:ap} {M:ah} (h:Gd a b d e c M):dS (kD a b d e) 400 M (eW c):=by
 obtain⟨h1,h2,h3,h4⟩:=h
 refine⟨?_,?_,?_,?_,trivial⟩
 ·show jR _ 400 (M a) _;rw[h1];rfl
 ·show jR _ 400 (M b) _;rw[h2];rfl
 ·show jR _ 400 (M d) _;rw[h3];rfl
 ·show jR _ 400 (M e) _;rw[h4];rfl
theorem fN {a b d e:Nat} {c:ap}:∀u M',IZ a b d e c u M'->dS (kD a b d e) 400 M' (eW c)/\kR (kD a b d e) 400 u (eH c):=by
 rintro _ M' ⟨rfl,h⟩
 exact⟨HM h,by simp[kR,g8,kD,aQ,wP,eH]⟩
theorem I0 {a b d e:Nat} {c:ap} {m:Int}:∀u M',Jl a b d e c m u M'->dS (kD a b d e) 400 M' (eW c)/\kR (kD a b d e) 400 u (.tup [eH c, .int .i64 m]):=by
 rintro _ M' ⟨rfl,h⟩
 exact⟨HM h,by simp[kR,g8,kD,aQ,wP,eH]⟩
theorem s9 {ℓ a:Nat} {l:List Int}:∀u M',(u= .row a l.length 1/\M' a=some (cH l))->dS [(ℓ, .old a)] 400 M' [(ℓ,cH l)]/\kR [(ℓ, .old a)] 400 u (.row ℓ l.length 1):=by
 rintro _ M' ⟨rfl,h⟩
 constructor
 ·simp[dS,aQ,jR,h,cH]
 ·simp[kR,aQ]
theorem cL {P:Program} {tt:TT} {all r:List Oper} {fr:List AV} {M:ah} {K:List AV->ah->Prop} {t ty:TypeId} {ps:String} {af:Array Edge} {a b:Operand} {ℓ j:Nat} {v:Int} {rt:TypeId} {l:List Int} {i:TI}
  (ha:cm fr a= .rel ℓ j 0) (hb:cm fr b= .int .i64 v) (ht:tt.find t=some i) (hi:i.size=1) (hM:M ℓ=some (.row rt (0:Int) aD l)) (hk:dq P tt none all r fr (M.set ℓ (.row rt 0 aD (l.set j v))) K):
  dq P tt none all ({dst:=none,op:=.store t a b,type:=ty,pos:=ps,after:=af,guard:=none}::r) fr M K:=by
 simp only[dq]
 rw[bB]
 simp only[gv,aJ,List.map_cons,List.map_nil,ha,hb,bf,sB,dQ,bK,ht,hi,dp,hM,ca]
 exact ak v rfl hk
theorem gW (c:ap) (hw:aX c=false):ar Tryz.prog 79 [.agg (aY c)] (ah.ofL []) (IZ 5 9 13 17 c):=by
 have hc:=aG hw
 refine ar.intro ab ac [] Tryz.func79 rfl (by decide) ?_
 conv=>whnf
 refine Dx ?_
 conv=>whnf
 refine nI ?_
 conv=>whnf
 refine nI ?_
 conv=>whnf
 refine nI ?_
 conv=>whnf
 refine nI ?_
 conv=>whnf
 exact⟨rfl,rfl,rfl,rfl,rfl⟩
theorem e8 (l:List Int) (hl:l.length<=1000000):ar Tryz.prog 59 [.sl 0 aD l] (ah.ofL []) (fun u M=>u= .row 5 l.length 1/\M 5=some (cH l)):=by
 refine ar.intro ab ac [] Tryz.func59 rfl (by decide) ?_
 conv=>whnf
 refine c8 0 aD [] rfl ?_
 conv=>whnf
 refine eC _ rfl (by simp only[List.length_nil];omega) ?_
 conv=>whnf
 exact⟨by show AV.row 5 (0+l.length) 1=_;rw[Nat.zero_add],rfl⟩
theorem gj (c:ap) (hw:aX c=false):ar Tryz.prog 67 [.agg (aY c)] (ah.ofL []) (IZ 1001 1002 1003 1004 c):=by
 have hc:=aG hw
 refine ar.intro ab ac [] Tryz.func67 rfl (by decide) ?_
 conv=>whnf
 refine am rfl ?_
 conv=>whnf
 refine dG (by decide+kernel) ?_
 conv=>whnf
 refine cu 400 [(1001, .old 5)] [(1001,cH c.shape)] (.row 1001 c.shape.length 1) (e8 c.shape (by omega)) (ai) rfl rfl s9 ?_
 conv=>whnf
 refine cu 400 [(1002, .old 5)] [(1002,cH c.states)] (.row 1002 c.states.length 1) (e8 c.states (by omega)) (ai) rfl rfl s9 ?_
 conv=>whnf
 refine cu 400 [(1003, .old 5)] [(1003,cH c.sent)] (.row 1003 c.sent.length 1) (e8 c.sent (by omega)) (ai) rfl rfl s9 ?_
 conv=>whnf
 refine cu 400 [(1004, .old 5)] [(1004,cH c.faulty)] (.row 1004 c.faulty.length 1) (e8 c.faulty (by omega)) (ai) rfl rfl s9 ?_
 conv=>whnf
 exact⟨rfl,rfl,rfl,rfl,rfl⟩
def lG (c:ap) (r:cY) (x:be) (j:Nat):Int:=if(j:Int)=x.process then r.dst else if(r.kind=2\/r.kind=5)/\(j:Int)=x.partner then r.pto else if r.kind=3 then r.response.getD (c.states.getD j 0).toNat 0 else c.states.getD j 0
def fD (c:ap) (r:cY) (x:be):List Int:=(List.range c.states.length).map (lG c r x)
def aL (l:List Int):List Int->List Int
 |[]=>l
 |m::ms=>aL (l.set m.toNat (l.getD m.toNat 0+1)) ms
theorem p9:∀(ms:List Int) (l:List Int) (m:Int),aL l (ms++[m])=(aL l ms).set m.toNat ((aL l ms).getD m.toNat 0+1)
 |[],_,_=>rfl
 |a::ms,l,m=>p9 ms _ m
theorem aE {l ms:List Int} {k:Nat} (h:k<ms.length):aL l (ms.take (k+1))=(aL l (ms.take k)).set (ms.getD k 0).toNat ((aL l (ms.take k)).getD (ms.getD k 0).toNat 0+1):=by
 have e:ms.getD k 0=ms[k]:=by rw[gD,gL h];rfl
 rw[List.take_succ_eq_append_getElem h,<-e,p9]
theorem bq:∀(ms l:List Int),(aL l ms).length=l.length
 |[],_=>rfl
 |a::ms,l=>by rw[aL,bq ms];simp
theorem aM:∀(ms l:List Int) (b:Int),(∀j,0<=l.getD j 0/\l.getD j 0<=b)->∀j,0<=(aL l ms).getD j 0/\(aL l ms).getD j 0<=b+ms.length
 |[],l,b,h,j=>by have:=h j;simp only[aL,List.length_nil];omega
 |a::ms,l,b,h,j=>by
  have:=aM ms (l.set a.toNat (l.getD a.toNat 0+1)) (b+1) (fun i=>by
   have h1:=h i
   have h2:=h a.toNat
   rw[ax]
   split<;>omega) j
  rw[aL,List.length_cons]
  omega
theorem aN {l:List Int} (h:jT l 1048577):∀j,0<=l.getD j 0/\l.getD j 0<=1048576:=fun j=>by
 by_cases hj:j<l.length
 ·have:=h j hj;omega
 ·rw[gD,List.getElem?_eq_none (by omega)]
  exact⟨by decide,by decide⟩
def Ge (l ms:List Int):Prop:=∀k,k<ms.length->(aL l (ms.take (k+1))).getD (ms.getD k 0).toNat 0<=1048576
def cp (c:ap) (r:cY) (x:be):ap:=⟨c.shape,fD c r x,c.correct,if x.process<c.correct then aL c.sent r.send else c.sent,if x.process<c.correct then c.faulty else aL c.faulty r.send,if r.write=-1 then c.value else r.write⟩
def bh (c:ap) (r:cY) (x:be):Prop:=if x.process<c.correct then Ge c.sent r.send else Ge c.faulty r.send
noncomputable instance decAp (c:ap) (r:cY) (x:be):Decidable (bh c r x):=Classical.propDecidable _
theorem bT (c:ap) (r:cY) (x:be):(fD c r x).length=c.states.length:=by simp[fD]
theorem dv {c:ap} {r:cY} {x:be} {l:List Int} (hl:l.length=c.states.length) (h:∀j,j<c.states.length->l.getD j 0=lG c r x j):l=fD c r x:=mn hl h
theorem gi.send {p:aq} {r:cY} (h:gi p r):jT r.send p.messages.length:=by
 by_cases k1:r.kind=1
 ·have:=h.kin
  unfold dH at this
  rw[if_pos k1] at this
  exact(oE (cd this (cO r.send p.messages.length) (by simp))).1
 ·have hs:=h.sur
  unfold jz at hs
  intro j hj
  omega
theorem gi.resp {p:aq} {r:cY} (h:gi p r) (hk:r.kind=3):r.response.length=p.states.length/\jT r.response p.states.length:=by
 have:=h.kin
 unfold dH at this
 rw[if_neg (by omega),if_neg (by omega),if_pos hk] at this
 have:=cd this (kz r.response p.states.length) (by simp)
 unfold kz at this
 by_cases h1:(r.response.length:Int)≠p.states.length
 ·rw[if_pos h1] at this;omega
 ·rw[if_neg h1] at this
  by_cases h2:jT r.response p.states.length
  ·exact⟨by omega,h2⟩
  ·rw[if_neg h2] at this;omega
theorem ta {p:aq} (h:bC p=0):0<=p.fault/\p.fault<=3:=by
 unfold bC at h
 by_cases h1:¬cR p.name
 ·rw[if_pos h1] at h;omega
 rw[if_neg h1] at h
 by_cases h2:p.topology<1\/4<p.topology\/p.fault<0\/3<p.fault
 ·rw[if_pos h2] at h;omega
 ·omega
def nz (l:List ap) (e:Int):AV:=.tup [.sl aA aY l, .int .i64 e]
def iI (l:List ap):bj:=.row 38 aA aY l
def Jm (v:AV):AV->Prop:=fun u=>u=v\/∃e,u= .tup [.nilsl, .int .i64 e]/\v=nz [] e
theorem aa.rp {f:FuncId} {args:List AV} {v:AV} (hf:∃l e,v=nz l e) (h:aa Tryz.prog f args (Jm v)):aa Tryz.prog f args (fun u=>u=v):=by
 obtain⟨l,e,rfl⟩:=hf
 refine aa.sub h ?_
 rintro u (rfl|⟨e',rfl,h2⟩)
 ·exact⟨_,rfl,ai,rfl⟩
 ·rw[h2];exact⟨_,rfl,ai,rfl⟩
end Go.Proofs.YtblcpnmnibcbbaaGreatDoor
