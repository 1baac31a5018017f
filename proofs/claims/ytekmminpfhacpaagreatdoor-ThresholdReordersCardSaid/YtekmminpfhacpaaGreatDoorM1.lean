import Derived.Test.YtekmminpfhacpaaGreatDoorF2
import Derived.Test.YtekmminpfhacpaaGreatDoorT1
import Derived.Test.YtekmminpfhacpaaGreatDoorG4
set_option linter.unusedVariables false
set_option linter.unusedSimpArgs false
namespace Go.Proofs.YtekmminpfhacpaaGreatDoor
set_option maxRecDepth 100000
structure kG where
 c:Int
 n:Int
 t:Int
 f:Int
instance decLin:DecidableEq kG:=fun a b=>
 if h:a.c=b.c/\a.n=b.n/\a.t=b.t/\a.f=b.f then isTrue (by cases a;cases b;simp_all) else isFalse (fun e=>h (by rw[e];exact⟨rfl,rfl,rfl,rfl⟩))
structure ez where
 message:Int
 coef:Int
 bound:kG
instance decThr:DecidableEq ez:=fun a b=>
 if h:a.message=b.message/\a.coef=b.coef/\a.bound=b.bound then isTrue (by cases a;cases b;simp_all) else isFalse (fun e=>h (by rw[e];exact⟨rfl,rfl,rfl⟩))
structure bo where
 name:ByteArray
 kind:Int
 src:Int
 dst:Int
 pfrom:Int
 pto:Int
 response:List Int
 guards:List ez
 some_:List Int
 forall_:List Int
 read:Int
 write:Int
 send:List Int
 at_:Int
 left:List Int
 right:List Int
 parent:List Int
 direction:Int
structure an where
 name:ByteArray
 topology:Int
 states:List ByteArray
 messages:List ByteArray
 values:List ByteArray
 fault:Int
 resilience:List kG
 initial:List Int
 leader:List Int
 rules:List bo
def t0:ByteArray:=⟨#[]⟩
def fQ:kG:=⟨0,0,0,0⟩
def aC:ez:=⟨0,0,fQ⟩
def ap:bo:=⟨t0,0,0,0,0,0,[],[],[],[],0,0,[],0,[],[],[],0⟩
def cI (l:kG):List AV:=[.int .i64 l.c, .int .i64 l.n, .int .i64 l.t, .int .i64 l.f]
def b8 (g:ez):List AV:=[.int .i64 g.message, .int .i64 g.coef, .int .i64 g.bound.c, .int .i64 g.bound.n, .int .i64 g.bound.t, .int .i64 g.bound.f]
def eg (r:bo):List AV:=[.str r.name, .int .i64 r.kind, .int .i64 r.src, .int .i64 r.dst, .int .i64 r.pfrom, .int .i64 r.pto, .sl 0 ao r.response, .sl aC b8 r.guards, .sl 0 ao r.some_, .sl 0 ao r.forall_,
 .int .i64 r.read, .int .i64 r.write, .sl 0 ao r.send, .int .i64 r.at_, .sl 0 ao r.left, .sl 0 ao r.right, .sl 0 ao r.parent, .int .i64 r.direction]
def aR (p:an):List AV:=[.str p.name, .int .i64 p.topology, .sl t0 fd p.states, .sl t0 fd p.messages, .sl t0 fd p.values, .int .i64 p.fault, .sl fQ cI p.resilience, .sl 0 ao p.initial, .sl 0 ao p.leader, .sl ap eg p.rules]
def oM (r:bo):Prop:=500<r.name.size\/60<r.response.length\/60<r.guards.length\/60<r.some_.length\/60<r.forall_.length\/60<r.send.length\/60<r.left.length\/60<r.right.length\/60<r.parent.length
instance (r:bo):Decidable (oM r):=inferInstanceAs (Decidable (_\/_))
def nn (l:List ByteArray):Prop:=∃j,j<l.length/\500<(l.getD j t0).size
instance (l:List ByteArray):Decidable (nn l):=inferInstanceAs (Decidable (∃j,j<l.length/\_))
def dX (p:an):Prop:=500<p.name.size\/60<p.states.length\/60<p.messages.length\/60<p.values.length\/60<p.resilience.length\/60<p.initial.length\/60<p.leader.length\/30<p.rules.length\/
 (∃j,j<p.rules.length/\oM (p.rules.getD j ap))\/nn p.states\/nn p.messages\/nn p.values
instance (p:an):Decidable (dX p):=inferInstanceAs (Decidable (_\/_))
theorem bL {p:an} (h:¬dX p):p.name.size<=500/\p.states.length<=60/\p.messages.length<=60/\p.values.length<=60/\p.resilience.length<=60/\p.initial.length<=60/\p.leader.length<=60/\p.rules.length<=30:=by
 unfold dX at h
 omega
theorem ii {p:an} (h:¬dX p) {j:Nat} (hj:j<p.rules.length):¬oM (p.rules.getD j ap):=fun hb=>h (by unfold dX;exact .inr (.inr (.inr (.inr (.inr (.inr (.inr (.inr (.inl ⟨j,hj,hb⟩)))))))))
theorem i6 {r:bo} (h:¬oM r):r.name.size<=500/\r.response.length<=60/\r.guards.length<=60/\r.some_.length<=60/\r.forall_.length<=60/\r.send.length<=60/\r.left.length<=60/\r.right.length<=60/\r.parent.length<=60:=by
 unfold oM at h
 omega
def G5 (r:bo):Prop:=r.name.size<=140737488355328/\r.response.length<=140737488355328/\r.guards.length<=140737488355328/\r.some_.length<=140737488355328/\r.forall_.length<=140737488355328/\r.send.length<=140737488355328/\r.left.length<=140737488355328/\r.right.length<=140737488355328/\r.parent.length<=140737488355328
def wQ (l:List ByteArray):Prop:=∀s∈l,s.size<=140737488355328
structure iO (p:an):Prop where
 le:p.name.size<=140737488355328/\p.states.length<=140737488355328/\p.messages.length<=140737488355328/\p.values.length<=140737488355328/\p.resilience.length<=140737488355328/\p.initial.length<=140737488355328/\p.leader.length<=140737488355328/\p.rules.length<=140737488355328
 ru:∀j,j<p.rules.length->G5 (p.rules.getD j ap)
 ns:wQ p.states/\wQ p.messages/\wQ p.values
theorem yG {r:bo} (h:G5 r):r.name.size<=140737488355328/\r.response.length<=140737488355328/\r.guards.length<=140737488355328/\r.some_.length<=140737488355328/\r.forall_.length<=140737488355328/\r.send.length<=140737488355328/\r.left.length<=140737488355328/\r.right.length<=140737488355328/\r.parent.length<=140737488355328:=h
theorem jh {p:an} (h:iO p):p.name.size<=140737488355328/\p.states.length<=140737488355328/\p.messages.length<=140737488355328/\p.values.length<=140737488355328/\p.resilience.length<=140737488355328/\p.initial.length<=140737488355328/\p.leader.length<=140737488355328/\p.rules.length<=140737488355328:=h.le
theorem wR {p:an} (h:iO p) {j:Nat} (hj:j<p.rules.length):G5 (p.rules.getD j ap):=h.ru j hj
theorem uu {l:List ByteArray} (h:¬nn l):wQ l:=by
 intro s hs
 obtain⟨j,hj,e⟩:=List.getElem_of_mem hs
 refine Nat.le_of_not_lt fun hlt=>h ⟨j,hj,?_⟩
 rw[gD,gL hj,Option.getD_some,e]
 omega
theorem Kr {r:bo} (h:¬oM r):G5 r:=by have:=i6 h;unfold G5;omega
theorem lj {p:an} (h:¬dX p):iO p:=by
 refine⟨by have:=bL h;omega,fun j hj=>Kr (ii h hj),?_⟩
 unfold dX at h
 simp only[not_or] at h
 exact⟨uu h.2.2.2.2.2.2.2.2.2.1,uu h.2.2.2.2.2.2.2.2.2.2.1,uu h.2.2.2.2.2.2.2.2.2.2.2⟩
def lV (l:List Int) (n:Int):Prop:=∀j,j<l.length->0<=l.getD j 0/\l.getD j 0<n
def pM (l:List Int):Prop:=∀j,j<l.length->0<j->l.getD (j-1) 0<l.getD j 0
instance (l:List Int) (n:Int):Decidable (lV l n):=inferInstanceAs (Decidable (∀j,j<l.length->_))
instance (l:List Int):Decidable (pM l):=inferInstanceAs (Decidable (∀j,j<l.length->_))
def bC (l:List Int) (n:Int):Int:=if lV l n then(if pM l then 0 else 1) else 5
theorem ay (a b c:Int):ab Tryz.prog 204 [.int .i64 a, .int .i64 b, .int .i64 c] (fun u=>u= .bool (decide (b<=a/\a<=c))):=by
 refine ab.intro ae ag Tryz.func204 rfl (by decide) ?_;(conv=>whnf)
 repeat' first|(refine at_ ?_;conv=>whnf)|(refine ah (fun _=>?_) (fun _=>?_)<;>conv=>whnf)
 all_goals first
  |exact⟨aH (by omega),rfl⟩
  |exact⟨au (by omega),rfl⟩
theorem bl (l:List Int) (n:Int) (hl:l.length<=4503599627370496) (hn:-4611686018427387904<=n/\n<=4611686018427387904):ab Tryz.prog 202 [.sl 0 ao l, .int .i64 n] (fun u=>u= .int .i64 (bC l n)):=by
 refine ab.intro ae ag Tryz.func202 rfl (by decide) ?_;(conv=>whnf)
 refine aQ.loopF ae ag (fun k:Nat=>k<=l.length/\∀j,j<k->0<=l.getD j 0/\l.getD j 0<n) (fun k=>[(5, .int .i64 (k:Int))]) (fun _=>[]) (fun k=>l.length-k) 0 ⟨by omega,fun j hj=>by omega⟩ ?_;conv=>whnf
 refine⟨sI,?_⟩
 rintro k ⟨hk,ha⟩
 conv=>whnf
 repeat' first|(refine at_ ?_;conv=>whnf)|(refine ah (fun _=>?_) (fun _=>?_)<;>conv=>whnf)
 ·refine dC (ay _ _ _) (fun _=>?_) (fun _=>?_)<;>(conv=>whnf)
  ·rename_i h2
   rw[tN] at h2
   repeat' first|(refine at_ ?_;conv=>whnf)|(refine ah (fun _=>?_) (fun _=>?_)<;>conv=>whnf)
   refine⟨k+1,sI,⟨by omega,fun j hj=>?_⟩,by dsimp only;omega⟩
   by_cases e:j=k
   ·subst e;omega
   ·exact ha j (by omega)
  ·rename_i h1 h2
   rw[tN] at h2
   refine⟨ac ?_,rfl⟩
   rw[bC,if_neg]
   intro h
   have:=h k (by omega)
   omega
 ·have hin:lV l n:=fun j hj=>ha j (by omega)
  refine aQ.loopF ae ag (fun k:Nat=>1<=k/\(k<=l.length\/k=1)/\∀j,j<k->j<l.length->0<j->l.getD (j-1) 0<l.getD j 0) (fun k=>[(6, .int .i64 (k:Int))]) (fun _=>[]) (fun k=>l.length-k) 1 ⟨by omega,by omega,fun j hj=>by omega⟩ ?_;conv=>whnf
  refine⟨sI,?_⟩
  rintro k ⟨hk,hk2,hb⟩
  conv=>whnf
  repeat' first|(refine at_ ?_;conv=>whnf)|(refine ah (fun _=>?_) (fun _=>?_)<;>conv=>whnf)
  ·rename_i h1 h2
   rw[tN,show((k:Int)-1).toNat=k-1 by omega] at h2
   refine⟨ac ?_,rfl⟩
   rw[bC,if_pos hin,if_neg]
   intro h
   have:=h k (by omega) (by omega)
   omega
  ·rename_i h1 h2
   rw[tN,show((k:Int)-1).toNat=k-1 by omega] at h2
   refine⟨k+1,sI,⟨by omega,by omega,fun j hj hj2 hj3=>?_⟩,by dsimp only;omega⟩
   by_cases e:j=k
   ·subst e;omega
   ·exact hb j (by omega) hj2 hj3
  ·refine⟨ac ?_,rfl⟩
   rw[bC,if_pos hin,if_pos]
   exact fun j hj h0=>hb j (by omega) hj h0
theorem mJ (l:List Int) (n:Int) (hl:l.length<=4503599627370496):ab Tryz.prog 155 [.sl 0 ao l, .int .i64 n] (fun u=>u= .int .i64 (bC l n)):=by
 refine ab.intro ae ag Tryz.func155 rfl (by decide) ?_;(conv=>whnf)
 refine aQ.loopF ae ag (fun k:Nat=>k<=l.length/\∀j,j<k->0<=l.getD j 0/\l.getD j 0<n) (fun k=>[(10, .int .i64 (k:Int))]) (fun _=>[]) (fun k=>l.length-k) 0 ⟨by omega,fun j hj=>by omega⟩ ?_;conv=>whnf
 refine⟨sI,?_⟩
 rintro k ⟨hk,ha⟩
 conv=>whnf
 refine ah (fun h1=>?_) (fun h1=>?_)<;>conv=>whnf
 ·by_cases h2:0<=l.getD (k:Int).toNat 0/\l.getD (k:Int).toNat 0<n
  ·repeat' first|(refine at_ ?_;conv=>whnf)|(refine ah (fun _=>?_) (fun _=>?_)<;>conv=>whnf)
   rw[tN] at h2
   refine⟨k+1,sI,⟨by omega,fun j hj=>?_⟩,by dsimp only;omega⟩
   by_cases e:j=k
   ·subst e;omega
   ·exact ha j (by omega)
  ·repeat' first|(refine at_ ?_;conv=>whnf)|(refine ah (fun _=>?_) (fun _=>?_)<;>conv=>whnf)
   all_goals
    rw[tN] at h2
    refine⟨ac ?_,rfl⟩
    rw[bC,if_neg]
    intro h
    have:=h k (by omega)
    omega
 ·have hin:lV l n:=fun j hj=>ha j (by omega)
  refine aQ.loopF ae ag (fun k:Nat=>1<=k/\(k<=l.length\/k=1)/\∀j,j<k->j<l.length->0<j->l.getD (j-1) 0<l.getD j 0) (fun k=>[(7, .int .i64 (k:Int))]) (fun _=>[]) (fun k=>l.length-k) 1 ⟨by omega,by omega,fun j hj=>by omega⟩ ?_;conv=>whnf
  refine⟨sI,?_⟩
  rintro k ⟨hk,hk2,hb⟩
  conv=>whnf
  repeat' first|(refine at_ ?_;conv=>whnf)|(refine ah (fun _=>?_) (fun _=>?_)<;>conv=>whnf)
  ·rename_i h1 h2
   rw[tN,show((k:Int)-1).toNat=k-1 by omega] at h2
   refine⟨ac ?_,rfl⟩
   rw[bC,if_pos hin,if_neg]
   intro h
   have:=h k (by omega) (by omega)
   omega
  ·rename_i h1 h2
   rw[tN,show((k:Int)-1).toNat=k-1 by omega] at h2
   refine⟨k+1,sI,⟨by omega,by omega,fun j hj hj2 hj3=>?_⟩,by dsimp only;omega⟩
   by_cases e:j=k
   ·subst e;omega
   ·exact hb j (by omega) hj2 hj3
  ·refine⟨ac ?_,rfl⟩
   rw[bC,if_pos hin,if_pos]
   exact fun j hj h0=>hb j (by omega) hj h0
set_option maxRecDepth 100000
def pz:List ByteArray:=[⟨#[112,114,111,116,111,99,111,108]⟩,⟨#[116,111,112,111,108,111,103,121]⟩,⟨#[115,116,97,116,101,115]⟩,⟨#[109,101,115,115,97,103,101,115]⟩,⟨#[118,97,108,117,101,115]⟩,⟨#[102,97,117,108,116,115]⟩,⟨#[114,101,115,105,108,105,101,110,99,101]⟩,⟨#[105,110,105,116,105,97,108]⟩,⟨#[108,101,97,100,101,114]⟩,⟨#[114,117,108,101]⟩,⟨#[108,111,99,97,108]⟩,⟨#[112,97,105,114]⟩,⟨#[98,114,111,97,100,99,97,115,116]⟩,⟨#[110,101,105,103,104,98,111,114]⟩,⟨#[112,97,115,115]⟩,⟨#[119,104,101,110]⟩,⟨#[101,120,105,115,116,115]⟩,⟨#[102,111,114,97,108,108]⟩,⟨#[114,101,97,100]⟩,⟨#[119,114,105,116,101]⟩,⟨#[115,101,110,100]⟩,⟨#[97,108,108]⟩,⟨#[97,116]⟩,⟨#[102,105,114,115,116]⟩,⟨#[108,97,115,116]⟩,⟨#[108,101,102,116]⟩,⟨#[114,105,103,104,116]⟩,⟨#[112,97,114,101,110,116]⟩,⟨#[99,104,105,108,100]⟩,⟨#[112,114,111,112,101,114,116,121]⟩,⟨#[110,101,118,101,114]⟩,⟨#[101,118,101,110,116,117,97,108,108,121]⟩,⟨#[115,116,97,114,116]⟩,⟨#[99,111,117,110,116]⟩,⟨#[97,100,106,97,99,101,110,116]⟩,⟨#[103,111,97,108]⟩,⟨#[99,108,105,113,117,101]⟩,⟨#[108,105,110,101]⟩,⟨#[114,105,110,103]⟩,⟨#[116,114,101,101]⟩,⟨#[99,114,97,115,104]⟩,⟨#[111,109,105,115,115,105,111,110]⟩,⟨#[97,114,98,105,116,114,97,114,121]⟩]
def gj:ByteArray:=⟨#[112,114,111,116,111,99,111,108,32,116,111,112,111,108,111,103,121,32,115,116,97,116,101,115,32,109,101,115,115,97,103,101,115,32,118,97,108,117,101,115,32,102,97,117,108,116,115,32,114,101,115,105,108,105,101,110,99,101,32,105,110,105,116,105,97,108,32,108,101,97,100,101,114,32,114,117,108,101,32,108,111,99,97,108,32,112,97,105,114,32,98,114,111,97,100,99,97,115,116,32,110,101,105,103,104,98,111,114,32,112,97,115,115,32,119,104,101,110,32,101,120,105,115,116,115,32,102,111,114,97,108,108,32,114,101,97,100,32,119,114,105,116,101,32,115,101,110,100,32,97,108,108,32,97,116,32,102,105,114,115,116,32,108,97,115,116,32,108,101,102,116,32,114,105,103,104,116,32,112,97,114,101,110,116,32,99,104,105,108,100,32,112,114,111,112,101,114,116,121,32,110,101,118,101,114,32,101,118,101,110,116,117,97,108,108,121,32,115,116,97,114,116,32,99,111,117,110,116,32,97,100,106,97,99,101,110,116,32,103,111,97,108,32,99,108,105,113,117,101,32,108,105,110,101,32,114,105,110,103,32,116,114,101,101,32,99,114,97,115,104,32,111,109,105,115,115,105,111,110,32,97,114,98,105,116,114,97,114,121]⟩
def mV (s:ByteArray) (i:Nat):Nat:=(s.data.getD i 0).toNat
instance decMemB (s:ByteArray):(l:List ByteArray)->Decidable (s∈l)
 |[]=>isFalse (by simp)
 |x::l=>if h:s=x then isTrue (by simp[h]) else match decMemB s l with
  |isTrue h2=>isTrue (by simp[h2])
  |isFalse h2=>isFalse (by simp[h,h2])
def Ef (i:Nat):Int:=mX.getD ((mV gj i:Nat):Int).toNat 0
def C7:Nat->Int×Int×Int
 |0=>(0,1,0)
 |i+1=>((C7 i).1+kH .and .i64 (C7 i).2.1 (kH .xor .i64 (if IntKind.i64.signed then -1 else IntKind.i64.max) (Ef i)),Ef i,kH .or .u8 (C7 i).2.2 (mV gj i:Int))
def oN:Nat->Nat×Nat×List ByteArray
 |0=>(0,0,List.replicate 43 t0)
 |i+1=>if Ef i=0 then oN i else((oN i).1+1,i+1,(oN i).2.2.set (oN i).1 (gj.extract (oN i).2.1 i))
theorem wS:mX.length=256:=by decide+kernel
theorem Eg:∀i,i<290->0<=(C7 i).1/\(C7 i).1<=1000:=by decide+kernel
theorem Eh:∀i,i<290->Ef i=0\/Ef i=1:=by decide+kernel
theorem Af:(C7 289).1=43/\(C7 289).2.2=127:=by decide+kernel
theorem Ei:∀i,i<289->Ef i≠0->i+1<289/\Ef (i+1)=0:=by decide+kernel
theorem wT:∀i,i<290->(oN i).1<43/\(oN i).2.1<=i/\(oN i).2.2.length=43:=by decide+kernel
theorem HE:(oN 289).1=42/\(oN 289).2.1=280/\(oN 289).2.2.set 42 (gj.extract 280 289)=pz:=by decide+kernel
theorem i7:gj.size=289:=by decide+kernel
theorem Ks (s:ByteArray) (i:Nat):mV s i<256:=by unfold mV;exact UInt8.toNat_lt _
end Go.Proofs.YtekmminpfhacpaaGreatDoor
