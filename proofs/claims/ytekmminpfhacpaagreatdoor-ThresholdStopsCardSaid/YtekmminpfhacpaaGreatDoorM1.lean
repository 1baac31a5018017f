import Derived.Test.YtekmminpfhacpaaGreatDoorF2
import Derived.Test.YtekmminpfhacpaaGreatDoorT1
set_option linter.unusedVariables false
set_option linter.unusedSimpArgs false
namespace Go.Proofs.YtekmminpfhacpaaGreatDoor
set_option maxRecDepth 100000
structure kK where
 c:Int
 n:Int
 t:Int
 f:Int
instance decLin:DecidableEq kK:=fun a b=>
 if h:a.c=b.c/\a.n=b.n/\a.t=b.t/\a.f=b.f then isTrue (by cases a;cases b;simp_all) else isFalse (fun e=>h (by rw[e];exact⟨rfl,rfl,rfl,rfl⟩))
structure dB where
 message:Int
 coef:Int
 bound:kK
instance decThr:DecidableEq dB:=fun a b=>
 if h:a.message=b.message/\a.coef=b.coef/\a.bound=b.bound then isTrue (by cases a;cases b;simp_all) else isFalse (fun e=>h (by rw[e];exact⟨rfl,rfl,rfl⟩))
structure bC where
 name:ByteArray
 kind:Int
 src:Int
 dst:Int
 pfrom:Int
 pto:Int
 response:List Int
 guards:List dB
 some_:List Int
 forall_:List Int
 read:Int
 write:Int
 send:List Int
 at_:Int
 left:List Int
 right:List Int
 parent:List Int
 direction:Int
structure an where
 name:ByteArray
 topology:Int
 states:List ByteArray
 messages:List ByteArray
 values:List ByteArray
 fault:Int
 resilience:List kK
 initial:List Int
 leader:List Int
 rules:List bC
def t0:ByteArray:=⟨#[]⟩
def eJ:kK:=⟨0,0,0,0⟩
def aA:dB:=⟨0,0,eJ⟩
def aq:bC:=⟨t0,0,0,0,0,0,[],[],[],[],0,0,[],0,[],[],[],0⟩
def bT (l:kK):List AV:=[.int .i64 l.c, .int .i64 l.n, .int .i64 l.t, .int .i64 l.f]
def bL (g:dB):List AV:=[.int .i64 g.message, .int .i64 g.coef, .int .i64 g.bound.c, .int .i64 g.bound.n, .int .i64 g.bound.t, .int .i64 g.bound.f]
def ee (r:bC):List AV:=[.str r.name, .int .i64 r.kind, .int .i64 r.src, .int .i64 r.dst, .int .i64 r.pfrom, .int .i64 r.pto, .sl 0 ao r.response, .sl aA bL r.guards, .sl 0 ao r.some_, .sl 0 ao r.forall_,
 .int .i64 r.read, .int .i64 r.write, .sl 0 ao r.send, .int .i64 r.at_, .sl 0 ao r.left, .sl 0 ao r.right, .sl 0 ao r.parent, .int .i64 r.direction]
def aB (p:an):List AV:=[.str p.name, .int .i64 p.topology, .sl t0 dQ p.states, .sl t0 dQ p.messages, .sl t0 dQ p.values, .int .i64 p.fault, .sl eJ bT p.resilience, .sl 0 ao p.initial, .sl 0 ao p.leader, .sl aq ee p.rules]
def lp (r:bC):Prop:=500<r.name.size\/60<r.response.length\/60<r.guards.length\/60<r.some_.length\/60<r.forall_.length\/60<r.send.length\/60<r.left.length\/60<r.right.length\/60<r.parent.length
instance (r:bC):Decidable (lp r):=inferInstanceAs (Decidable (_\/_))
def lq (l:List ByteArray):Prop:=∃j,j<l.length/\500<(l.getD j t0).size
instance (l:List ByteArray):Decidable (lq l):=inferInstanceAs (Decidable (∃j,j<l.length/\_))
def cp (p:an):Prop:=500<p.name.size\/60<p.states.length\/60<p.messages.length\/60<p.values.length\/60<p.resilience.length\/60<p.initial.length\/60<p.leader.length\/30<p.rules.length\/
 (∃j,j<p.rules.length/\lp (p.rules.getD j aq))\/lq p.states\/lq p.messages\/lq p.values
instance (p:an):Decidable (cp p):=inferInstanceAs (Decidable (_\/_))
theorem aO {p:an} (h:¬cp p):p.name.size<=500/\p.states.length<=60/\p.messages.length<=60/\p.values.length<=60/\p.resilience.length<=60/\p.initial.length<=60/\p.leader.length<=60/\p.rules.length<=30:=by
 unfold cp at h
 omega
theorem cQ {p:an} (h:¬cp p) {j:Nat} (hj:j<p.rules.length):¬lp (p.rules.getD j aq):=fun hb=>h (by unfold cp;exact .inr (.inr (.inr (.inr (.inr (.inr (.inr (.inr (.inl ⟨j,hj,hb⟩)))))))))
theorem dh {r:bC} (h:¬lp r):r.name.size<=500/\r.response.length<=60/\r.guards.length<=60/\r.some_.length<=60/\r.forall_.length<=60/\r.send.length<=60/\r.left.length<=60/\r.right.length<=60/\r.parent.length<=60:=by
 unfold lp at h
 omega
def BW (r:bC):Prop:=r.name.size<=140737488355328/\r.response.length<=140737488355328/\r.guards.length<=140737488355328/\r.some_.length<=140737488355328/\r.forall_.length<=140737488355328/\r.send.length<=140737488355328/\r.left.length<=140737488355328/\r.right.length<=140737488355328/\r.parent.length<=140737488355328
def td (l:List ByteArray):Prop:=∀s∈l,s.size<=140737488355328
structure g7 (p:an):Prop where
 le:p.name.size<=140737488355328/\p.states.length<=140737488355328/\p.messages.length<=140737488355328/\p.values.length<=140737488355328/\p.resilience.length<=140737488355328/\p.initial.length<=140737488355328/\p.leader.length<=140737488355328/\p.rules.length<=140737488355328
 ru:∀j,j<p.rules.length->BW (p.rules.getD j aq)
 ns:td p.states/\td p.messages/\td p.values
theorem uU {r:bC} (h:BW r):r.name.size<=140737488355328/\r.response.length<=140737488355328/\r.guards.length<=140737488355328/\r.some_.length<=140737488355328/\r.forall_.length<=140737488355328/\r.send.length<=140737488355328/\r.left.length<=140737488355328/\r.right.length<=140737488355328/\r.parent.length<=140737488355328:=h
theorem gZ {p:an} (h:g7 p):p.name.size<=140737488355328/\p.states.length<=140737488355328/\p.messages.length<=140737488355328/\p.values.length<=140737488355328/\p.resilience.length<=140737488355328/\p.initial.length<=140737488355328/\p.leader.length<=140737488355328/\p.rules.length<=140737488355328:=h.le
theorem te {p:an} (h:g7 p) {j:Nat} (hj:j<p.rules.length):BW (p.rules.getD j aq):=h.ru j hj
theorem rf {l:List ByteArray} (h:¬lq l):td l:=by
 intro s hs
 obtain⟨j,hj,e⟩:=List.getElem_of_mem hs
 refine Nat.le_of_not_lt fun hlt=>h ⟨j,hj,?_⟩
 rw[gD,gL hj,Option.getD_some,e]
 omega
theorem ER {r:bC} (h:¬lp r):BW r:=by have:=dh h;unfold BW;omega
theorem iT {p:an} (h:¬cp p):g7 p:=by
 refine⟨by have:=aO h;omega,fun j hj=>ER (cQ h hj),?_⟩
 unfold cp at h
 simp only[not_or] at h
 exact⟨rf h.2.2.2.2.2.2.2.2.2.1,rf h.2.2.2.2.2.2.2.2.2.2.1,rf h.2.2.2.2.2.2.2.2.2.2.2⟩
def iy (l:List Int) (n:Int):Prop:=∀j,j<l.length->0<=l.getD j 0/\l.getD j 0<n
def uW (l:List Int):Prop:=∀j,j<l.length->0<j->l.getD (j-1) 0<l.getD j 0
instance (l:List Int) (n:Int):Decidable (iy l n):=inferInstanceAs (Decidable (∀j,j<l.length->_))
instance (l:List Int):Decidable (uW l):=inferInstanceAs (Decidable (∀j,j<l.length->_))
def bw (l:List Int) (n:Int):Int:=if iy l n then(if uW l then 0 else 1) else 5
theorem aL (a b c:Int):ab Tryz.prog 204 [.int .i64 a, .int .i64 b, .int .i64 c] (fun u=>u= .bool (decide (b<=a/\a<=c))):=by
 refine ab.intro ac ae Tryz.func204 rfl (by decide) ?_;(conv=>whnf)
 repeat' first|(refine at_ ?_;conv=>whnf)|(refine ag (fun _=>?_) (fun _=>?_)<;>conv=>whnf)
 all_goals first
  |exact⟨av (by omega),rfl⟩
  |exact⟨al (by omega),rfl⟩
theorem oq (l:List Int) (n:Int) (hl:l.length<=4503599627370496) (hn:-4611686018427387904<=n/\n<=4611686018427387904):ab Tryz.prog 202 [.sl 0 ao l, .int .i64 n] (fun u=>u= .int .i64 (bw l n)):=by
 refine ab.intro ac ae Tryz.func202 rfl (by decide) ?_;(conv=>whnf)
 refine aF.loopF ac ae (fun k:Nat=>k<=l.length/\∀j,j<k->0<=l.getD j 0/\l.getD j 0<n) (fun k=>[(5, .int .i64 (k:Int))]) (fun _=>[]) (fun k=>l.length-k) 0 ⟨by omega,fun j hj=>by omega⟩ ?_;conv=>whnf
 refine⟨sI,?_⟩
 rintro k ⟨hk,ha⟩
 conv=>whnf
 repeat' first|(refine at_ ?_;conv=>whnf)|(refine ag (fun _=>?_) (fun _=>?_)<;>conv=>whnf)
 ·refine dC (aL _ _ _) (fun _=>?_) (fun _=>?_)<;>(conv=>whnf)
  ·rename_i h2
   rw[tN] at h2
   repeat' first|(refine at_ ?_;conv=>whnf)|(refine ag (fun _=>?_) (fun _=>?_)<;>conv=>whnf)
   refine⟨k+1,sI,⟨by omega,fun j hj=>?_⟩,by dsimp only;omega⟩
   by_cases e:j=k
   ·subst e;omega
   ·exact ha j (by omega)
  ·rename_i h1 h2
   rw[tN] at h2
   refine⟨ah ?_,rfl⟩
   rw[bw,if_neg]
   intro h
   have:=h k (by omega)
   omega
 ·have hin:iy l n:=fun j hj=>ha j (by omega)
  refine aF.loopF ac ae (fun k:Nat=>1<=k/\(k<=l.length\/k=1)/\∀j,j<k->j<l.length->0<j->l.getD (j-1) 0<l.getD j 0) (fun k=>[(6, .int .i64 (k:Int))]) (fun _=>[]) (fun k=>l.length-k) 1 ⟨by omega,by omega,fun j hj=>by omega⟩ ?_;conv=>whnf
  refine⟨sI,?_⟩
  rintro k ⟨hk,hk2,hb⟩
  conv=>whnf
  repeat' first|(refine at_ ?_;conv=>whnf)|(refine ag (fun _=>?_) (fun _=>?_)<;>conv=>whnf)
  ·rename_i h1 h2
   rw[tN,show((k:Int)-1).toNat=k-1 by omega] at h2
   refine⟨ah ?_,rfl⟩
   rw[bw,if_pos hin,if_neg]
   intro h
   have:=h k (by omega) (by omega)
   omega
  ·rename_i h1 h2
   rw[tN,show((k:Int)-1).toNat=k-1 by omega] at h2
   refine⟨k+1,sI,⟨by omega,by omega,fun j hj hj2 hj3=>?_⟩,by dsimp only;omega⟩
   by_cases e:j=k
   ·subst e;omega
   ·exact hb j (by omega) hj2 hj3
  ·refine⟨ah ?_,rfl⟩
   rw[bw,if_pos hin,if_pos]
   exact fun j hj h0=>hb j (by omega) hj h0
theorem kB (l:List Int) (n:Int) (hl:l.length<=4503599627370496):ab Tryz.prog 155 [.sl 0 ao l, .int .i64 n] (fun u=>u= .int .i64 (bw l n)):=by
 refine ab.intro ac ae Tryz.func155 rfl (by decide) ?_;(conv=>whnf)
 refine aF.loopF ac ae (fun k:Nat=>k<=l.length/\∀j,j<k->0<=l.getD j 0/\l.getD j 0<n) (fun k=>[(10, .int .i64 (k:Int))]) (fun _=>[]) (fun k=>l.length-k) 0 ⟨by omega,fun j hj=>by omega⟩ ?_;conv=>whnf
 refine⟨sI,?_⟩
 rintro k ⟨hk,ha⟩
 conv=>whnf
 refine ag (fun h1=>?_) (fun h1=>?_)<;>conv=>whnf
 ·by_cases h2:0<=l.getD (k:Int).toNat 0/\l.getD (k:Int).toNat 0<n
  ·repeat' first|(refine at_ ?_;conv=>whnf)|(refine ag (fun _=>?_) (fun _=>?_)<;>conv=>whnf)
   rw[tN] at h2
   refine⟨k+1,sI,⟨by omega,fun j hj=>?_⟩,by dsimp only;omega⟩
   by_cases e:j=k
   ·subst e;omega
   ·exact ha j (by omega)
  ·repeat' first|(refine at_ ?_;conv=>whnf)|(refine ag (fun _=>?_) (fun _=>?_)<;>conv=>whnf)
   all_goals
    rw[tN] at h2
    refine⟨ah ?_,rfl⟩
    rw[bw,if_neg]
    intro h
    have:=h k (by omega)
    omega
 ·have hin:iy l n:=fun j hj=>ha j (by omega)
  refine aF.loopF ac ae (fun k:Nat=>1<=k/\(k<=l.length\/k=1)/\∀j,j<k->j<l.length->0<j->l.getD (j-1) 0<l.getD j 0) (fun k=>[(7, .int .i64 (k:Int))]) (fun _=>[]) (fun k=>l.length-k) 1 ⟨by omega,by omega,fun j hj=>by omega⟩ ?_;conv=>whnf
  refine⟨sI,?_⟩
  rintro k ⟨hk,hk2,hb⟩
  conv=>whnf
  repeat' first|(refine at_ ?_;conv=>whnf)|(refine ag (fun _=>?_) (fun _=>?_)<;>conv=>whnf)
  ·rename_i h1 h2
   rw[tN,show((k:Int)-1).toNat=k-1 by omega] at h2
   refine⟨ah ?_,rfl⟩
   rw[bw,if_pos hin,if_neg]
   intro h
   have:=h k (by omega) (by omega)
   omega
  ·rename_i h1 h2
   rw[tN,show((k:Int)-1).toNat=k-1 by omega] at h2
   refine⟨k+1,sI,⟨by omega,by omega,fun j hj hj2 hj3=>?_⟩,by dsimp only;omega⟩
   by_cases e:j=k
   ·subst e;omega
   ·exact hb j (by omega) hj2 hj3
  ·refine⟨ah ?_,rfl⟩
   rw[bw,if_pos hin,if_pos]
   exact fun j hj h0=>hb j (by omega) hj h0
set_option maxRecDepth 100000
def mM:List ByteArray:=[⟨#[112,114,111,116,111,99,111,108]⟩,⟨#[116,111,112,111,108,111,103,121]⟩,⟨#[115,116,97,116,101,115]⟩,⟨#[109,101,115,115,97,103,101,115]⟩,⟨#[118,97,108,117,101,115]⟩,⟨#[102,97,117,108,116,115]⟩,⟨#[114,101,115,105,108,105,101,110,99,101]⟩,⟨#[105,110,105,116,105,97,108]⟩,⟨#[108,101,97,100,101,114]⟩,⟨#[114,117,108,101]⟩,⟨#[108,111,99,97,108]⟩,⟨#[112,97,105,114]⟩,⟨#[98,114,111,97,100,99,97,115,116]⟩,⟨#[110,101,105,103,104,98,111,114]⟩,⟨#[112,97,115,115]⟩,⟨#[119,104,101,110]⟩,⟨#[101,120,105,115,116,115]⟩,⟨#[102,111,114,97,108,108]⟩,⟨#[114,101,97,100]⟩,⟨#[119,114,105,116,101]⟩,⟨#[115,101,110,100]⟩,⟨#[97,108,108]⟩,⟨#[97,116]⟩,⟨#[102,105,114,115,116]⟩,⟨#[108,97,115,116]⟩,⟨#[108,101,102,116]⟩,⟨#[114,105,103,104,116]⟩,⟨#[112,97,114,101,110,116]⟩,⟨#[99,104,105,108,100]⟩,⟨#[112,114,111,112,101,114,116,121]⟩,⟨#[110,101,118,101,114]⟩,⟨#[101,118,101,110,116,117,97,108,108,121]⟩,⟨#[115,116,97,114,116]⟩,⟨#[99,111,117,110,116]⟩,⟨#[97,100,106,97,99,101,110,116]⟩,⟨#[103,111,97,108]⟩,⟨#[99,108,105,113,117,101]⟩,⟨#[108,105,110,101]⟩,⟨#[114,105,110,103]⟩,⟨#[116,114,101,101]⟩,⟨#[99,114,97,115,104]⟩,⟨#[111,109,105,115,115,105,111,110]⟩,⟨#[97,114,98,105,116,114,97,114,121]⟩]
def fd:ByteArray:=⟨#[112,114,111,116,111,99,111,108,32,116,111,112,111,108,111,103,121,32,115,116,97,116,101,115,32,109,101,115,115,97,103,101,115,32,118,97,108,117,101,115,32,102,97,117,108,116,115,32,114,101,115,105,108,105,101,110,99,101,32,105,110,105,116,105,97,108,32,108,101,97,100,101,114,32,114,117,108,101,32,108,111,99,97,108,32,112,97,105,114,32,98,114,111,97,100,99,97,115,116,32,110,101,105,103,104,98,111,114,32,112,97,115,115,32,119,104,101,110,32,101,120,105,115,116,115,32,102,111,114,97,108,108,32,114,101,97,100,32,119,114,105,116,101,32,115,101,110,100,32,97,108,108,32,97,116,32,102,105,114,115,116,32,108,97,115,116,32,108,101,102,116,32,114,105,103,104,116,32,112,97,114,101,110,116,32,99,104,105,108,100,32,112,114,111,112,101,114,116,121,32,110,101,118,101,114,32,101,118,101,110,116,117,97,108,108,121,32,115,116,97,114,116,32,99,111,117,110,116,32,97,100,106,97,99,101,110,116,32,103,111,97,108,32,99,108,105,113,117,101,32,108,105,110,101,32,114,105,110,103,32,116,114,101,101,32,99,114,97,115,104,32,111,109,105,115,115,105,111,110,32,97,114,98,105,116,114,97,114,121]⟩
def kL (s:ByteArray) (i:Nat):Nat:=(s.data.getD i 0).toNat
instance decMemB (s:ByteArray):(l:List ByteArray)->Decidable (s∈l)
 |[]=>isFalse (by simp)
 |x::l=>if h:s=x then isTrue (by simp[h]) else match decMemB s l with
  |isTrue h2=>isTrue (by simp[h2])
  |isFalse h2=>isFalse (by simp[h,h2])
def zK (i:Nat):Int:=kN.getD ((kL fd i:Nat):Int).toNat 0
def yx:Nat->Int×Int×Int
 |0=>(0,1,0)
 |i+1=>((yx i).1+jb .and .i64 (yx i).2.1 (jb .xor .i64 (if IntKind.i64.signed then -1 else IntKind.i64.max) (zK i)),zK i,jb .or .u8 (yx i).2.2 (kL fd i:Int))
def mq:Nat->Nat×Nat×List ByteArray
 |0=>(0,0,List.replicate 43 t0)
 |i+1=>if zK i=0 then mq i else((mq i).1+1,i+1,(mq i).2.2.set (mq i).1 (fd.extract (mq i).2.1 i))
theorem tf:kN.length=256:=by decide+kernel
theorem zL:∀i,i<290->0<=(yx i).1/\(yx i).1<=1000:=by decide+kernel
theorem zM:∀i,i<290->zK i=0\/zK i=1:=by decide+kernel
theorem wo:(yx 289).1=43/\(yx 289).2.2=127:=by decide+kernel
theorem zN:∀i,i<289->zK i≠0->i+1<289/\zK (i+1)=0:=by decide+kernel
theorem tg:∀i,i<290->(mq i).1<43/\(mq i).2.1<=i/\(mq i).2.2.length=43:=by decide+kernel
theorem Cx:(mq 289).1=42/\(mq 289).2.1=280/\(mq 289).2.2.set 42 (fd.extract 280 289)=mM:=by decide+kernel
theorem gO:fd.size=289:=by decide+kernel
theorem ES (s:ByteArray) (i:Nat):kL s i<256:=by unfold kL;exact UInt8.toNat_lt _
end Go.Proofs.YtekmminpfhacpaaGreatDoor
