import Derived.Test.YtnjggjhkfncnlaaGreatDoorF2
import Derived.Test.YtnjggjhkfncnlaaGreatDoorT1
import Derived.Test.YtnjggjhkfncnlaaGreatDoorG4
set_option linter.unusedVariables false
set_option linter.unusedSimpArgs false
namespace Go.Proofs.YtnjggjhkfncnlaaGreatDoor
set_option maxRecDepth 100000
structure g7 where
 c:Int
 n:Int
 t:Int
 f:Int
instance decLin:DecidableEq g7:=fun a b=>
 if h:a.c=b.c/\a.n=b.n/\a.t=b.t/\a.f=b.f then isTrue (by cases a;cases b;simp_all) else isFalse (fun e=>h (by rw[e];exact⟨rfl,rfl,rfl,rfl⟩))
structure eg where
 message:Int
 coef:Int
 bound:g7
instance decThr:DecidableEq eg:=fun a b=>
 if h:a.message=b.message/\a.coef=b.coef/\a.bound=b.bound then isTrue (by cases a;cases b;simp_all) else isFalse (fun e=>h (by rw[e];exact⟨rfl,rfl,rfl⟩))
structure bp where
 name:ByteArray
 kind:Int
 src:Int
 dst:Int
 pfrom:Int
 pto:Int
 response:List Int
 guards:List eg
 some_:List Int
 forall_:List Int
 read:Int
 write:Int
 send:List Int
 at_:Int
 left:List Int
 right:List Int
 parent:List Int
 direction:Int
structure au where
 name:ByteArray
 topology:Int
 states:List ByteArray
 messages:List ByteArray
 values:List ByteArray
 fault:Int
 resilience:List g7
 initial:List Int
 leader:List Int
 rules:List bp
def t0:ByteArray:=⟨#[]⟩
def dc:g7:=⟨0,0,0,0⟩
def aE:eg:=⟨0,0,dc⟩
def ar:bp:=⟨t0,0,0,0,0,0,[],[],[],[],0,0,[],0,[],[],[],0⟩
def bM (l:g7):List AV:=[.int .i64 l.c, .int .i64 l.n, .int .i64 l.t, .int .i64 l.f]
def bT (g:eg):List AV:=[.int .i64 g.message, .int .i64 g.coef, .int .i64 g.bound.c, .int .i64 g.bound.n, .int .i64 g.bound.t, .int .i64 g.bound.f]
def dF (r:bp):List AV:=[.str r.name, .int .i64 r.kind, .int .i64 r.src, .int .i64 r.dst, .int .i64 r.pfrom, .int .i64 r.pto, .sl 0 an r.response, .sl aE bT r.guards, .sl 0 an r.some_, .sl 0 an r.forall_,
 .int .i64 r.read, .int .i64 r.write, .sl 0 an r.send, .int .i64 r.at_, .sl 0 an r.left, .sl 0 an r.right, .sl 0 an r.parent, .int .i64 r.direction]
def aO (p:au):List AV:=[.str p.name, .int .i64 p.topology, .sl t0 dX p.states, .sl t0 dX p.messages, .sl t0 dX p.values, .int .i64 p.fault, .sl dc bM p.resilience, .sl 0 an p.initial, .sl 0 an p.leader, .sl ar dF p.rules]
def my (r:bp):Prop:=500<r.name.size\/60<r.response.length\/60<r.guards.length\/60<r.some_.length\/60<r.forall_.length\/60<r.send.length\/60<r.left.length\/60<r.right.length\/60<r.parent.length
instance (r:bp):Decidable (my r):=inferInstanceAs (Decidable (_\/_))
def mz (l:List ByteArray):Prop:=∃j,j<l.length/\500<(l.getD j t0).size
instance (l:List ByteArray):Decidable (mz l):=inferInstanceAs (Decidable (∃j,j<l.length/\_))
def fD (p:au):Prop:=500<p.name.size\/60<p.states.length\/60<p.messages.length\/60<p.values.length\/60<p.resilience.length\/60<p.initial.length\/60<p.leader.length\/30<p.rules.length\/
 (∃j,j<p.rules.length/\my (p.rules.getD j ar))\/mz p.states\/mz p.messages\/mz p.values
instance (p:au):Decidable (fD p):=inferInstanceAs (Decidable (_\/_))
theorem b7 {p:au} (h:¬fD p):p.name.size<=500/\p.states.length<=60/\p.messages.length<=60/\p.values.length<=60/\p.resilience.length<=60/\p.initial.length<=60/\p.leader.length<=60/\p.rules.length<=30:=by
 unfold fD at h
 omega
theorem fm {p:au} (h:¬fD p) {j:Nat} (hj:j<p.rules.length):¬my (p.rules.getD j ar):=fun hb=>h (by unfold fD;exact .inr (.inr (.inr (.inr (.inr (.inr (.inr (.inr (.inl ⟨j,hj,hb⟩)))))))))
theorem fE {r:bp} (h:¬my r):r.name.size<=500/\r.response.length<=60/\r.guards.length<=60/\r.some_.length<=60/\r.forall_.length<=60/\r.send.length<=60/\r.left.length<=60/\r.right.length<=60/\r.parent.length<=60:=by
 unfold my at h
 omega
def D2 (r:bp):Prop:=r.name.size<=140737488355328/\r.response.length<=140737488355328/\r.guards.length<=140737488355328/\r.some_.length<=140737488355328/\r.forall_.length<=140737488355328/\r.send.length<=140737488355328/\r.left.length<=140737488355328/\r.right.length<=140737488355328/\r.parent.length<=140737488355328
def uQ (l:List ByteArray):Prop:=∀s∈l,s.size<=140737488355328
structure gM (p:au):Prop where
 le:p.name.size<=140737488355328/\p.states.length<=140737488355328/\p.messages.length<=140737488355328/\p.values.length<=140737488355328/\p.resilience.length<=140737488355328/\p.initial.length<=140737488355328/\p.leader.length<=140737488355328/\p.rules.length<=140737488355328
 ru:∀j,j<p.rules.length->D2 (p.rules.getD j ar)
 ns:uQ p.states/\uQ p.messages/\uQ p.values
theorem wK {r:bp} (h:D2 r):r.name.size<=140737488355328/\r.response.length<=140737488355328/\r.guards.length<=140737488355328/\r.some_.length<=140737488355328/\r.forall_.length<=140737488355328/\r.send.length<=140737488355328/\r.left.length<=140737488355328/\r.right.length<=140737488355328/\r.parent.length<=140737488355328:=h
theorem iT {p:au} (h:gM p):p.name.size<=140737488355328/\p.states.length<=140737488355328/\p.messages.length<=140737488355328/\p.values.length<=140737488355328/\p.resilience.length<=140737488355328/\p.initial.length<=140737488355328/\p.leader.length<=140737488355328/\p.rules.length<=140737488355328:=h.le
theorem uR {p:au} (h:gM p) {j:Nat} (hj:j<p.rules.length):D2 (p.rules.getD j ar):=h.ru j hj
theorem sP {l:List ByteArray} (h:¬mz l):uQ l:=by
 intro s hs
 obtain⟨j,hj,e⟩:=List.getElem_of_mem hs
 refine Nat.le_of_not_lt fun hlt=>h ⟨j,hj,?_⟩
 rw[gD,gL hj,Option.getD_some,e]
 omega
theorem GN {r:bp} (h:¬my r):D2 r:=by have:=fE h;unfold D2;omega
theorem pL {p:au} (h:¬fD p):gM p:=by
 refine⟨by have:=b7 h;omega,fun j hj=>GN (fm h hj),?_⟩
 unfold fD at h
 simp only[not_or] at h
 exact⟨sP h.2.2.2.2.2.2.2.2.2.1,sP h.2.2.2.2.2.2.2.2.2.2.1,sP h.2.2.2.2.2.2.2.2.2.2.2⟩
def jC (l:List Int) (n:Int):Prop:=∀j,j<l.length->0<=l.getD j 0/\l.getD j 0<n
def wL (l:List Int):Prop:=∀j,j<l.length->0<j->l.getD (j-1) 0<l.getD j 0
instance (l:List Int) (n:Int):Decidable (jC l n):=inferInstanceAs (Decidable (∀j,j<l.length->_))
instance (l:List Int):Decidable (wL l):=inferInstanceAs (Decidable (∀j,j<l.length->_))
def bQ (l:List Int) (n:Int):Int:=if jC l n then(if wL l then 0 else 1) else 5
theorem ax (a b c:Int):ab Tryz.prog 146 [.int .i64 a, .int .i64 b, .int .i64 c] (fun u=>u= .bool (decide (b<=a/\a<=c))):=by
 refine ab.intro ac ag Tryz.func146 rfl (by decide) ?_;(conv=>whnf)
 repeat' first|(refine at_ ?_;conv=>whnf)|(refine ah (fun _=>?_) (fun _=>?_)<;>conv=>whnf)
 all_goals first
  |exact⟨az (by omega),rfl⟩
  |exact⟨aq (by omega),rfl⟩
theorem bk (l:List Int) (n:Int) (hl:l.length<=4503599627370496) (hn:-4611686018427387904<=n/\n<=4611686018427387904):ab Tryz.prog 144 [.sl 0 an l, .int .i64 n] (fun u=>u= .int .i64 (bQ l n)):=by
 refine ab.intro ac ag Tryz.func144 rfl (by decide) ?_;(conv=>whnf)
 refine aH.loopF ac ag (fun k:Nat=>k<=l.length/\∀j,j<k->0<=l.getD j 0/\l.getD j 0<n) (fun k=>[(5, .int .i64 (k:Int))]) (fun _=>[]) (fun k=>l.length-k) 0 ⟨by omega,fun j hj=>by omega⟩ ?_;conv=>whnf
 refine⟨sI,?_⟩
 rintro k ⟨hk,ha⟩
 conv=>whnf
 repeat' first|(refine at_ ?_;conv=>whnf)|(refine ah (fun _=>?_) (fun _=>?_)<;>conv=>whnf)
 ·refine dC (ax _ _ _) (fun _=>?_) (fun _=>?_)<;>(conv=>whnf)
  ·rename_i h2
   rw[tN] at h2
   repeat' first|(refine at_ ?_;conv=>whnf)|(refine ah (fun _=>?_) (fun _=>?_)<;>conv=>whnf)
   refine⟨k+1,sI,⟨by omega,fun j hj=>?_⟩,by dsimp only;omega⟩
   by_cases e:j=k
   ·subst e;omega
   ·exact ha j (by omega)
  ·rename_i h1 h2
   rw[tN] at h2
   refine⟨ae ?_,rfl⟩
   rw[bQ,if_neg]
   intro h
   have:=h k (by omega)
   omega
 ·have hin:jC l n:=fun j hj=>ha j (by omega)
  refine aH.loopF ac ag (fun k:Nat=>1<=k/\(k<=l.length\/k=1)/\∀j,j<k->j<l.length->0<j->l.getD (j-1) 0<l.getD j 0) (fun k=>[(6, .int .i64 (k:Int))]) (fun _=>[]) (fun k=>l.length-k) 1 ⟨by omega,by omega,fun j hj=>by omega⟩ ?_;conv=>whnf
  refine⟨sI,?_⟩
  rintro k ⟨hk,hk2,hb⟩
  conv=>whnf
  repeat' first|(refine at_ ?_;conv=>whnf)|(refine ah (fun _=>?_) (fun _=>?_)<;>conv=>whnf)
  ·rename_i h1 h2
   rw[tN,show((k:Int)-1).toNat=k-1 by omega] at h2
   refine⟨ae ?_,rfl⟩
   rw[bQ,if_pos hin,if_neg]
   intro h
   have:=h k (by omega) (by omega)
   omega
  ·rename_i h1 h2
   rw[tN,show((k:Int)-1).toNat=k-1 by omega] at h2
   refine⟨k+1,sI,⟨by omega,by omega,fun j hj hj2 hj3=>?_⟩,by dsimp only;omega⟩
   by_cases e:j=k
   ·subst e;omega
   ·exact hb j (by omega) hj2 hj3
  ·refine⟨ae ?_,rfl⟩
   rw[bQ,if_pos hin,if_pos]
   exact fun j hj h0=>hb j (by omega) hj h0
theorem lM (l:List Int) (n:Int) (hl:l.length<=4503599627370496):ab Tryz.prog 133 [.sl 0 an l, .int .i64 n] (fun u=>u= .int .i64 (bQ l n)):=by
 refine ab.intro ac ag Tryz.func133 rfl (by decide) ?_;(conv=>whnf)
 refine aH.loopF ac ag (fun k:Nat=>k<=l.length/\∀j,j<k->0<=l.getD j 0/\l.getD j 0<n) (fun k=>[(10, .int .i64 (k:Int))]) (fun _=>[]) (fun k=>l.length-k) 0 ⟨by omega,fun j hj=>by omega⟩ ?_;conv=>whnf
 refine⟨sI,?_⟩
 rintro k ⟨hk,ha⟩
 conv=>whnf
 refine ah (fun h1=>?_) (fun h1=>?_)<;>conv=>whnf
 ·by_cases h2:0<=l.getD (k:Int).toNat 0/\l.getD (k:Int).toNat 0<n
  ·repeat' first|(refine at_ ?_;conv=>whnf)|(refine ah (fun _=>?_) (fun _=>?_)<;>conv=>whnf)
   rw[tN] at h2
   refine⟨k+1,sI,⟨by omega,fun j hj=>?_⟩,by dsimp only;omega⟩
   by_cases e:j=k
   ·subst e;omega
   ·exact ha j (by omega)
  ·repeat' first|(refine at_ ?_;conv=>whnf)|(refine ah (fun _=>?_) (fun _=>?_)<;>conv=>whnf)
   all_goals
    rw[tN] at h2
    refine⟨ae ?_,rfl⟩
    rw[bQ,if_neg]
    intro h
    have:=h k (by omega)
    omega
 ·have hin:jC l n:=fun j hj=>ha j (by omega)
  refine aH.loopF ac ag (fun k:Nat=>1<=k/\(k<=l.length\/k=1)/\∀j,j<k->j<l.length->0<j->l.getD (j-1) 0<l.getD j 0) (fun k=>[(7, .int .i64 (k:Int))]) (fun _=>[]) (fun k=>l.length-k) 1 ⟨by omega,by omega,fun j hj=>by omega⟩ ?_;conv=>whnf
  refine⟨sI,?_⟩
  rintro k ⟨hk,hk2,hb⟩
  conv=>whnf
  repeat' first|(refine at_ ?_;conv=>whnf)|(refine ah (fun _=>?_) (fun _=>?_)<;>conv=>whnf)
  ·rename_i h1 h2
   rw[tN,show((k:Int)-1).toNat=k-1 by omega] at h2
   refine⟨ae ?_,rfl⟩
   rw[bQ,if_pos hin,if_neg]
   intro h
   have:=h k (by omega) (by omega)
   omega
  ·rename_i h1 h2
   rw[tN,show((k:Int)-1).toNat=k-1 by omega] at h2
   refine⟨k+1,sI,⟨by omega,by omega,fun j hj hj2 hj3=>?_⟩,by dsimp only;omega⟩
   by_cases e:j=k
   ·subst e;omega
   ·exact hb j (by omega) hj2 hj3
  ·refine⟨ae ?_,rfl⟩
   rw[bQ,if_pos hin,if_pos]
   exact fun j hj h0=>hb j (by omega) hj h0
set_option maxRecDepth 100000
def oa:List ByteArray:=[⟨#[112,114,111,116,111,99,111,108]⟩,⟨#[116,111,112,111,108,111,103,121]⟩,⟨#[115,116,97,116,101,115]⟩,⟨#[109,101,115,115,97,103,101,115]⟩,⟨#[118,97,108,117,101,115]⟩,⟨#[102,97,117,108,116,115]⟩,⟨#[114,101,115,105,108,105,101,110,99,101]⟩,⟨#[105,110,105,116,105,97,108]⟩,⟨#[108,101,97,100,101,114]⟩,⟨#[114,117,108,101]⟩,⟨#[108,111,99,97,108]⟩,⟨#[112,97,105,114]⟩,⟨#[98,114,111,97,100,99,97,115,116]⟩,⟨#[110,101,105,103,104,98,111,114]⟩,⟨#[112,97,115,115]⟩,⟨#[119,104,101,110]⟩,⟨#[101,120,105,115,116,115]⟩,⟨#[102,111,114,97,108,108]⟩,⟨#[114,101,97,100]⟩,⟨#[119,114,105,116,101]⟩,⟨#[115,101,110,100]⟩,⟨#[97,108,108]⟩,⟨#[97,116]⟩,⟨#[102,105,114,115,116]⟩,⟨#[108,97,115,116]⟩,⟨#[108,101,102,116]⟩,⟨#[114,105,103,104,116]⟩,⟨#[112,97,114,101,110,116]⟩,⟨#[99,104,105,108,100]⟩,⟨#[112,114,111,112,101,114,116,121]⟩,⟨#[110,101,118,101,114]⟩,⟨#[101,118,101,110,116,117,97,108,108,121]⟩,⟨#[115,116,97,114,116]⟩,⟨#[99,111,117,110,116]⟩,⟨#[97,100,106,97,99,101,110,116]⟩,⟨#[103,111,97,108]⟩,⟨#[99,108,105,113,117,101]⟩,⟨#[108,105,110,101]⟩,⟨#[114,105,110,103]⟩,⟨#[116,114,101,101]⟩,⟨#[99,114,97,115,104]⟩,⟨#[111,109,105,115,115,105,111,110]⟩,⟨#[97,114,98,105,116,114,97,114,121]⟩]
def fX:ByteArray:=⟨#[112,114,111,116,111,99,111,108,32,116,111,112,111,108,111,103,121,32,115,116,97,116,101,115,32,109,101,115,115,97,103,101,115,32,118,97,108,117,101,115,32,102,97,117,108,116,115,32,114,101,115,105,108,105,101,110,99,101,32,105,110,105,116,105,97,108,32,108,101,97,100,101,114,32,114,117,108,101,32,108,111,99,97,108,32,112,97,105,114,32,98,114,111,97,100,99,97,115,116,32,110,101,105,103,104,98,111,114,32,112,97,115,115,32,119,104,101,110,32,101,120,105,115,116,115,32,102,111,114,97,108,108,32,114,101,97,100,32,119,114,105,116,101,32,115,101,110,100,32,97,108,108,32,97,116,32,102,105,114,115,116,32,108,97,115,116,32,108,101,102,116,32,114,105,103,104,116,32,112,97,114,101,110,116,32,99,104,105,108,100,32,112,114,111,112,101,114,116,121,32,110,101,118,101,114,32,101,118,101,110,116,117,97,108,108,121,32,115,116,97,114,116,32,99,111,117,110,116,32,97,100,106,97,99,101,110,116,32,103,111,97,108,32,99,108,105,113,117,101,32,108,105,110,101,32,114,105,110,103,32,116,114,101,101,32,99,114,97,115,104,32,111,109,105,115,115,105,111,110,32,97,114,98,105,116,114,97,114,121]⟩
def lZ (s:ByteArray) (i:Nat):Nat:=(s.data.getD i 0).toNat
instance decMemB (s:ByteArray):(l:List ByteArray)->Decidable (s∈l)
 |[]=>isFalse (by simp)
 |x::l=>if h:s=x then isTrue (by simp[h]) else match decMemB s l with
  |isTrue h2=>isTrue (by simp[h2])
  |isFalse h2=>isFalse (by simp[h,h2])
def Bv (i:Nat):Int:=l0.getD ((lZ fX i:Nat):Int).toNat 0
def Af:Nat->Int×Int×Int
 |0=>(0,1,0)
 |i+1=>((Af i).1+jW .and .i64 (Af i).2.1 (jW .xor .i64 (if IntKind.i64.signed then -1 else IntKind.i64.max) (Bv i)),Bv i,jW .or .u8 (Af i).2.2 (lZ fX i:Int))
def nq:Nat->Nat×Nat×List ByteArray
 |0=>(0,0,List.replicate 43 t0)
 |i+1=>if Bv i=0 then nq i else((nq i).1+1,i+1,(nq i).2.2.set (nq i).1 (fX.extract (nq i).2.1 i))
theorem uS:l0.length=256:=by decide+kernel
theorem Bw:∀i,i<290->0<=(Af i).1/\(Af i).1<=1000:=by decide+kernel
theorem Bx:∀i,i<290->Bv i=0\/Bv i=1:=by decide+kernel
theorem x6:(Af 289).1=43/\(Af 289).2.2=127:=by decide+kernel
theorem Bz:∀i,i<289->Bv i≠0->i+1<289/\Bv (i+1)=0:=by decide+kernel
theorem uT:∀i,i<290->(nq i).1<43/\(nq i).2.1<=i/\(nq i).2.2.length=43:=by decide+kernel
theorem EB:(nq 289).1=42/\(nq 289).2.1=280/\(nq 289).2.2.set 42 (fX.extract 280 289)=oa:=by decide+kernel
theorem iG:fX.size=289:=by decide+kernel
theorem GO (s:ByteArray) (i:Nat):lZ s i<256:=by unfold lZ;exact UInt8.toNat_lt _
end Go.Proofs.YtnjggjhkfncnlaaGreatDoor
