import Derived.Test.YtekmminpfhacpaaGreatDoorF2
import Derived.Test.YtekmminpfhacpaaGreatDoorT1
set_option linter.unusedVariables false
set_option linter.unusedSimpArgs false
namespace Go.Proofs.YtekmminpfhacpaaGreatDoor
set_option maxRecDepth 100000
structure l7 where
 c:Int
 n:Int
 t:Int
 f:Int
instance decLin:DecidableEq l7:=fun a b=>
 if h:a.c=b.c/\a.n=b.n/\a.t=b.t/\a.f=b.f then isTrue (by cases a;cases b;simp_all) else isFalse (fun e=>h (by rw[e];exact⟨rfl,rfl,rfl,rfl⟩))
structure fL where
 message:Int
 coef:Int
 bound:l7
instance decThr:DecidableEq fL:=fun a b=>
 if h:a.message=b.message/\a.coef=b.coef/\a.bound=b.bound then isTrue (by cases a;cases b;simp_all) else isFalse (fun e=>h (by rw[e];exact⟨rfl,rfl,rfl⟩))
structure bE where
 name:ByteArray
 kind:Int
 src:Int
 dst:Int
 pfrom:Int
 pto:Int
 response:List Int
 guards:List fL
 some_:List Int
 forall_:List Int
 read:Int
 write:Int
 send:List Int
 at_:Int
 left:List Int
 right:List Int
 parent:List Int
 direction:Int
structure ap where
 name:ByteArray
 topology:Int
 states:List ByteArray
 messages:List ByteArray
 values:List ByteArray
 fault:Int
 resilience:List l7
 initial:List Int
 leader:List Int
 rules:List bE
def t0:ByteArray:=⟨#[]⟩
def ik:l7:=⟨0,0,0,0⟩
def aW:fL:=⟨0,0,ik⟩
def au:bE:=⟨t0,0,0,0,0,0,[],[],[],[],0,0,[],0,[],[],[],0⟩
def cV (l:l7):List AV:=[.int .i64 l.c, .int .i64 l.n, .int .i64 l.t, .int .i64 l.f]
def dJ (g:fL):List AV:=[.int .i64 g.message, .int .i64 g.coef, .int .i64 g.bound.c, .int .i64 g.bound.n, .int .i64 g.bound.t, .int .i64 g.bound.f]
def iu (r:bE):List AV:=[.str r.name, .int .i64 r.kind, .int .i64 r.src, .int .i64 r.dst, .int .i64 r.pfrom, .int .i64 r.pto, .sl 0 ak r.response, .sl aW dJ r.guards, .sl 0 ak r.some_, .sl 0 ak r.forall_,
 .int .i64 r.read, .int .i64 r.write, .sl 0 ak r.send, .int .i64 r.at_, .sl 0 ak r.left, .sl 0 ak r.right, .sl 0 ak r.parent, .int .i64 r.direction]
def dg (p:ap):List AV:=[.str p.name, .int .i64 p.topology, .sl t0 gc p.states, .sl t0 gc p.messages, .sl t0 gc p.values, .int .i64 p.fault, .sl ik cV p.resilience, .sl 0 ak p.initial, .sl 0 ak p.leader, .sl au iu p.rules]
def qy (r:bE):Prop:=500<r.name.size\/60<r.response.length\/60<r.guards.length\/60<r.some_.length\/60<r.forall_.length\/60<r.send.length\/60<r.left.length\/60<r.right.length\/60<r.parent.length
instance (r:bE):Decidable (qy r):=inferInstanceAs (Decidable (_\/_))
def pl (l:List ByteArray):Prop:=∃j,j<l.length/\500<(l.getD j t0).size
instance (l:List ByteArray):Decidable (pl l):=inferInstanceAs (Decidable (∃j,j<l.length/\_))
def jZ (p:ap):Prop:=500<p.name.size\/60<p.states.length\/60<p.messages.length\/60<p.values.length\/60<p.resilience.length\/60<p.initial.length\/60<p.leader.length\/30<p.rules.length\/
 (∃j,j<p.rules.length/\qy (p.rules.getD j au))\/pl p.states\/pl p.messages\/pl p.values
instance (p:ap):Decidable (jZ p):=inferInstanceAs (Decidable (_\/_))
theorem eX {p:ap} (h:¬jZ p):p.name.size<=500/\p.states.length<=60/\p.messages.length<=60/\p.values.length<=60/\p.resilience.length<=60/\p.initial.length<=60/\p.leader.length<=60/\p.rules.length<=30:=by
 unfold jZ at h
 omega
theorem i6 {p:ap} (h:¬jZ p) {j:Nat} (hj:j<p.rules.length):¬qy (p.rules.getD j au):=fun hb=>h (by unfold jZ;exact .inr (.inr (.inr (.inr (.inr (.inr (.inr (.inr (.inl ⟨j,hj,hb⟩)))))))))
theorem jM {r:bE} (h:¬qy r):r.name.size<=500/\r.response.length<=60/\r.guards.length<=60/\r.some_.length<=60/\r.forall_.length<=60/\r.send.length<=60/\r.left.length<=60/\r.right.length<=60/\r.parent.length<=60:=by
 unfold qy at h
 omega
def JS (r:bE):Prop:=r.name.size<=140737488355328/\r.response.length<=140737488355328/\r.guards.length<=140737488355328/\r.some_.length<=140737488355328/\r.forall_.length<=140737488355328/\r.send.length<=140737488355328/\r.left.length<=140737488355328/\r.right.length<=140737488355328/\r.parent.length<=140737488355328
def yV (l:List ByteArray):Prop:=∀s∈l,s.size<=140737488355328
structure qz (p:ap):Prop where
 le:p.name.size<=140737488355328/\p.states.length<=140737488355328/\p.messages.length<=140737488355328/\p.values.length<=140737488355328/\p.resilience.length<=140737488355328/\p.initial.length<=140737488355328/\p.leader.length<=140737488355328/\p.rules.length<=140737488355328
 ru:∀j,j<p.rules.length->JS (p.rules.getD j au)
 ns:yV p.states/\yV p.messages/\yV p.values
theorem Gt {r:bE} (h:JS r):r.name.size<=140737488355328/\r.response.length<=140737488355328/\r.guards.length<=140737488355328/\r.some_.length<=140737488355328/\r.forall_.length<=140737488355328/\r.send.length<=140737488355328/\r.left.length<=140737488355328/\r.right.length<=140737488355328/\r.parent.length<=140737488355328:=h
theorem tA {p:ap} (h:qz p):p.name.size<=140737488355328/\p.states.length<=140737488355328/\p.messages.length<=140737488355328/\p.values.length<=140737488355328/\p.resilience.length<=140737488355328/\p.initial.length<=140737488355328/\p.leader.length<=140737488355328/\p.rules.length<=140737488355328:=h.le
theorem Gu {p:ap} (h:qz p) {j:Nat} (hj:j<p.rules.length):JS (p.rules.getD j au):=h.ru j hj
theorem wP {l:List ByteArray} (h:¬pl l):yV l:=by
 intro s hs
 obtain⟨j,hj,e⟩:=List.getElem_of_mem hs
 refine Nat.le_of_not_lt fun hlt=>h ⟨j,hj,?_⟩
 rw[gD,gL hj,Option.getD_some,e]
 omega
theorem ND {r:bE} (h:¬qy r):JS r:=by have:=jM h;unfold JS;omega
theorem wQ {p:ap} (h:¬jZ p):qz p:=by
 refine⟨by have:=eX h;omega,fun j hj=>ND (i6 h hj),?_⟩
 unfold jZ at h
 simp only[not_or] at h
 exact⟨wP h.2.2.2.2.2.2.2.2.2.1,wP h.2.2.2.2.2.2.2.2.2.2.1,wP h.2.2.2.2.2.2.2.2.2.2.2⟩
def qA (l:List Int) (n:Int):Prop:=∀j,j<l.length->0<=l.getD j 0/\l.getD j 0<n
def Ex (l:List Int):Prop:=∀j,j<l.length->0<j->l.getD (j-1) 0<l.getD j 0
instance (l:List Int) (n:Int):Decidable (qA l n):=inferInstanceAs (Decidable (∀j,j<l.length->_))
instance (l:List Int):Decidable (Ex l):=inferInstanceAs (Decidable (∀j,j<l.length->_))
def cE (l:List Int) (n:Int):Int:=if qA l n then(if Ex l then 0 else 1) else 5
theorem ou (l:List Int) (n:Int) (hl:l.length<=4503599627370496):ab Tryz.prog 155 [.sl 0 ak l, .int .i64 n] (fun u=>u= .int .i64 (cE l n)):=by
 refine ab.intro ae ag Tryz.func155 rfl (by decide) ?_;(conv=>whnf)
 refine a8.loopF ae ag (fun k:Nat=>k<=l.length/\∀j,j<k->0<=l.getD j 0/\l.getD j 0<n) (fun k=>[(10, .int .i64 (k:Int))]) (fun _=>[]) (fun k=>l.length-k) 0 ⟨by omega,fun j hj=>by omega⟩ ?_;conv=>whnf
 refine⟨sI,?_⟩
 rintro k ⟨hk,ha⟩
 conv=>whnf
 refine ai (fun h1=>?_) (fun h1=>?_)<;>conv=>whnf
 ·by_cases h2:0<=l.getD (k:Int).toNat 0/\l.getD (k:Int).toNat 0<n
  ·repeat' first|(refine at_ ?_;conv=>whnf)|(refine ai (fun _=>?_) (fun _=>?_)<;>conv=>whnf)
   rw[tN] at h2
   refine⟨k+1,sI,⟨by omega,fun j hj=>?_⟩,by dsimp only;omega⟩
   by_cases e:j=k
   ·subst e;omega
   ·exact ha j (by omega)
  ·repeat' first|(refine at_ ?_;conv=>whnf)|(refine ai (fun _=>?_) (fun _=>?_)<;>conv=>whnf)
   all_goals
    rw[tN] at h2
    refine⟨aq ?_,rfl⟩
    rw[cE,if_neg]
    intro h
    have:=h k (by omega)
    omega
 ·have hin:qA l n:=fun j hj=>ha j (by omega)
  refine a8.loopF ae ag (fun k:Nat=>1<=k/\(k<=l.length\/k=1)/\∀j,j<k->j<l.length->0<j->l.getD (j-1) 0<l.getD j 0) (fun k=>[(7, .int .i64 (k:Int))]) (fun _=>[]) (fun k=>l.length-k) 1 ⟨by omega,by omega,fun j hj=>by omega⟩ ?_;conv=>whnf
  refine⟨sI,?_⟩
  rintro k ⟨hk,hk2,hb⟩
  conv=>whnf
  repeat' first|(refine at_ ?_;conv=>whnf)|(refine ai (fun _=>?_) (fun _=>?_)<;>conv=>whnf)
  ·rename_i h1 h2
   rw[tN,show((k:Int)-1).toNat=k-1 by omega] at h2
   refine⟨aq ?_,rfl⟩
   rw[cE,if_pos hin,if_neg]
   intro h
   have:=h k (by omega) (by omega)
   omega
  ·rename_i h1 h2
   rw[tN,show((k:Int)-1).toNat=k-1 by omega] at h2
   refine⟨k+1,sI,⟨by omega,by omega,fun j hj hj2 hj3=>?_⟩,by dsimp only;omega⟩
   by_cases e:j=k
   ·subst e;omega
   ·exact hb j (by omega) hj2 hj3
  ·refine⟨aq ?_,rfl⟩
   rw[cE,if_pos hin,if_pos]
   exact fun j hj h0=>hb j (by omega) hj h0
set_option maxRecDepth 100000
def yW:List ByteArray:=[⟨#[112,114,111,116,111,99,111,108]⟩,⟨#[116,111,112,111,108,111,103,121]⟩,⟨#[115,116,97,116,101,115]⟩,⟨#[109,101,115,115,97,103,101,115]⟩,⟨#[118,97,108,117,101,115]⟩,⟨#[102,97,117,108,116,115]⟩,⟨#[114,101,115,105,108,105,101,110,99,101]⟩,⟨#[105,110,105,116,105,97,108]⟩,⟨#[108,101,97,100,101,114]⟩,⟨#[114,117,108,101]⟩,⟨#[108,111,99,97,108]⟩,⟨#[112,97,105,114]⟩,⟨#[98,114,111,97,100,99,97,115,116]⟩,⟨#[110,101,105,103,104,98,111,114]⟩,⟨#[112,97,115,115]⟩,⟨#[119,104,101,110]⟩,⟨#[101,120,105,115,116,115]⟩,⟨#[102,111,114,97,108,108]⟩,⟨#[114,101,97,100]⟩,⟨#[119,114,105,116,101]⟩,⟨#[115,101,110,100]⟩,⟨#[97,108,108]⟩,⟨#[97,116]⟩,⟨#[102,105,114,115,116]⟩,⟨#[108,97,115,116]⟩,⟨#[108,101,102,116]⟩,⟨#[114,105,103,104,116]⟩,⟨#[112,97,114,101,110,116]⟩,⟨#[99,104,105,108,100]⟩,⟨#[112,114,111,112,101,114,116,121]⟩,⟨#[110,101,118,101,114]⟩,⟨#[101,118,101,110,116,117,97,108,108,121]⟩,⟨#[115,116,97,114,116]⟩,⟨#[99,111,117,110,116]⟩,⟨#[97,100,106,97,99,101,110,116]⟩,⟨#[103,111,97,108]⟩,⟨#[99,108,105,113,117,101]⟩,⟨#[108,105,110,101]⟩,⟨#[114,105,110,103]⟩,⟨#[116,114,101,101]⟩,⟨#[99,114,97,115,104]⟩,⟨#[111,109,105,115,115,105,111,110]⟩,⟨#[97,114,98,105,116,114,97,114,121]⟩]
def gN:ByteArray:=⟨#[112,114,111,116,111,99,111,108,32,116,111,112,111,108,111,103,121,32,115,116,97,116,101,115,32,109,101,115,115,97,103,101,115,32,118,97,108,117,101,115,32,102,97,117,108,116,115,32,114,101,115,105,108,105,101,110,99,101,32,105,110,105,116,105,97,108,32,108,101,97,100,101,114,32,114,117,108,101,32,108,111,99,97,108,32,112,97,105,114,32,98,114,111,97,100,99,97,115,116,32,110,101,105,103,104,98,111,114,32,112,97,115,115,32,119,104,101,110,32,101,120,105,115,116,115,32,102,111,114,97,108,108,32,114,101,97,100,32,119,114,105,116,101,32,115,101,110,100,32,97,108,108,32,97,116,32,102,105,114,115,116,32,108,97,115,116,32,108,101,102,116,32,114,105,103,104,116,32,112,97,114,101,110,116,32,99,104,105,108,100,32,112,114,111,112,101,114,116,121,32,110,101,118,101,114,32,101,118,101,110,116,117,97,108,108,121,32,115,116,97,114,116,32,99,111,117,110,116,32,97,100,106,97,99,101,110,116,32,103,111,97,108,32,99,108,105,113,117,101,32,108,105,110,101,32,114,105,110,103,32,116,114,101,101,32,99,114,97,115,104,32,111,109,105,115,115,105,111,110,32,97,114,98,105,116,114,97,114,121]⟩
def rS (s:ByteArray) (i:Nat):Nat:=(s.data.getD i 0).toNat
instance decMemB (s:ByteArray):(l:List ByteArray)->Decidable (s∈l)
 |[]=>isFalse (by simp)
 |x::l=>if h:s=x then isTrue (by simp[h]) else match decMemB s l with
  |isTrue h2=>isTrue (by simp[h2])
  |isFalse h2=>isFalse (by simp[h,h2])
def Gv (i:Nat):Int:=oK.getD ((rS gN i:Nat):Int).toNat 0
def Fs:Nat->Int×Int×Int
 |0=>(0,1,0)
 |i+1=>((Fs i).1+lT .and .i64 (Fs i).2.1 (lT .xor .i64 (if IntKind.i64.signed then -1 else IntKind.i64.max) (Gv i)),Gv i,lT .or .u8 (Fs i).2.2 (rS gN i:Int))
def qB:Nat->Nat×Nat×List ByteArray
 |0=>(0,0,List.replicate 43 t0)
 |i+1=>if Gv i=0 then qB i else((qB i).1+1,i+1,(qB i).2.2.set (qB i).1 (gN.extract (qB i).2.1 i))
theorem yX:oK.length=256:=by decide+kernel
theorem Gw:∀i,i<290->0<=(Fs i).1/\(Fs i).1<=1000:=by decide+kernel
theorem Gx:∀i,i<290->Gv i=0\/Gv i=1:=by decide+kernel
theorem CI:(Fs 289).1=43/\(Fs 289).2.2=127:=by decide+kernel
theorem Gy:∀i,i<289->Gv i≠0->i+1<289/\Gv (i+1)=0:=by decide+kernel
theorem yY:∀i,i<290->(qB i).1<43/\(qB i).2.1<=i/\(qB i).2.2.length=43:=by decide+kernel
theorem Kw:(qB 289).1=42/\(qB 289).2.1=280/\(qB 289).2.2.set 42 (gN.extract 280 289)=yW:=by decide+kernel
theorem jN:gN.size=289:=by decide+kernel
theorem NE (s:ByteArray) (i:Nat):rS s i<256:=by unfold rS;exact UInt8.toNat_lt _
end Go.Proofs.YtekmminpfhacpaaGreatDoor
