import Derived.Test.YtekmminpfhacpaaGreatDoorF2
import Derived.Test.YtekmminpfhacpaaGreatDoorT1
set_option linter.unusedVariables false
set_option linter.unusedSimpArgs false
namespace Go.Proofs.YtekmminpfhacpaaGreatDoor
set_option maxRecDepth 100000
structure lp where
 c:Int
 n:Int
 t:Int
 f:Int
instance decLin:DecidableEq lp:=fun a b=>
 if h:a.c=b.c/\a.n=b.n/\a.t=b.t/\a.f=b.f then isTrue (by cases a;cases b;simp_all) else isFalse (fun e=>h (by rw[e];exact⟨rfl,rfl,rfl,rfl⟩))
structure fH where
 message:Int
 coef:Int
 bound:lp
instance decThr:DecidableEq fH:=fun a b=>
 if h:a.message=b.message/\a.coef=b.coef/\a.bound=b.bound then isTrue (by cases a;cases b;simp_all) else isFalse (fun e=>h (by rw[e];exact⟨rfl,rfl,rfl⟩))
structure cf where
 name:ByteArray
 kind:Int
 src:Int
 dst:Int
 pfrom:Int
 pto:Int
 response:List Int
 guards:List fH
 some_:List Int
 forall_:List Int
 read:Int
 write:Int
 send:List Int
 at_:Int
 left:List Int
 right:List Int
 parent:List Int
 direction:Int
structure av where
 name:ByteArray
 topology:Int
 states:List ByteArray
 messages:List ByteArray
 values:List ByteArray
 fault:Int
 resilience:List lp
 initial:List Int
 leader:List Int
 rules:List cf
def t0:ByteArray:=⟨#[]⟩
def eX:lp:=⟨0,0,0,0⟩
def aM:fH:=⟨0,0,eX⟩
def ax:cf:=⟨t0,0,0,0,0,0,[],[],[],[],0,0,[],0,[],[],[],0⟩
def cq (l:lp):List AV:=[.int .i64 l.c, .int .i64 l.n, .int .i64 l.t, .int .i64 l.f]
def cg (g:fH):List AV:=[.int .i64 g.message, .int .i64 g.coef, .int .i64 g.bound.c, .int .i64 g.bound.n, .int .i64 g.bound.t, .int .i64 g.bound.f]
def iL (r:cf):List AV:=[.str r.name, .int .i64 r.kind, .int .i64 r.src, .int .i64 r.dst, .int .i64 r.pfrom, .int .i64 r.pto, .sl 0 al r.response, .sl aM cg r.guards, .sl 0 al r.some_, .sl 0 al r.forall_,
 .int .i64 r.read, .int .i64 r.write, .sl 0 al r.send, .int .i64 r.at_, .sl 0 al r.left, .sl 0 al r.right, .sl 0 al r.parent, .int .i64 r.direction]
def cV (p:av):List AV:=[.str p.name, .int .i64 p.topology, .sl t0 fo p.states, .sl t0 fo p.messages, .sl t0 fo p.values, .int .i64 p.fault, .sl eX cq p.resilience, .sl 0 al p.initial, .sl 0 al p.leader, .sl ax iL p.rules]
def tv (r:cf):Prop:=500<r.name.size\/60<r.response.length\/60<r.guards.length\/60<r.some_.length\/60<r.forall_.length\/60<r.send.length\/60<r.left.length\/60<r.right.length\/60<r.parent.length
instance (r:cf):Decidable (tv r):=inferInstanceAs (Decidable (_\/_))
def pj (l:List ByteArray):Prop:=∃j,j<l.length/\500<(l.getD j t0).size
instance (l:List ByteArray):Decidable (pj l):=inferInstanceAs (Decidable (∃j,j<l.length/\_))
def tw (p:av):Prop:=500<p.name.size\/60<p.states.length\/60<p.messages.length\/60<p.values.length\/60<p.resilience.length\/60<p.initial.length\/60<p.leader.length\/30<p.rules.length\/
 (∃j,j<p.rules.length/\tv (p.rules.getD j ax))\/pj p.states\/pj p.messages\/pj p.values
instance (p:av):Decidable (tw p):=inferInstanceAs (Decidable (_\/_))
theorem rQ {p:av} (h:¬tw p):p.name.size<=500/\p.states.length<=60/\p.messages.length<=60/\p.values.length<=60/\p.resilience.length<=60/\p.initial.length<=60/\p.leader.length<=60/\p.rules.length<=30:=by
 unfold tw at h
 omega
theorem vC {p:av} (h:¬tw p) {j:Nat} (hj:j<p.rules.length):¬tv (p.rules.getD j ax):=fun hb=>h (by unfold tw;exact .inr (.inr (.inr (.inr (.inr (.inr (.inr (.inr (.inl ⟨j,hj,hb⟩)))))))))
theorem CA {r:cf} (h:¬tv r):r.name.size<=500/\r.response.length<=60/\r.guards.length<=60/\r.some_.length<=60/\r.forall_.length<=60/\r.send.length<=60/\r.left.length<=60/\r.right.length<=60/\r.parent.length<=60:=by
 unfold tv at h
 omega
def IC (r:cf):Prop:=r.name.size<=140737488355328/\r.response.length<=140737488355328/\r.guards.length<=140737488355328/\r.some_.length<=140737488355328/\r.forall_.length<=140737488355328/\r.send.length<=140737488355328/\r.left.length<=140737488355328/\r.right.length<=140737488355328/\r.parent.length<=140737488355328
def yY (l:List ByteArray):Prop:=∀s∈l,s.size<=140737488355328
structure lO (p:av):Prop where
 le:p.name.size<=140737488355328/\p.states.length<=140737488355328/\p.messages.length<=140737488355328/\p.values.length<=140737488355328/\p.resilience.length<=140737488355328/\p.initial.length<=140737488355328/\p.leader.length<=140737488355328/\p.rules.length<=140737488355328
 ru:∀j,j<p.rules.length->IC (p.rules.getD j ax)
 ns:yY p.states/\yY p.messages/\yY p.values
theorem Ba {r:cf} (h:IC r):r.name.size<=140737488355328/\r.response.length<=140737488355328/\r.guards.length<=140737488355328/\r.some_.length<=140737488355328/\r.forall_.length<=140737488355328/\r.send.length<=140737488355328/\r.left.length<=140737488355328/\r.right.length<=140737488355328/\r.parent.length<=140737488355328:=h
theorem kj {p:av} (h:lO p):p.name.size<=140737488355328/\p.states.length<=140737488355328/\p.messages.length<=140737488355328/\p.values.length<=140737488355328/\p.resilience.length<=140737488355328/\p.initial.length<=140737488355328/\p.leader.length<=140737488355328/\p.rules.length<=140737488355328:=h.le
theorem yZ {p:av} (h:lO p) {j:Nat} (hj:j<p.rules.length):IC (p.rules.getD j ax):=h.ru j hj
theorem wY {l:List ByteArray} (h:¬pj l):yY l:=by
 intro s hs
 obtain⟨j,hj,e⟩:=List.getElem_of_mem hs
 refine Nat.le_of_not_lt fun hlt=>h ⟨j,hj,?_⟩
 rw[gD,gL hj,Option.getD_some,e]
 omega
theorem LK {r:cf} (h:¬tv r):IC r:=by have:=CA h;unfold IC;omega
theorem LN {p:av} (h:¬tw p):lO p:=by
 refine⟨by have:=rQ h;omega,fun j hj=>LK (vC h hj),?_⟩
 unfold tw at h
 simp only[not_or] at h
 exact⟨wY h.2.2.2.2.2.2.2.2.2.1,wY h.2.2.2.2.2.2.2.2.2.2.1,wY h.2.2.2.2.2.2.2.2.2.2.2⟩
def rE (l:List Int) (n:Int):Prop:=∀j,j<l.length->0<=l.getD j 0/\l.getD j 0<n
def Bb (l:List Int):Prop:=∀j,j<l.length->0<j->l.getD (j-1) 0<l.getD j 0
instance (l:List Int) (n:Int):Decidable (rE l n):=inferInstanceAs (Decidable (∀j,j<l.length->_))
instance (l:List Int):Decidable (Bb l):=inferInstanceAs (Decidable (∀j,j<l.length->_))
def ca (l:List Int) (n:Int):Int:=if rE l n then(if Bb l then 0 else 1) else 5
theorem bV (a b c:Int):ah Tryz.prog 204 [.int .i64 a, .int .i64 b, .int .i64 c] (fun u=>u= .bool (decide (b<=a/\a<=c))):=by
 refine ah.intro ab ac Tryz.func204 rfl (by decide) ?_;(conv=>whnf)
 repeat' first|(refine at_ ?_;conv=>whnf)|(refine ae (fun _=>?_) (fun _=>?_)<;>conv=>whnf)
 all_goals first
  |exact⟨bE (by omega),rfl⟩
  |exact⟨aA (by omega),rfl⟩
theorem tx (l:List Int) (n:Int) (hl:l.length<=4503599627370496) (hn:-4611686018427387904<=n/\n<=4611686018427387904):ah Tryz.prog 202 [.sl 0 al l, .int .i64 n] (fun u=>u= .int .i64 (ca l n)):=by
 refine ah.intro ab ac Tryz.func202 rfl (by decide) ?_;(conv=>whnf)
 refine aJ.loopF ab ac (fun k:Nat=>k<=l.length/\∀j,j<k->0<=l.getD j 0/\l.getD j 0<n) (fun k=>[(5, .int .i64 (k:Int))]) (fun _=>[]) (fun k=>l.length-k) 0 ⟨by omega,fun j hj=>by omega⟩ ?_;conv=>whnf
 refine⟨sI,?_⟩
 rintro k ⟨hk,ha⟩
 conv=>whnf
 repeat' first|(refine at_ ?_;conv=>whnf)|(refine ae (fun _=>?_) (fun _=>?_)<;>conv=>whnf)
 ·refine dC (bV _ _ _) (fun _=>?_) (fun _=>?_)<;>(conv=>whnf)
  ·rename_i h2
   rw[tN] at h2
   repeat' first|(refine at_ ?_;conv=>whnf)|(refine ae (fun _=>?_) (fun _=>?_)<;>conv=>whnf)
   refine⟨k+1,sI,⟨by omega,fun j hj=>?_⟩,by dsimp only;omega⟩
   by_cases e:j=k
   ·subst e;omega
   ·exact ha j (by omega)
  ·rename_i h1 h2
   rw[tN] at h2
   refine⟨ao ?_,rfl⟩
   rw[ca,if_neg]
   intro h
   have:=h k (by omega)
   omega
 ·have hin:rE l n:=fun j hj=>ha j (by omega)
  refine aJ.loopF ab ac (fun k:Nat=>1<=k/\(k<=l.length\/k=1)/\∀j,j<k->j<l.length->0<j->l.getD (j-1) 0<l.getD j 0) (fun k=>[(6, .int .i64 (k:Int))]) (fun _=>[]) (fun k=>l.length-k) 1 ⟨by omega,by omega,fun j hj=>by omega⟩ ?_;conv=>whnf
  refine⟨sI,?_⟩
  rintro k ⟨hk,hk2,hb⟩
  conv=>whnf
  repeat' first|(refine at_ ?_;conv=>whnf)|(refine ae (fun _=>?_) (fun _=>?_)<;>conv=>whnf)
  ·rename_i h1 h2
   rw[tN,show((k:Int)-1).toNat=k-1 by omega] at h2
   refine⟨ao ?_,rfl⟩
   rw[ca,if_pos hin,if_neg]
   intro h
   have:=h k (by omega) (by omega)
   omega
  ·rename_i h1 h2
   rw[tN,show((k:Int)-1).toNat=k-1 by omega] at h2
   refine⟨k+1,sI,⟨by omega,by omega,fun j hj hj2 hj3=>?_⟩,by dsimp only;omega⟩
   by_cases e:j=k
   ·subst e;omega
   ·exact hb j (by omega) hj2 hj3
  ·refine⟨ao ?_,rfl⟩
   rw[ca,if_pos hin,if_pos]
   exact fun j hj h0=>hb j (by omega) hj h0
theorem oc (l:List Int) (n:Int) (hl:l.length<=4503599627370496):ah Tryz.prog 155 [.sl 0 al l, .int .i64 n] (fun u=>u= .int .i64 (ca l n)):=by
 refine ah.intro ab ac Tryz.func155 rfl (by decide) ?_;(conv=>whnf)
 refine aJ.loopF ab ac (fun k:Nat=>k<=l.length/\∀j,j<k->0<=l.getD j 0/\l.getD j 0<n) (fun k=>[(10, .int .i64 (k:Int))]) (fun _=>[]) (fun k=>l.length-k) 0 ⟨by omega,fun j hj=>by omega⟩ ?_;conv=>whnf
 refine⟨sI,?_⟩
 rintro k ⟨hk,ha⟩
 conv=>whnf
 refine ae (fun h1=>?_) (fun h1=>?_)<;>conv=>whnf
 ·by_cases h2:0<=l.getD (k:Int).toNat 0/\l.getD (k:Int).toNat 0<n
  ·repeat' first|(refine at_ ?_;conv=>whnf)|(refine ae (fun _=>?_) (fun _=>?_)<;>conv=>whnf)
   rw[tN] at h2
   refine⟨k+1,sI,⟨by omega,fun j hj=>?_⟩,by dsimp only;omega⟩
   by_cases e:j=k
   ·subst e;omega
   ·exact ha j (by omega)
  ·repeat' first|(refine at_ ?_;conv=>whnf)|(refine ae (fun _=>?_) (fun _=>?_)<;>conv=>whnf)
   all_goals
    rw[tN] at h2
    refine⟨ao ?_,rfl⟩
    rw[ca,if_neg]
    intro h
    have:=h k (by omega)
    omega
 ·have hin:rE l n:=fun j hj=>ha j (by omega)
  refine aJ.loopF ab ac (fun k:Nat=>1<=k/\(k<=l.length\/k=1)/\∀j,j<k->j<l.length->0<j->l.getD (j-1) 0<l.getD j 0) (fun k=>[(7, .int .i64 (k:Int))]) (fun _=>[]) (fun k=>l.length-k) 1 ⟨by omega,by omega,fun j hj=>by omega⟩ ?_;conv=>whnf
  refine⟨sI,?_⟩
  rintro k ⟨hk,hk2,hb⟩
  conv=>whnf
  repeat' first|(refine at_ ?_;conv=>whnf)|(refine ae (fun _=>?_) (fun _=>?_)<;>conv=>whnf)
  ·rename_i h1 h2
   rw[tN,show((k:Int)-1).toNat=k-1 by omega] at h2
   refine⟨ao ?_,rfl⟩
   rw[ca,if_pos hin,if_neg]
   intro h
   have:=h k (by omega) (by omega)
   omega
  ·rename_i h1 h2
   rw[tN,show((k:Int)-1).toNat=k-1 by omega] at h2
   refine⟨k+1,sI,⟨by omega,by omega,fun j hj hj2 hj3=>?_⟩,by dsimp only;omega⟩
   by_cases e:j=k
   ·subst e;omega
   ·exact hb j (by omega) hj2 hj3
  ·refine⟨ao ?_,rfl⟩
   rw[ca,if_pos hin,if_pos]
   exact fun j hj h0=>hb j (by omega) hj h0
set_option maxRecDepth 100000
def rh:List ByteArray:=[⟨#[112,114,111,116,111,99,111,108]⟩,⟨#[116,111,112,111,108,111,103,121]⟩,⟨#[115,116,97,116,101,115]⟩,⟨#[109,101,115,115,97,103,101,115]⟩,⟨#[118,97,108,117,101,115]⟩,⟨#[102,97,117,108,116,115]⟩,⟨#[114,101,115,105,108,105,101,110,99,101]⟩,⟨#[105,110,105,116,105,97,108]⟩,⟨#[108,101,97,100,101,114]⟩,⟨#[114,117,108,101]⟩,⟨#[108,111,99,97,108]⟩,⟨#[112,97,105,114]⟩,⟨#[98,114,111,97,100,99,97,115,116]⟩,⟨#[110,101,105,103,104,98,111,114]⟩,⟨#[112,97,115,115]⟩,⟨#[119,104,101,110]⟩,⟨#[101,120,105,115,116,115]⟩,⟨#[102,111,114,97,108,108]⟩,⟨#[114,101,97,100]⟩,⟨#[119,114,105,116,101]⟩,⟨#[115,101,110,100]⟩,⟨#[97,108,108]⟩,⟨#[97,116]⟩,⟨#[102,105,114,115,116]⟩,⟨#[108,97,115,116]⟩,⟨#[108,101,102,116]⟩,⟨#[114,105,103,104,116]⟩,⟨#[112,97,114,101,110,116]⟩,⟨#[99,104,105,108,100]⟩,⟨#[112,114,111,112,101,114,116,121]⟩,⟨#[110,101,118,101,114]⟩,⟨#[101,118,101,110,116,117,97,108,108,121]⟩,⟨#[115,116,97,114,116]⟩,⟨#[99,111,117,110,116]⟩,⟨#[97,100,106,97,99,101,110,116]⟩,⟨#[103,111,97,108]⟩,⟨#[99,108,105,113,117,101]⟩,⟨#[108,105,110,101]⟩,⟨#[114,105,110,103]⟩,⟨#[116,114,101,101]⟩,⟨#[99,114,97,115,104]⟩,⟨#[111,109,105,115,115,105,111,110]⟩,⟨#[97,114,98,105,116,114,97,114,121]⟩]
def hZ:ByteArray:=⟨#[112,114,111,116,111,99,111,108,32,116,111,112,111,108,111,103,121,32,115,116,97,116,101,115,32,109,101,115,115,97,103,101,115,32,118,97,108,117,101,115,32,102,97,117,108,116,115,32,114,101,115,105,108,105,101,110,99,101,32,105,110,105,116,105,97,108,32,108,101,97,100,101,114,32,114,117,108,101,32,108,111,99,97,108,32,112,97,105,114,32,98,114,111,97,100,99,97,115,116,32,110,101,105,103,104,98,111,114,32,112,97,115,115,32,119,104,101,110,32,101,120,105,115,116,115,32,102,111,114,97,108,108,32,114,101,97,100,32,119,114,105,116,101,32,115,101,110,100,32,97,108,108,32,97,116,32,102,105,114,115,116,32,108,97,115,116,32,108,101,102,116,32,114,105,103,104,116,32,112,97,114,101,110,116,32,99,104,105,108,100,32,112,114,111,112,101,114,116,121,32,110,101,118,101,114,32,101,118,101,110,116,117,97,108,108,121,32,115,116,97,114,116,32,99,111,117,110,116,32,97,100,106,97,99,101,110,116,32,103,111,97,108,32,99,108,105,113,117,101,32,108,105,110,101,32,114,105,110,103,32,116,114,101,101,32,99,114,97,115,104,32,111,109,105,115,115,105,111,110,32,97,114,98,105,116,114,97,114,121]⟩
def oG (s:ByteArray) (i:Nat):Nat:=(s.data.getD i 0).toNat
instance decMemB (s:ByteArray):(l:List ByteArray)->Decidable (s∈l)
 |[]=>isFalse (by simp)
 |x::l=>if h:s=x then isTrue (by simp[h]) else match decMemB s l with
  |isTrue h2=>isTrue (by simp[h2])
  |isFalse h2=>isFalse (by simp[h,h2])
def F' (i:Nat):Int:=oJ.getD ((oG hZ i:Nat):Int).toNat 0
def Fg:Nat->Int×Int×Int
 |0=>(0,1,0)
 |i+1=>((Fg i).1+lU .and .i64 (Fg i).2.1 (lU .xor .i64 (if IntKind.i64.signed then -1 else IntKind.i64.max) (F' i)),F' i,lU .or .u8 (Fg i).2.2 (oG hZ i:Int))
def qo:Nat->Nat×Nat×List ByteArray
 |0=>(0,0,List.replicate 43 t0)
 |i+1=>if F' i=0 then qo i else((qo i).1+1,i+1,(qo i).2.2.set (qo i).1 (hZ.extract (qo i).2.1 i))
theorem y3:oJ.length=256:=by decide+kernel
theorem Ga:∀i,i<290->0<=(Fg i).1/\(Fg i).1<=1000:=by decide+kernel
theorem Gb:∀i,i<290->F' i=0\/F' i=1:=by decide+kernel
theorem CB:(Fg 289).1=43/\(Fg 289).2.2=127:=by decide+kernel
theorem Gc:∀i,i<289->F' i≠0->i+1<289/\F' (i+1)=0:=by decide+kernel
theorem y4:∀i,i<290->(qo i).1<43/\(qo i).2.1<=i/\(qo i).2.2.length=43:=by decide+kernel
theorem Jn:(qo 289).1=42/\(qo 289).2.1=280/\(qo 289).2.2.set 42 (hZ.extract 280 289)=rh:=by decide+kernel
theorem jV:hZ.size=289:=by decide+kernel
theorem LO (s:ByteArray) (i:Nat):oG s i<256:=by unfold oG;exact UInt8.toNat_lt _
end Go.Proofs.YtekmminpfhacpaaGreatDoor
