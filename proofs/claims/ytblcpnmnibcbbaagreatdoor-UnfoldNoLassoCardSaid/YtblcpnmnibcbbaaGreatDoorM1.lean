import Derived.Test.YtblcpnmnibcbbaaGreatDoorF2
import Derived.Test.YtblcpnmnibcbbaaGreatDoorT1
set_option linter.unusedVariables false
set_option linter.unusedSimpArgs false
namespace Go.Proofs.YtblcpnmnibcbbaaGreatDoor
set_option maxRecDepth 100000
structure wA where
 c:Int
 n:Int
 t:Int
 f:Int
instance decLin:DecidableEq wA:=fun a b=>
 if h:a.c=b.c/\a.n=b.n/\a.t=b.t/\a.f=b.f then isTrue (by cases a;cases b;simp_all) else isFalse (fun e=>h (by rw[e];exact⟨rfl,rfl,rfl,rfl⟩))
structure mY where
 message:Int
 coef:Int
 bound:wA
instance decThr:DecidableEq mY:=fun a b=>
 if h:a.message=b.message/\a.coef=b.coef/\a.bound=b.bound then isTrue (by cases a;cases b;simp_all) else isFalse (fun e=>h (by rw[e];exact⟨rfl,rfl,rfl⟩))
structure cY where
 name:ByteArray
 kind:Int
 src:Int
 dst:Int
 pfrom:Int
 pto:Int
 response:List Int
 guards:List mY
 some_:List Int
 forall_:List Int
 read:Int
 write:Int
 send:List Int
 at_:Int
 left:List Int
 right:List Int
 parent:List Int
 direction:Int
structure aq where
 name:ByteArray
 topology:Int
 states:List ByteArray
 messages:List ByteArray
 values:List ByteArray
 fault:Int
 resilience:List wA
 initial:List Int
 leader:List Int
 rules:List cY
def t0:ByteArray:=⟨#[]⟩
def nq:wA:=⟨0,0,0,0⟩
def du:mY:=⟨0,0,nq⟩
def au:cY:=⟨t0,0,0,0,0,0,[],[],[],[],0,0,[],0,[],[],[],0⟩
def lD (l:wA):List AV:=[.int .i64 l.c, .int .i64 l.n, .int .i64 l.t, .int .i64 l.f]
def eU (g:mY):List AV:=[.int .i64 g.message, .int .i64 g.coef, .int .i64 g.bound.c, .int .i64 g.bound.n, .int .i64 g.bound.t, .int .i64 g.bound.f]
def iY (r:cY):List AV:=[.str r.name, .int .i64 r.kind, .int .i64 r.src, .int .i64 r.dst, .int .i64 r.pfrom, .int .i64 r.pto, .sl 0 aD r.response, .sl du eU r.guards, .sl 0 aD r.some_, .sl 0 aD r.forall_,
 .int .i64 r.read, .int .i64 r.write, .sl 0 aD r.send, .int .i64 r.at_, .sl 0 aD r.left, .sl 0 aD r.right, .sl 0 aD r.parent, .int .i64 r.direction]
def bc (p:aq):List AV:=[.str p.name, .int .i64 p.topology, .sl t0 gU p.states, .sl t0 gU p.messages, .sl t0 gU p.values, .int .i64 p.fault, .sl nq lD p.resilience, .sl 0 aD p.initial, .sl 0 aD p.leader, .sl au iY p.rules]
def mr (r:cY):Prop:=500<r.name.size\/60<r.response.length\/60<r.guards.length\/60<r.some_.length\/60<r.forall_.length\/60<r.send.length\/60<r.left.length\/60<r.right.length\/60<r.parent.length
instance (r:cY):Decidable (mr r):=inferInstanceAs (Decidable (_\/_))
theorem Bm (r:cY):aa Tryz.prog 35 [.agg (iY r)] (fun u=>u= .bool (decide (mr r))):=by
 refine aa.intro ab ac Tryz.func35 rfl (by decide) ?_;(conv=>whnf)
 refine am rfl ?_
 conv=>whnf
 repeat' first|(refine at_ ?_;conv=>whnf)|(refine ag (fun _=>?_) (fun _=>?_)<;>conv=>whnf)
 all_goals first
  |exact⟨aH (by unfold mr;omega),rfl⟩
  |exact⟨an (by unfold mr;omega),rfl⟩
def rL (l:List ByteArray):Prop:=∃j,j<l.length/\500<(l.getD j t0).size
instance (l:List ByteArray):Decidable (rL l):=inferInstanceAs (Decidable (∃j,j<l.length/\_))
theorem nt (l:List ByteArray) (hl:l.length<=4503599627370496):aa Tryz.prog 36 [.sl t0 gU l] (fun u=>u= .bool (decide (rL l))):=by
 refine aa.intro ab ac Tryz.func36 rfl (by decide) ?_;(conv=>whnf)
 refine aR.loopF ab ac (fun k:Nat=>k<=l.length/\∀j,j<k->¬500<(l.getD j t0).size) (fun k=>[(3, .int .i64 (k:Int))]) (fun _=>[]) (fun k=>l.length-k) 0 ⟨by omega,fun j hj=>by omega⟩ ?_;conv=>whnf
 refine⟨sI,?_⟩
 rintro k ⟨hk,ha⟩
 conv=>whnf
 repeat' first|(refine at_ ?_;conv=>whnf)|(refine ag (fun _=>?_) (fun _=>?_)<;>conv=>whnf)
 ·rename_i h1 h2
  exact⟨aH ⟨k,by omega,by rw[tN] at h2;omega⟩,rfl⟩
 ·rename_i h1 h2
  refine⟨k+1,sI,⟨by omega,fun j hj=>?_⟩,by dsimp only;omega⟩
  by_cases e:j=k
  ·subst e;rw[tN] at h2;omega
  ·exact ha j (by omega)
 ·exact⟨an fun⟨j,h1,h2⟩=>ha j (by omega) h2,rfl⟩
def bV (p:aq):Prop:=500<p.name.size\/60<p.states.length\/60<p.messages.length\/60<p.values.length\/60<p.resilience.length\/60<p.initial.length\/60<p.leader.length\/30<p.rules.length\/
 (∃j,j<p.rules.length/\mr (p.rules.getD j au))\/rL p.states\/rL p.messages\/rL p.values
instance (p:aq):Decidable (bV p):=inferInstanceAs (Decidable (_\/_))
theorem IX (p:aq):aa Tryz.prog 12 [.agg (bc p)] (fun u=>u= .bool (decide (bV p))):=by
 refine aa.intro ab ac Tryz.func12 rfl (by decide) ?_;(conv=>whnf)
 refine am rfl ?_
 conv=>whnf
 repeat' first|(refine at_ ?_;conv=>whnf)|(refine ag (fun _=>?_) (fun _=>?_)<;>conv=>whnf)
 all_goals try first|exact⟨aH (by unfold bV;omega),rfl⟩|skip
 refine aR.loopF ab ac (fun k:Nat=>k<=p.rules.length/\∀j,j<k->¬mr (p.rules.getD j au)) (fun k=>[(3, .int .i64 (k:Int))]) (fun _=>[]) (fun k=>p.rules.length-k) 0 ⟨by omega,fun j hj=>by omega⟩ ?_;conv=>whnf
 refine⟨sI,?_⟩
 rintro k ⟨hk,ha⟩
 conv=>whnf
 repeat' first|(refine at_ ?_;conv=>whnf)|(refine ag (fun _=>?_) (fun _=>?_)<;>conv=>whnf)
 ·refine dC (Bm _) (fun _=>?_) (fun _=>?_)<;>(conv=>whnf)
  ·rename_i h2
   exact⟨aH (by unfold bV;exact .inr (.inr (.inr (.inr (.inr (.inr (.inr (.inr (.inl ⟨k,by omega,by rw[tN] at h2;exact h2⟩))))))))),rfl⟩
  ·rename_i h2
   repeat' first|(refine at_ ?_;conv=>whnf)|(refine ag (fun _=>?_) (fun _=>?_)<;>conv=>whnf)
   refine⟨k+1,sI,⟨by omega,fun j hj=>?_⟩,by dsimp only;omega⟩
   by_cases e:j=k
   ·subst e;rw[tN] at h2;exact h2
   ·exact ha j (by omega)
 ·have hno:¬∃j,j<p.rules.length/\mr (p.rules.getD j au):=fun⟨j,h1,h2⟩=>ha j (by omega) h2
  refine dC (nt _ (by omega)) (fun _=>?_) (fun _=>?_)<;>(conv=>whnf)
  ·rename_i h;exact⟨aH (by unfold bV;exact .inr (.inr (.inr (.inr (.inr (.inr (.inr (.inr (.inr (.inl h)))))))))),rfl⟩
  refine dC (nt _ (by omega)) (fun _=>?_) (fun _=>?_)<;>(conv=>whnf)
  ·rename_i h;exact⟨aH (by unfold bV;exact .inr (.inr (.inr (.inr (.inr (.inr (.inr (.inr (.inr (.inr (.inl h))))))))))),rfl⟩
  refine dC (nt _ (by omega)) (fun _=>?_) (fun _=>?_)<;>(conv=>whnf)
  ·rename_i h;exact⟨aH (by unfold bV;exact .inr (.inr (.inr (.inr (.inr (.inr (.inr (.inr (.inr (.inr (.inr h))))))))))),rfl⟩
  ·rename_i a b c
   refine⟨an ?_,rfl⟩
   unfold bV
   rintro(h|h|h|h|h|h|h|h|h|h|h|h)
   any_goals omega
   all_goals first|exact hno h|exact a h|exact b h|exact c h
theorem aC {p:aq} (h:¬bV p):p.name.size<=500/\p.states.length<=60/\p.messages.length<=60/\p.values.length<=60/\p.resilience.length<=60/\p.initial.length<=60/\p.leader.length<=60/\p.rules.length<=30:=by
 unfold bV at h
 omega
theorem aU {p:aq} (h:¬bV p) {j:Nat} (hj:j<p.rules.length):¬mr (p.rules.getD j au):=fun hb=>h (by unfold bV;exact .inr (.inr (.inr (.inr (.inr (.inr (.inr (.inr (.inl ⟨j,hj,hb⟩)))))))))
theorem bo {r:cY} (h:¬mr r):r.name.size<=500/\r.response.length<=60/\r.guards.length<=60/\r.some_.length<=60/\r.forall_.length<=60/\r.send.length<=60/\r.left.length<=60/\r.right.length<=60/\r.parent.length<=60:=by
 unfold mr at h
 omega
def GS (r:cY):Prop:=r.name.size<=140737488355328/\r.response.length<=140737488355328/\r.guards.length<=140737488355328/\r.some_.length<=140737488355328/\r.forall_.length<=140737488355328/\r.send.length<=140737488355328/\r.left.length<=140737488355328/\r.right.length<=140737488355328/\r.parent.length<=140737488355328
def D2 (l:List ByteArray):Prop:=∀s∈l,s.size<=140737488355328
structure Bn (p:aq):Prop where
 le:p.name.size<=140737488355328/\p.states.length<=140737488355328/\p.messages.length<=140737488355328/\p.values.length<=140737488355328/\p.resilience.length<=140737488355328/\p.initial.length<=140737488355328/\p.leader.length<=140737488355328/\p.rules.length<=140737488355328
 ru:∀j,j<p.rules.length->GS (p.rules.getD j au)
 ns:D2 p.states/\D2 p.messages/\D2 p.values
theorem wB {r:cY} (h:GS r):r.name.size<=140737488355328/\r.response.length<=140737488355328/\r.guards.length<=140737488355328/\r.some_.length<=140737488355328/\r.forall_.length<=140737488355328/\r.send.length<=140737488355328/\r.left.length<=140737488355328/\r.right.length<=140737488355328/\r.parent.length<=140737488355328:=h
theorem nu {p:aq} (h:Bn p):p.name.size<=140737488355328/\p.states.length<=140737488355328/\p.messages.length<=140737488355328/\p.values.length<=140737488355328/\p.resilience.length<=140737488355328/\p.initial.length<=140737488355328/\p.leader.length<=140737488355328/\p.rules.length<=140737488355328:=h.le
theorem uD {p:aq} (h:Bn p) {j:Nat} (hj:j<p.rules.length):GS (p.rules.getD j au):=h.ru j hj
theorem sV {l:List ByteArray} (h:¬rL l):D2 l:=by
 intro s hs
 obtain⟨j,hj,e⟩:=List.getElem_of_mem hs
 refine Nat.le_of_not_lt fun hlt=>h ⟨j,hj,?_⟩
 rw[gD,gL hj,Option.getD_some,e]
 omega
theorem FX {r:cY} (h:¬mr r):GS r:=by have:=bo h;unfold GS;omega
theorem jx {p:aq} (h:¬bV p):Bn p:=by
 refine⟨by have:=aC h;omega,fun j hj=>FX (aU h hj),?_⟩
 unfold bV at h
 simp only[not_or] at h
 exact⟨sV h.2.2.2.2.2.2.2.2.2.1,sV h.2.2.2.2.2.2.2.2.2.2.1,sV h.2.2.2.2.2.2.2.2.2.2.2⟩
def jT (l:List Int) (n:Int):Prop:=∀j,j<l.length->0<=l.getD j 0/\l.getD j 0<n
def yW (l:List Int):Prop:=∀j,j<l.length->0<j->l.getD (j-1) 0<l.getD j 0
instance (l:List Int) (n:Int):Decidable (jT l n):=inferInstanceAs (Decidable (∀j,j<l.length->_))
instance (l:List Int):Decidable (yW l):=inferInstanceAs (Decidable (∀j,j<l.length->_))
def cO (l:List Int) (n:Int):Int:=if jT l n then(if yW l then 0 else 1) else 5
theorem bd (a b c:Int):aa Tryz.prog 74 [.int .i64 a, .int .i64 b, .int .i64 c] (fun u=>u= .bool (decide (b<=a/\a<=c))):=by
 refine aa.intro ab ac Tryz.func74 rfl (by decide) ?_;(conv=>whnf)
 repeat' first|(refine at_ ?_;conv=>whnf)|(refine ag (fun _=>?_) (fun _=>?_)<;>conv=>whnf)
 all_goals first
  |exact⟨aH (by omega),rfl⟩
  |exact⟨an (by omega),rfl⟩
theorem pL (l:List Int) (n:Int) (hl:l.length<=4503599627370496) (hn:-4611686018427387904<=n/\n<=4611686018427387904):aa Tryz.prog 73 [.sl 0 aD l, .int .i64 n] (fun u=>u= .int .i64 (cO l n)):=by
 refine aa.intro ab ac Tryz.func73 rfl (by decide) ?_;(conv=>whnf)
 refine aR.loopF ab ac (fun k:Nat=>k<=l.length/\∀j,j<k->0<=l.getD j 0/\l.getD j 0<n) (fun k=>[(5, .int .i64 (k:Int))]) (fun _=>[]) (fun k=>l.length-k) 0 ⟨by omega,fun j hj=>by omega⟩ ?_;conv=>whnf
 refine⟨sI,?_⟩
 rintro k ⟨hk,ha⟩
 conv=>whnf
 repeat' first|(refine at_ ?_;conv=>whnf)|(refine ag (fun _=>?_) (fun _=>?_)<;>conv=>whnf)
 ·refine dC (bd _ _ _) (fun _=>?_) (fun _=>?_)<;>(conv=>whnf)
  ·rename_i h2
   rw[tN] at h2
   repeat' first|(refine at_ ?_;conv=>whnf)|(refine ag (fun _=>?_) (fun _=>?_)<;>conv=>whnf)
   refine⟨k+1,sI,⟨by omega,fun j hj=>?_⟩,by dsimp only;omega⟩
   by_cases e:j=k
   ·subst e;omega
   ·exact ha j (by omega)
  ·rename_i h1 h2
   rw[tN] at h2
   refine⟨aj ?_,rfl⟩
   rw[cO,if_neg]
   intro h
   have:=h k (by omega)
   omega
 ·have hin:jT l n:=fun j hj=>ha j (by omega)
  refine aR.loopF ab ac (fun k:Nat=>1<=k/\(k<=l.length\/k=1)/\∀j,j<k->j<l.length->0<j->l.getD (j-1) 0<l.getD j 0) (fun k=>[(6, .int .i64 (k:Int))]) (fun _=>[]) (fun k=>l.length-k) 1 ⟨by omega,by omega,fun j hj=>by omega⟩ ?_;conv=>whnf
  refine⟨sI,?_⟩
  rintro k ⟨hk,hk2,hb⟩
  conv=>whnf
  repeat' first|(refine at_ ?_;conv=>whnf)|(refine ag (fun _=>?_) (fun _=>?_)<;>conv=>whnf)
  ·rename_i h1 h2
   rw[tN,show((k:Int)-1).toNat=k-1 by omega] at h2
   refine⟨aj ?_,rfl⟩
   rw[cO,if_pos hin,if_neg]
   intro h
   have:=h k (by omega) (by omega)
   omega
  ·rename_i h1 h2
   rw[tN,show((k:Int)-1).toNat=k-1 by omega] at h2
   refine⟨k+1,sI,⟨by omega,by omega,fun j hj hj2 hj3=>?_⟩,by dsimp only;omega⟩
   by_cases e:j=k
   ·subst e;omega
   ·exact hb j (by omega) hj2 hj3
  ·refine⟨aj ?_,rfl⟩
   rw[cO,if_pos hin,if_pos]
   exact fun j hj h0=>hb j (by omega) hj h0
theorem lE (l:List Int) (n:Int) (hl:l.length<=4503599627370496):aa Tryz.prog 95 [.sl 0 aD l, .int .i64 n] (fun u=>u= .int .i64 (cO l n)):=by
 refine aa.intro ab ac Tryz.func95 rfl (by decide) ?_;(conv=>whnf)
 refine aR.loopF ab ac (fun k:Nat=>k<=l.length/\∀j,j<k->0<=l.getD j 0/\l.getD j 0<n) (fun k=>[(10, .int .i64 (k:Int))]) (fun _=>[]) (fun k=>l.length-k) 0 ⟨by omega,fun j hj=>by omega⟩ ?_;conv=>whnf
 refine⟨sI,?_⟩
 rintro k ⟨hk,ha⟩
 conv=>whnf
 refine ag (fun h1=>?_) (fun h1=>?_)<;>conv=>whnf
 ·by_cases h2:0<=l.getD (k:Int).toNat 0/\l.getD (k:Int).toNat 0<n
  ·repeat' first|(refine at_ ?_;conv=>whnf)|(refine ag (fun _=>?_) (fun _=>?_)<;>conv=>whnf)
   rw[tN] at h2
   refine⟨k+1,sI,⟨by omega,fun j hj=>?_⟩,by dsimp only;omega⟩
   by_cases e:j=k
   ·subst e;omega
   ·exact ha j (by omega)
  ·repeat' first|(refine at_ ?_;conv=>whnf)|(refine ag (fun _=>?_) (fun _=>?_)<;>conv=>whnf)
   all_goals
    rw[tN] at h2
    refine⟨aj ?_,rfl⟩
    rw[cO,if_neg]
    intro h
    have:=h k (by omega)
    omega
 ·have hin:jT l n:=fun j hj=>ha j (by omega)
  refine aR.loopF ab ac (fun k:Nat=>1<=k/\(k<=l.length\/k=1)/\∀j,j<k->j<l.length->0<j->l.getD (j-1) 0<l.getD j 0) (fun k=>[(7, .int .i64 (k:Int))]) (fun _=>[]) (fun k=>l.length-k) 1 ⟨by omega,by omega,fun j hj=>by omega⟩ ?_;conv=>whnf
  refine⟨sI,?_⟩
  rintro k ⟨hk,hk2,hb⟩
  conv=>whnf
  repeat' first|(refine at_ ?_;conv=>whnf)|(refine ag (fun _=>?_) (fun _=>?_)<;>conv=>whnf)
  ·rename_i h1 h2
   rw[tN,show((k:Int)-1).toNat=k-1 by omega] at h2
   refine⟨aj ?_,rfl⟩
   rw[cO,if_pos hin,if_neg]
   intro h
   have:=h k (by omega) (by omega)
   omega
  ·rename_i h1 h2
   rw[tN,show((k:Int)-1).toNat=k-1 by omega] at h2
   refine⟨k+1,sI,⟨by omega,by omega,fun j hj hj2 hj3=>?_⟩,by dsimp only;omega⟩
   by_cases e:j=k
   ·subst e;omega
   ·exact hb j (by omega) hj2 hj3
  ·refine⟨aj ?_,rfl⟩
   rw[cO,if_pos hin,if_pos]
   exact fun j hj h0=>hb j (by omega) hj h0
set_option maxRecDepth 100000
def lp:List ByteArray:=[⟨#[112,114,111,116,111,99,111,108]⟩,⟨#[116,111,112,111,108,111,103,121]⟩,⟨#[115,116,97,116,101,115]⟩,⟨#[109,101,115,115,97,103,101,115]⟩,⟨#[118,97,108,117,101,115]⟩,⟨#[102,97,117,108,116,115]⟩,⟨#[114,101,115,105,108,105,101,110,99,101]⟩,⟨#[105,110,105,116,105,97,108]⟩,⟨#[108,101,97,100,101,114]⟩,⟨#[114,117,108,101]⟩,⟨#[108,111,99,97,108]⟩,⟨#[112,97,105,114]⟩,⟨#[98,114,111,97,100,99,97,115,116]⟩,⟨#[110,101,105,103,104,98,111,114]⟩,⟨#[112,97,115,115]⟩,⟨#[119,104,101,110]⟩,⟨#[101,120,105,115,116,115]⟩,⟨#[102,111,114,97,108,108]⟩,⟨#[114,101,97,100]⟩,⟨#[119,114,105,116,101]⟩,⟨#[115,101,110,100]⟩,⟨#[97,108,108]⟩,⟨#[97,116]⟩,⟨#[102,105,114,115,116]⟩,⟨#[108,97,115,116]⟩,⟨#[108,101,102,116]⟩,⟨#[114,105,103,104,116]⟩,⟨#[112,97,114,101,110,116]⟩,⟨#[99,104,105,108,100]⟩,⟨#[112,114,111,112,101,114,116,121]⟩,⟨#[110,101,118,101,114]⟩,⟨#[101,118,101,110,116,117,97,108,108,121]⟩,⟨#[115,116,97,114,116]⟩,⟨#[99,111,117,110,116]⟩,⟨#[97,100,106,97,99,101,110,116]⟩,⟨#[103,111,97,108]⟩,⟨#[99,108,105,113,117,101]⟩,⟨#[108,105,110,101]⟩,⟨#[114,105,110,103]⟩,⟨#[116,114,101,101]⟩,⟨#[99,114,97,115,104]⟩,⟨#[111,109,105,115,115,105,111,110]⟩,⟨#[97,114,98,105,116,114,97,114,121]⟩]
def fL:ByteArray:=⟨#[112,114,111,116,111,99,111,108,32,116,111,112,111,108,111,103,121,32,115,116,97,116,101,115,32,109,101,115,115,97,103,101,115,32,118,97,108,117,101,115,32,102,97,117,108,116,115,32,114,101,115,105,108,105,101,110,99,101,32,105,110,105,116,105,97,108,32,108,101,97,100,101,114,32,114,117,108,101,32,108,111,99,97,108,32,112,97,105,114,32,98,114,111,97,100,99,97,115,116,32,110,101,105,103,104,98,111,114,32,112,97,115,115,32,119,104,101,110,32,101,120,105,115,116,115,32,102,111,114,97,108,108,32,114,101,97,100,32,119,114,105,116,101,32,115,101,110,100,32,97,108,108,32,97,116,32,102,105,114,115,116,32,108,97,115,116,32,108,101,102,116,32,114,105,103,104,116,32,112,97,114,101,110,116,32,99,104,105,108,100,32,112,114,111,112,101,114,116,121,32,110,101,118,101,114,32,101,118,101,110,116,117,97,108,108,121,32,115,116,97,114,116,32,99,111,117,110,116,32,97,100,106,97,99,101,110,116,32,103,111,97,108,32,99,108,105,113,117,101,32,108,105,110,101,32,114,105,110,103,32,116,114,101,101,32,99,114,97,115,104,32,111,109,105,115,115,105,111,110,32,97,114,98,105,116,114,97,114,121]⟩
def lP (s:ByteArray) (i:Nat):Nat:=(s.data.getD i 0).toNat
instance decMemB (s:ByteArray):(l:List ByteArray)->Decidable (s∈l)
 |[]=>isFalse (by simp)
 |x::l=>if h:s=x then isTrue (by simp[h]) else match decMemB s l with
  |isTrue h2=>isTrue (by simp[h2])
  |isFalse h2=>isFalse (by simp[h,h2])
def Bo (i:Nat):Int:=oT.getD ((lP fL i:Nat):Int).toNat 0
def z2:Nat->Int×Int×Int
 |0=>(0,1,0)
 |i+1=>((z2 i).1+jQ .and .i64 (z2 i).2.1 (jQ .xor .i64 (if IntKind.i64.signed then -1 else IntKind.i64.max) (Bo i)),Bo i,jQ .or .u8 (z2 i).2.2 (lP fL i:Int))
def nv:Nat->Nat×Nat×List ByteArray
 |0=>(0,0,List.replicate 43 t0)
 |i+1=>if Bo i=0 then nv i else((nv i).1+1,i+1,(nv i).2.2.set (nv i).1 (fL.extract (nv i).2.1 i))
theorem uE:oT.length=256:=by decide+kernel
theorem Bp:∀i,i<290->0<=(z2 i).1/\(z2 i).1<=1000:=by decide+kernel
theorem Bq:∀i,i<290->Bo i=0\/Bo i=1:=by decide+kernel
theorem xC:(z2 289).1=43/\(z2 289).2.2=127:=by decide+kernel
theorem Br:∀i,i<289->Bo i≠0->i+1<289/\Bo (i+1)=0:=by decide+kernel
theorem uF:∀i,i<290->(nv i).1<43/\(nv i).2.1<=i/\(nv i).2.2.length=43:=by decide+kernel
theorem D3:(nv 289).1=42/\(nv 289).2.1=280/\(nv 289).2.2.set 42 (fL.extract 280 289)=lp:=by decide+kernel
theorem iq:fL.size=289:=by decide+kernel
theorem FY (s:ByteArray) (i:Nat):lP s i<256:=by unfold lP;exact UInt8.toNat_lt _
end Go.Proofs.YtblcpnmnibcbbaaGreatDoor
