import Derived.Test.YtokjgegkhlkopaaGreatDoorF2
import Derived.Test.YtokjgegkhlkopaaGreatDoorT1
set_option linter.unusedVariables false
set_option linter.unusedSimpArgs false
namespace Go.Proofs.YtokjgegkhlkopaaGreatDoor
set_option maxRecDepth 100000
structure yF where
 c:Int
 n:Int
 t:Int
 f:Int
instance decLin:DecidableEq yF:=fun a b=>
 if h:a.c=b.c/\a.n=b.n/\a.t=b.t/\a.f=b.f then isTrue (by cases a;cases b;simp_all) else isFalse (fun e=>h (by rw[e];exact⟨rfl,rfl,rfl,rfl⟩))
structure nN where
 message:Int
 coef:Int
 bound:yF
instance decThr:DecidableEq nN:=fun a b=>
 if h:a.message=b.message/\a.coef=b.coef/\a.bound=b.bound then isTrue (by cases a;cases b;simp_all) else isFalse (fun e=>h (by rw[e];exact⟨rfl,rfl,rfl⟩))
structure dh where
 name:ByteArray
 kind:Int
 src:Int
 dst:Int
 pfrom:Int
 pto:Int
 response:List Int
 guards:List nN
 some_:List Int
 forall_:List Int
 read:Int
 write:Int
 send:List Int
 at_:Int
 left:List Int
 right:List Int
 parent:List Int
 direction:Int
structure ao where
 name:ByteArray
 topology:Int
 states:List ByteArray
 messages:List ByteArray
 values:List ByteArray
 fault:Int
 resilience:List yF
 initial:List Int
 leader:List Int
 rules:List dh
def t0:ByteArray:=⟨#[]⟩
def i0:yF:=⟨0,0,0,0⟩
def dv:nN:=⟨0,0,i0⟩
def au:dh:=⟨t0,0,0,0,0,0,[],[],[],[],0,0,[],0,[],[],[],0⟩
def eE (l:yF):List AV:=[.int .i64 l.c, .int .i64 l.n, .int .i64 l.t, .int .i64 l.f]
def dY (g:nN):List AV:=[.int .i64 g.message, .int .i64 g.coef, .int .i64 g.bound.c, .int .i64 g.bound.n, .int .i64 g.bound.t, .int .i64 g.bound.f]
def fD (r:dh):List AV:=[.str r.name, .int .i64 r.kind, .int .i64 r.src, .int .i64 r.dst, .int .i64 r.pfrom, .int .i64 r.pto, .sl 0 aD r.response, .sl dv dY r.guards, .sl 0 aD r.some_, .sl 0 aD r.forall_,
 .int .i64 r.read, .int .i64 r.write, .sl 0 aD r.send, .int .i64 r.at_, .sl 0 aD r.left, .sl 0 aD r.right, .sl 0 aD r.parent, .int .i64 r.direction]
def bf (p:ao):List AV:=[.str p.name, .int .i64 p.topology, .sl t0 cR p.states, .sl t0 cR p.messages, .sl t0 cR p.values, .int .i64 p.fault, .sl i0 eE p.resilience, .sl 0 aD p.initial, .sl 0 aD p.leader, .sl au fD p.rules]
def nO (r:dh):Prop:=500<r.name.size\/60<r.response.length\/60<r.guards.length\/60<r.some_.length\/60<r.forall_.length\/60<r.send.length\/60<r.left.length\/60<r.right.length\/60<r.parent.length
instance (r:dh):Decidable (nO r):=inferInstanceAs (Decidable (_\/_))
theorem Ew (r:dh):ae Tryz.prog 32 [.agg (fD r)] (fun u=>u= .bool (decide (nO r))):=by
 refine ae.intro ab ac Tryz.func32 rfl (by decide) ?_;(conv=>whnf)
 refine am rfl ?_
 conv=>whnf
 repeat' first|(refine at_ ?_;conv=>whnf)|(refine ah (fun _=>?_) (fun _=>?_)<;>conv=>whnf)
 all_goals first
  |exact⟨aN (by unfold nO;omega),rfl⟩
  |exact⟨aq (by unfold nO;omega),rfl⟩
def t3 (l:List ByteArray):Prop:=∃j,j<l.length/\500<(l.getD j t0).size
instance (l:List ByteArray):Decidable (t3 l):=inferInstanceAs (Decidable (∃j,j<l.length/\_))
theorem oW (l:List ByteArray) (hl:l.length<=4503599627370496):ae Tryz.prog 33 [.sl t0 cR l] (fun u=>u= .bool (decide (t3 l))):=by
 refine ae.intro ab ac Tryz.func33 rfl (by decide) ?_;(conv=>whnf)
 refine aE.loopF ab ac (fun k:Nat=>k<=l.length/\∀j,j<k->¬500<(l.getD j t0).size) (fun k=>[(3, .int .i64 (k:Int))]) (fun _=>[]) (fun k=>l.length-k) 0 ⟨by omega,fun j hj=>by omega⟩ ?_;conv=>whnf
 refine⟨sI,?_⟩
 rintro k ⟨hk,ha⟩
 conv=>whnf
 repeat' first|(refine at_ ?_;conv=>whnf)|(refine ah (fun _=>?_) (fun _=>?_)<;>conv=>whnf)
 ·rename_i h1 h2
  exact⟨aN ⟨k,by omega,by rw[tN] at h2;omega⟩,rfl⟩
 ·rename_i h1 h2
  refine⟨k+1,sI,⟨by omega,fun j hj=>?_⟩,by dsimp only;omega⟩
  by_cases e:j=k
  ·subst e;rw[tN] at h2;omega
  ·exact ha j (by omega)
 ·exact⟨aq fun⟨j,h1,h2⟩=>ha j (by omega) h2,rfl⟩
def b9 (p:ao):Prop:=500<p.name.size\/60<p.states.length\/60<p.messages.length\/60<p.values.length\/60<p.resilience.length\/60<p.initial.length\/60<p.leader.length\/30<p.rules.length\/
 (∃j,j<p.rules.length/\nO (p.rules.getD j au))\/t3 p.states\/t3 p.messages\/t3 p.values
instance (p:ao):Decidable (b9 p):=inferInstanceAs (Decidable (_\/_))
theorem Mg (p:ao):ae Tryz.prog 11 [.agg (bf p)] (fun u=>u= .bool (decide (b9 p))):=by
 refine ae.intro ab ac Tryz.func11 rfl (by decide) ?_;(conv=>whnf)
 refine am rfl ?_
 conv=>whnf
 repeat' first|(refine at_ ?_;conv=>whnf)|(refine ah (fun _=>?_) (fun _=>?_)<;>conv=>whnf)
 all_goals try first|exact⟨aN (by unfold b9;omega),rfl⟩|skip
 refine aE.loopF ab ac (fun k:Nat=>k<=p.rules.length/\∀j,j<k->¬nO (p.rules.getD j au)) (fun k=>[(3, .int .i64 (k:Int))]) (fun _=>[]) (fun k=>p.rules.length-k) 0 ⟨by omega,fun j hj=>by omega⟩ ?_;conv=>whnf
 refine⟨sI,?_⟩
 rintro k ⟨hk,ha⟩
 conv=>whnf
 repeat' first|(refine at_ ?_;conv=>whnf)|(refine ah (fun _=>?_) (fun _=>?_)<;>conv=>whnf)
 ·refine dC (Ew _) (fun _=>?_) (fun _=>?_)<;>(conv=>whnf)
  ·rename_i h2
   exact⟨aN (by unfold b9;exact .inr (.inr (.inr (.inr (.inr (.inr (.inr (.inr (.inl ⟨k,by omega,by rw[tN] at h2;exact h2⟩))))))))),rfl⟩
  ·rename_i h2
   repeat' first|(refine at_ ?_;conv=>whnf)|(refine ah (fun _=>?_) (fun _=>?_)<;>conv=>whnf)
   refine⟨k+1,sI,⟨by omega,fun j hj=>?_⟩,by dsimp only;omega⟩
   by_cases e:j=k
   ·subst e;rw[tN] at h2;exact h2
   ·exact ha j (by omega)
 ·have hno:¬∃j,j<p.rules.length/\nO (p.rules.getD j au):=fun⟨j,h1,h2⟩=>ha j (by omega) h2
  refine dC (oW _ (by omega)) (fun _=>?_) (fun _=>?_)<;>(conv=>whnf)
  ·rename_i h;exact⟨aN (by unfold b9;exact .inr (.inr (.inr (.inr (.inr (.inr (.inr (.inr (.inr (.inl h)))))))))),rfl⟩
  refine dC (oW _ (by omega)) (fun _=>?_) (fun _=>?_)<;>(conv=>whnf)
  ·rename_i h;exact⟨aN (by unfold b9;exact .inr (.inr (.inr (.inr (.inr (.inr (.inr (.inr (.inr (.inr (.inl h))))))))))),rfl⟩
  refine dC (oW _ (by omega)) (fun _=>?_) (fun _=>?_)<;>(conv=>whnf)
  ·rename_i h;exact⟨aN (by unfold b9;exact .inr (.inr (.inr (.inr (.inr (.inr (.inr (.inr (.inr (.inr (.inr h))))))))))),rfl⟩
  ·rename_i a b c
   refine⟨aq ?_,rfl⟩
   unfold b9
   rintro(h|h|h|h|h|h|h|h|h|h|h|h)
   any_goals omega
   all_goals first|exact hno h|exact a h|exact b h|exact c h
theorem aF {p:ao} (h:¬b9 p):p.name.size<=500/\p.states.length<=60/\p.messages.length<=60/\p.values.length<=60/\p.resilience.length<=60/\p.initial.length<=60/\p.leader.length<=60/\p.rules.length<=30:=by
 unfold b9 at h
 omega
theorem aY {p:ao} (h:¬b9 p) {j:Nat} (hj:j<p.rules.length):¬nO (p.rules.getD j au):=fun hb=>h (by unfold b9;exact .inr (.inr (.inr (.inr (.inr (.inr (.inr (.inr (.inl ⟨j,hj,hb⟩)))))))))
theorem br {r:dh} (h:¬nO r):r.name.size<=500/\r.response.length<=60/\r.guards.length<=60/\r.some_.length<=60/\r.forall_.length<=60/\r.send.length<=60/\r.left.length<=60/\r.right.length<=60/\r.parent.length<=60:=by
 unfold nO at h
 omega
def LB (r:dh):Prop:=r.name.size<=140737488355328/\r.response.length<=140737488355328/\r.guards.length<=140737488355328/\r.some_.length<=140737488355328/\r.forall_.length<=140737488355328/\r.send.length<=140737488355328/\r.left.length<=140737488355328/\r.right.length<=140737488355328/\r.parent.length<=140737488355328
def Hk (l:List ByteArray):Prop:=∀s∈l,s.size<=140737488355328
structure Ex (p:ao):Prop where
 le:p.name.size<=140737488355328/\p.states.length<=140737488355328/\p.messages.length<=140737488355328/\p.values.length<=140737488355328/\p.resilience.length<=140737488355328/\p.initial.length<=140737488355328/\p.leader.length<=140737488355328/\p.rules.length<=140737488355328
 ru:∀j,j<p.rules.length->LB (p.rules.getD j au)
 ns:Hk p.states/\Hk p.messages/\Hk p.values
theorem zu {r:dh} (h:LB r):r.name.size<=140737488355328/\r.response.length<=140737488355328/\r.guards.length<=140737488355328/\r.some_.length<=140737488355328/\r.forall_.length<=140737488355328/\r.send.length<=140737488355328/\r.left.length<=140737488355328/\r.right.length<=140737488355328/\r.parent.length<=140737488355328:=h
theorem oX {p:ao} (h:Ex p):p.name.size<=140737488355328/\p.states.length<=140737488355328/\p.messages.length<=140737488355328/\p.values.length<=140737488355328/\p.resilience.length<=140737488355328/\p.initial.length<=140737488355328/\p.leader.length<=140737488355328/\p.rules.length<=140737488355328:=h.le
theorem xf {p:ao} (h:Ex p) {j:Nat} (hj:j<p.rules.length):LB (p.rules.getD j au):=h.ru j hj
theorem vq {l:List ByteArray} (h:¬t3 l):Hk l:=by
 intro s hs
 obtain⟨j,hj,e⟩:=List.getElem_of_mem hs
 refine Nat.le_of_not_lt fun hlt=>h ⟨j,hj,?_⟩
 rw[gD,gL hj,Option.getD_some,e]
 omega
theorem J3 {r:dh} (h:¬nO r):LB r:=by have:=br h;unfold LB;omega
theorem iO {p:ao} (h:¬b9 p):Ex p:=by
 refine⟨by have:=aF h;omega,fun j hj=>J3 (aY h hj),?_⟩
 unfold b9 at h
 simp only[not_or] at h
 exact⟨vq h.2.2.2.2.2.2.2.2.2.1,vq h.2.2.2.2.2.2.2.2.2.2.1,vq h.2.2.2.2.2.2.2.2.2.2.2⟩
def kX (l:List Int) (n:Int):Prop:=∀j,j<l.length->0<=l.getD j 0/\l.getD j 0<n
def Cb (l:List Int):Prop:=∀j,j<l.length->0<j->l.getD (j-1) 0<l.getD j 0
instance (l:List Int) (n:Int):Decidable (kX l n):=inferInstanceAs (Decidable (∀j,j<l.length->_))
instance (l:List Int):Decidable (Cb l):=inferInstanceAs (Decidable (∀j,j<l.length->_))
def c7 (l:List Int) (n:Int):Int:=if kX l n then(if Cb l then 0 else 1) else 5
theorem bm (a b c:Int):ae Tryz.prog 66 [.int .i64 a, .int .i64 b, .int .i64 c] (fun u=>u= .bool (decide (b<=a/\a<=c))):=by
 refine ae.intro ab ac Tryz.func66 rfl (by decide) ?_;(conv=>whnf)
 repeat' first|(refine at_ ?_;conv=>whnf)|(refine ah (fun _=>?_) (fun _=>?_)<;>conv=>whnf)
 all_goals first
  |exact⟨aN (by omega),rfl⟩
  |exact⟨aq (by omega),rfl⟩
theorem rn (l:List Int) (n:Int) (hl:l.length<=4503599627370496) (hn:-4611686018427387904<=n/\n<=4611686018427387904):ae Tryz.prog 65 [.sl 0 aD l, .int .i64 n] (fun u=>u= .int .i64 (c7 l n)):=by
 refine ae.intro ab ac Tryz.func65 rfl (by decide) ?_;(conv=>whnf)
 refine aE.loopF ab ac (fun k:Nat=>k<=l.length/\∀j,j<k->0<=l.getD j 0/\l.getD j 0<n) (fun k=>[(5, .int .i64 (k:Int))]) (fun _=>[]) (fun k=>l.length-k) 0 ⟨by omega,fun j hj=>by omega⟩ ?_;conv=>whnf
 refine⟨sI,?_⟩
 rintro k ⟨hk,ha⟩
 conv=>whnf
 repeat' first|(refine at_ ?_;conv=>whnf)|(refine ah (fun _=>?_) (fun _=>?_)<;>conv=>whnf)
 ·refine dC (bm _ _ _) (fun _=>?_) (fun _=>?_)<;>(conv=>whnf)
  ·rename_i h2
   rw[tN] at h2
   repeat' first|(refine at_ ?_;conv=>whnf)|(refine ah (fun _=>?_) (fun _=>?_)<;>conv=>whnf)
   refine⟨k+1,sI,⟨by omega,fun j hj=>?_⟩,by dsimp only;omega⟩
   by_cases e:j=k
   ·subst e;omega
   ·exact ha j (by omega)
  ·rename_i h1 h2
   rw[tN] at h2
   refine⟨aj ?_,rfl⟩
   rw[c7,if_neg]
   intro h
   have:=h k (by omega)
   omega
 ·have hin:kX l n:=fun j hj=>ha j (by omega)
  refine aE.loopF ab ac (fun k:Nat=>1<=k/\(k<=l.length\/k=1)/\∀j,j<k->j<l.length->0<j->l.getD (j-1) 0<l.getD j 0) (fun k=>[(6, .int .i64 (k:Int))]) (fun _=>[]) (fun k=>l.length-k) 1 ⟨by omega,by omega,fun j hj=>by omega⟩ ?_;conv=>whnf
  refine⟨sI,?_⟩
  rintro k ⟨hk,hk2,hb⟩
  conv=>whnf
  repeat' first|(refine at_ ?_;conv=>whnf)|(refine ah (fun _=>?_) (fun _=>?_)<;>conv=>whnf)
  ·rename_i h1 h2
   rw[tN,show((k:Int)-1).toNat=k-1 by omega] at h2
   refine⟨aj ?_,rfl⟩
   rw[c7,if_pos hin,if_neg]
   intro h
   have:=h k (by omega) (by omega)
   omega
  ·rename_i h1 h2
   rw[tN,show((k:Int)-1).toNat=k-1 by omega] at h2
   refine⟨k+1,sI,⟨by omega,by omega,fun j hj hj2 hj3=>?_⟩,by dsimp only;omega⟩
   by_cases e:j=k
   ·subst e;omega
   ·exact hb j (by omega) hj2 hj3
  ·refine⟨aj ?_,rfl⟩
   rw[c7,if_pos hin,if_pos]
   exact fun j hj h0=>hb j (by omega) hj h0
theorem mS (l:List Int) (n:Int) (hl:l.length<=4503599627370496):ae Tryz.prog 74 [.sl 0 aD l, .int .i64 n] (fun u=>u= .int .i64 (c7 l n)):=by
 refine ae.intro ab ac Tryz.func74 rfl (by decide) ?_;(conv=>whnf)
 refine aE.loopF ab ac (fun k:Nat=>k<=l.length/\∀j,j<k->0<=l.getD j 0/\l.getD j 0<n) (fun k=>[(10, .int .i64 (k:Int))]) (fun _=>[]) (fun k=>l.length-k) 0 ⟨by omega,fun j hj=>by omega⟩ ?_;conv=>whnf
 refine⟨sI,?_⟩
 rintro k ⟨hk,ha⟩
 conv=>whnf
 refine ah (fun h1=>?_) (fun h1=>?_)<;>conv=>whnf
 ·by_cases h2:0<=l.getD (k:Int).toNat 0/\l.getD (k:Int).toNat 0<n
  ·repeat' first|(refine at_ ?_;conv=>whnf)|(refine ah (fun _=>?_) (fun _=>?_)<;>conv=>whnf)
   rw[tN] at h2
   refine⟨k+1,sI,⟨by omega,fun j hj=>?_⟩,by dsimp only;omega⟩
   by_cases e:j=k
   ·subst e;omega
   ·exact ha j (by omega)
  ·repeat' first|(refine at_ ?_;conv=>whnf)|(refine ah (fun _=>?_) (fun _=>?_)<;>conv=>whnf)
   all_goals
    rw[tN] at h2
    refine⟨aj ?_,rfl⟩
    rw[c7,if_neg]
    intro h
    have:=h k (by omega)
    omega
 ·have hin:kX l n:=fun j hj=>ha j (by omega)
  refine aE.loopF ab ac (fun k:Nat=>1<=k/\(k<=l.length\/k=1)/\∀j,j<k->j<l.length->0<j->l.getD (j-1) 0<l.getD j 0) (fun k=>[(7, .int .i64 (k:Int))]) (fun _=>[]) (fun k=>l.length-k) 1 ⟨by omega,by omega,fun j hj=>by omega⟩ ?_;conv=>whnf
  refine⟨sI,?_⟩
  rintro k ⟨hk,hk2,hb⟩
  conv=>whnf
  repeat' first|(refine at_ ?_;conv=>whnf)|(refine ah (fun _=>?_) (fun _=>?_)<;>conv=>whnf)
  ·rename_i h1 h2
   rw[tN,show((k:Int)-1).toNat=k-1 by omega] at h2
   refine⟨aj ?_,rfl⟩
   rw[c7,if_pos hin,if_neg]
   intro h
   have:=h k (by omega) (by omega)
   omega
  ·rename_i h1 h2
   rw[tN,show((k:Int)-1).toNat=k-1 by omega] at h2
   refine⟨k+1,sI,⟨by omega,by omega,fun j hj hj2 hj3=>?_⟩,by dsimp only;omega⟩
   by_cases e:j=k
   ·subst e;omega
   ·exact hb j (by omega) hj2 hj3
  ·refine⟨aj ?_,rfl⟩
   rw[c7,if_pos hin,if_pos]
   exact fun j hj h0=>hb j (by omega) hj h0
set_option maxRecDepth 100000
def mF:List ByteArray:=[⟨#[112,114,111,116,111,99,111,108]⟩,⟨#[116,111,112,111,108,111,103,121]⟩,⟨#[115,116,97,116,101,115]⟩,⟨#[109,101,115,115,97,103,101,115]⟩,⟨#[118,97,108,117,101,115]⟩,⟨#[102,97,117,108,116,115]⟩,⟨#[114,101,115,105,108,105,101,110,99,101]⟩,⟨#[105,110,105,116,105,97,108]⟩,⟨#[108,101,97,100,101,114]⟩,⟨#[114,117,108,101]⟩,⟨#[108,111,99,97,108]⟩,⟨#[112,97,105,114]⟩,⟨#[98,114,111,97,100,99,97,115,116]⟩,⟨#[110,101,105,103,104,98,111,114]⟩,⟨#[112,97,115,115]⟩,⟨#[119,104,101,110]⟩,⟨#[101,120,105,115,116,115]⟩,⟨#[102,111,114,97,108,108]⟩,⟨#[114,101,97,100]⟩,⟨#[119,114,105,116,101]⟩,⟨#[115,101,110,100]⟩,⟨#[97,108,108]⟩,⟨#[97,116]⟩,⟨#[102,105,114,115,116]⟩,⟨#[108,97,115,116]⟩,⟨#[108,101,102,116]⟩,⟨#[114,105,103,104,116]⟩,⟨#[112,97,114,101,110,116]⟩,⟨#[99,104,105,108,100]⟩,⟨#[112,114,111,112,101,114,116,121]⟩,⟨#[110,101,118,101,114]⟩,⟨#[101,118,101,110,116,117,97,108,108,121]⟩,⟨#[115,116,97,114,116]⟩,⟨#[99,111,117,110,116]⟩,⟨#[97,100,106,97,99,101,110,116]⟩,⟨#[103,111,97,108]⟩,⟨#[99,108,105,113,117,101]⟩,⟨#[108,105,110,101]⟩,⟨#[114,105,110,103]⟩,⟨#[116,114,101,101]⟩,⟨#[99,114,97,115,104]⟩,⟨#[111,109,105,115,115,105,111,110]⟩,⟨#[97,114,98,105,116,114,97,114,121]⟩]
def gk:ByteArray:=⟨#[112,114,111,116,111,99,111,108,32,116,111,112,111,108,111,103,121,32,115,116,97,116,101,115,32,109,101,115,115,97,103,101,115,32,118,97,108,117,101,115,32,102,97,117,108,116,115,32,114,101,115,105,108,105,101,110,99,101,32,105,110,105,116,105,97,108,32,108,101,97,100,101,114,32,114,117,108,101,32,108,111,99,97,108,32,112,97,105,114,32,98,114,111,97,100,99,97,115,116,32,110,101,105,103,104,98,111,114,32,112,97,115,115,32,119,104,101,110,32,101,120,105,115,116,115,32,102,111,114,97,108,108,32,114,101,97,100,32,119,114,105,116,101,32,115,101,110,100,32,97,108,108,32,97,116,32,102,105,114,115,116,32,108,97,115,116,32,108,101,102,116,32,114,105,103,104,116,32,112,97,114,101,110,116,32,99,104,105,108,100,32,112,114,111,112,101,114,116,121,32,110,101,118,101,114,32,101,118,101,110,116,117,97,108,108,121,32,115,116,97,114,116,32,99,111,117,110,116,32,97,100,106,97,99,101,110,116,32,103,111,97,108,32,99,108,105,113,117,101,32,108,105,110,101,32,114,105,110,103,32,116,114,101,101,32,99,114,97,115,104,32,111,109,105,115,115,105,111,110,32,97,114,98,105,116,114,97,114,121]⟩
def m8 (s:ByteArray) (i:Nat):Nat:=(s.data.getD i 0).toNat
instance decMemB (s:ByteArray):(l:List ByteArray)->Decidable (s∈l)
 |[]=>isFalse (by simp)
 |x::l=>if h:s=x then isTrue (by simp[h]) else match decMemB s l with
  |isTrue h2=>isTrue (by simp[h2])
  |isFalse h2=>isFalse (by simp[h,h2])
def Ey (i:Nat):Int:=na.getD ((m8 gk i:Nat):Int).toNat 0
def Df:Nat->Int×Int×Int
 |0=>(0,1,0)
 |i+1=>((Df i).1+kR .and .i64 (Df i).2.1 (kR .xor .i64 (if IntKind.i64.signed then -1 else IntKind.i64.max) (Ey i)),Ey i,kR .or .u8 (Df i).2.2 (m8 gk i:Int))
def oY:Nat->Nat×Nat×List ByteArray
 |0=>(0,0,List.replicate 43 t0)
 |i+1=>if Ey i=0 then oY i else((oY i).1+1,i+1,(oY i).2.2.set (oY i).1 (gk.extract (oY i).2.1 i))
theorem xg:na.length=256:=by decide+kernel
theorem Ez:∀i,i<290->0<=(Df i).1/\(Df i).1<=1000:=by decide+kernel
theorem EA:∀i,i<290->Ey i=0\/Ey i=1:=by decide+kernel
theorem AD:(Df 289).1=43/\(Df 289).2.2=127:=by decide+kernel
theorem EB:∀i,i<289->Ey i≠0->i+1<289/\Ey (i+1)=0:=by decide+kernel
theorem xh:∀i,i<290->(oY i).1<43/\(oY i).2.1<=i/\(oY i).2.2.length=43:=by decide+kernel
theorem Hl:(oY 289).1=42/\(oY 289).2.1=280/\(oY 289).2.2.set 42 (gk.extract 280 289)=mF:=by decide+kernel
theorem jn:gk.size=289:=by decide+kernel
theorem J4 (s:ByteArray) (i:Nat):m8 s i<256:=by unfold m8;exact UInt8.toNat_lt _
end Go.Proofs.YtokjgegkhlkopaaGreatDoor
