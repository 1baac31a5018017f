import Derived.Test.YtnjggjhkfncnlaaGreatDoorF2
import Derived.Test.YtnjggjhkfncnlaaGreatDoorT1
import Derived.Test.YtnjggjhkfncnlaaGreatDoorG4
set_option linter.unusedVariables false
set_option linter.unusedSimpArgs false
namespace Go.Proofs.YtnjggjhkfncnlaaGreatDoor
set_option maxRecDepth 100000
structure Lin where
 c : Int
 n : Int
 t : Int
 f : Int
instance decLin : DecidableEq Lin:=fun a b =>
 if h : a.c = b.c ∧ a.n = b.n ∧ a.t = b.t ∧ a.f = b.f then isTrue (by cases a; cases b; simp_all) else isFalse (fun e=>h (by rw [e]; exact ⟨rfl, rfl, rfl, rfl⟩))
structure Thr where
 message : Int
 coef : Int
 bound : Lin
instance decThr : DecidableEq Thr:=fun a b =>
 if h : a.message = b.message ∧ a.coef = b.coef ∧ a.bound = b.bound then isTrue (by cases a; cases b; simp_all) else isFalse (fun e=>h (by rw [e]; exact ⟨rfl, rfl, rfl⟩))
structure Rul where
 name : ByteArray
 kind : Int
 src : Int
 dst : Int
 pfrom : Int
 pto : Int
 response : List Int
 guards : List Thr
 some_ : List Int
 forall_ : List Int
 read : Int
 write : Int
 send : List Int
 at_ : Int
 left : List Int
 right : List Int
 parent : List Int
 direction : Int
structure Pro where
 name : ByteArray
 topology : Int
 states : List ByteArray
 messages : List ByteArray
 values : List ByteArray
 fault : Int
 resilience : List Lin
 initial : List Int
 leader : List Int
 rules : List Rul
def t0 : ByteArray:=⟨#[]⟩
def lin0 : Lin:=⟨0, 0, 0, 0⟩
def thr0 : Thr:=⟨0, 0, lin0⟩
def rul0 : Rul:=⟨t0, 0, 0, 0, 0, 0, [], [], [], [], 0, 0, [], 0, [], [], [], 0⟩
def encLin (l : Lin) : List AV:=[.int .i64 l.c, .int .i64 l.n, .int .i64 l.t, .int .i64 l.f]
def encThr (g : Thr) : List AV:=[.int .i64 g.message, .int .i64 g.coef, .int .i64 g.bound.c, .int .i64 g.bound.n, .int .i64 g.bound.t, .int .i64 g.bound.f]
def encR (r : Rul) : List AV:=[.str r.name, .int .i64 r.kind, .int .i64 r.src, .int .i64 r.dst, .int .i64 r.pfrom, .int .i64 r.pto, .sl 0 encI r.response, .sl thr0 encThr r.guards, .sl 0 encI r.some_, .sl 0 encI r.forall_,
 .int .i64 r.read, .int .i64 r.write, .sl 0 encI r.send, .int .i64 r.at_, .sl 0 encI r.left, .sl 0 encI r.right, .sl 0 encI r.parent, .int .i64 r.direction]
def encP (p : Pro) : List AV:=[.str p.name, .int .i64 p.topology, .sl t0 encT p.states, .sl t0 encT p.messages, .sl t0 encT p.values, .int .i64 p.fault, .sl lin0 encLin p.resilience, .sl 0 encI p.initial, .sl 0 encI p.leader, .sl rul0 encR p.rules]
def bigR (r : Rul) : Prop:=500 < r.name.size ∨ 60 < r.response.length ∨ 60 < r.guards.length ∨ 60 < r.some_.length ∨ 60 < r.forall_.length ∨ 60 < r.send.length ∨ 60 < r.left.length ∨ 60 < r.right.length ∨ 60 < r.parent.length
instance (r : Rul) : Decidable (bigR r):=inferInstanceAs (Decidable (_ ∨ _))
def bigNs (l : List ByteArray) : Prop:=∃ j, j < l.length ∧ 500 < (l.getD j t0).size
instance (l : List ByteArray) : Decidable (bigNs l):=inferInstanceAs (Decidable (∃ j, j < l.length ∧ _))
def bigP (p : Pro) : Prop:=500 < p.name.size ∨ 60 < p.states.length ∨ 60 < p.messages.length ∨ 60 < p.values.length ∨ 60 < p.resilience.length ∨ 60 < p.initial.length ∨ 60 < p.leader.length ∨ 30 < p.rules.length ∨
 (∃ j, j < p.rules.length ∧ bigR (p.rules.getD j rul0)) ∨ bigNs p.states ∨ bigNs p.messages ∨ bigNs p.values
instance (p : Pro) : Decidable (bigP p):=inferInstanceAs (Decidable (_ ∨ _))
theorem bigP_le {p : Pro} (h : ¬ bigP p) : p.name.size ≤ 500 ∧ p.states.length ≤ 60 ∧ p.messages.length ≤ 60 ∧ p.values.length ≤ 60 ∧ p.resilience.length ≤ 60 ∧ p.initial.length ≤ 60 ∧ p.leader.length ≤ 60 ∧ p.rules.length ≤ 30:=by
 unfold bigP at h
 omega
theorem bigP_rule {p : Pro} (h : ¬ bigP p) {j : Nat} (hj : j < p.rules.length) : ¬ bigR (p.rules.getD j rul0):=fun hb=>h (by unfold bigP; exact .inr (.inr (.inr (.inr (.inr (.inr (.inr (.inr (.inl ⟨j, hj, hb⟩)))))))))
theorem bigR_le {r : Rul} (h : ¬ bigR r) : r.name.size ≤ 500 ∧ r.response.length ≤ 60 ∧ r.guards.length ≤ 60 ∧ r.some_.length ≤ 60 ∧ r.forall_.length ≤ 60 ∧ r.send.length ≤ 60 ∧ r.left.length ≤ 60 ∧ r.right.length ≤ 60 ∧ r.parent.length ≤ 60:=by
 unfold bigR at h
 omega
def okR (r : Rul) : Prop:=r.name.size ≤ 140737488355328 ∧ r.response.length ≤ 140737488355328 ∧ r.guards.length ≤ 140737488355328 ∧ r.some_.length ≤ 140737488355328 ∧ r.forall_.length ≤ 140737488355328 ∧ r.send.length ≤ 140737488355328 ∧ r.left.length ≤ 140737488355328 ∧ r.right.length ≤ 140737488355328 ∧ r.parent.length ≤ 140737488355328
def okNs (l : List ByteArray) : Prop:=∀ s ∈ l, s.size ≤ 140737488355328
structure okP (p : Pro) : Prop where
 le : p.name.size ≤ 140737488355328 ∧ p.states.length ≤ 140737488355328 ∧ p.messages.length ≤ 140737488355328 ∧ p.values.length ≤ 140737488355328 ∧ p.resilience.length ≤ 140737488355328 ∧ p.initial.length ≤ 140737488355328 ∧ p.leader.length ≤ 140737488355328 ∧ p.rules.length ≤ 140737488355328
 ru : ∀ j, j < p.rules.length → okR (p.rules.getD j rul0)
 ns : okNs p.states ∧ okNs p.messages ∧ okNs p.values
theorem okR_le {r : Rul} (h : okR r) : r.name.size ≤ 140737488355328 ∧ r.response.length ≤ 140737488355328 ∧ r.guards.length ≤ 140737488355328 ∧ r.some_.length ≤ 140737488355328 ∧ r.forall_.length ≤ 140737488355328 ∧ r.send.length ≤ 140737488355328 ∧ r.left.length ≤ 140737488355328 ∧ r.right.length ≤ 140737488355328 ∧ r.parent.length ≤ 140737488355328:=h
theorem okP_le {p : Pro} (h : okP p) : p.name.size ≤ 140737488355328 ∧ p.states.length ≤ 140737488355328 ∧ p.messages.length ≤ 140737488355328 ∧ p.values.length ≤ 140737488355328 ∧ p.resilience.length ≤ 140737488355328 ∧ p.initial.length ≤ 140737488355328 ∧ p.leader.length ≤ 140737488355328 ∧ p.rules.length ≤ 140737488355328:=h.le
theorem okP_rule {p : Pro} (h : okP p) {j : Nat} (hj : j < p.rules.length) : okR (p.rules.getD j rul0):=h.ru j hj
theorem okNs_of {l : List ByteArray} (h : ¬ bigNs l) : okNs l:=by
 intro s hs
 obtain ⟨j, hj, e⟩:=List.getElem_of_mem hs
 refine Nat.le_of_not_lt fun hlt=>h ⟨j, hj, ?_⟩
 rw [gD, gL hj, Option.getD_some, e]
 omega
theorem okR_of {r : Rul} (h : ¬ bigR r) : okR r:=by have:=bigR_le h; unfold okR; omega
theorem okP_of {p : Pro} (h : ¬ bigP p) : okP p:=by
 refine ⟨by have:=bigP_le h; omega, fun j hj=>okR_of (bigP_rule h hj), ?_⟩
 unfold bigP at h
 simp only [not_or] at h
 exact ⟨okNs_of h.2.2.2.2.2.2.2.2.2.1, okNs_of h.2.2.2.2.2.2.2.2.2.2.1, okNs_of h.2.2.2.2.2.2.2.2.2.2.2⟩
def inR (l : List Int) (n : Int) : Prop:=∀ j, j < l.length → 0 ≤ l.getD j 0 ∧ l.getD j 0 < n
def incr (l : List Int) : Prop:=∀ j, j < l.length → 0 < j → l.getD (j - 1) 0 < l.getD j 0
instance (l : List Int) (n : Int) : Decidable (inR l n):=inferInstanceAs (Decidable (∀ j, j < l.length → _))
instance (l : List Int) : Decidable (incr l):=inferInstanceAs (Decidable (∀ j, j < l.length → _))
def setE (l : List Int) (n : Int) : Int:=if inR l n then (if incr l then 0 else 1) else 5
theorem withinR (a b c : Int) : PSpec Tryz.prog 146 [.int .i64 a, .int .i64 b, .int .i64 c] (fun u=>u = .bool (decide (b ≤ a ∧ a ≤ c))):=by
 refine PSpec.intro tt_ok mx_ok Tryz.func146 rfl (by decide) ?_; (conv=>whnf)
 repeat' first | (refine at_ ?_; conv=>whnf) | (refine cmpI (fun _=>?_) (fun _=>?_) <;> conv=>whnf)
 all_goals first
  | exact ⟨dec_t (by omega), rfl⟩
  | exact ⟨dec_f (by omega), rfl⟩
theorem setR (l : List Int) (n : Int) (hl : l.length ≤ 4503599627370496) (hn : -4611686018427387904 ≤ n ∧ n ≤ 4611686018427387904) : PSpec Tryz.prog 144 [.sl 0 encI l, .int .i64 n] (fun u=>u = .int .i64 (setE l n)):=by
 refine PSpec.intro tt_ok mx_ok Tryz.func144 rfl (by decide) ?_; (conv=>whnf)
 refine WPc.loopF tt_ok mx_ok (fun k : Nat=>k ≤ l.length ∧ ∀ j, j < k → 0 ≤ l.getD j 0 ∧ l.getD j 0 < n) (fun k=>[(5, .int .i64 (k : Int))]) (fun _=>[]) (fun k=>l.length - k) 0 ⟨by omega, fun j hj=>by omega⟩ ?_; conv=>whnf
 refine ⟨sI, ?_⟩
 rintro k ⟨hk, ha⟩
 conv=>whnf
 repeat' first | (refine at_ ?_; conv=>whnf) | (refine cmpI (fun _=>?_) (fun _=>?_) <;> conv=>whnf)
 ·refine dC (withinR _ _ _) (fun _=>?_) (fun _=>?_) <;> (conv=>whnf)
  ·rename_i h2
   rw [tN] at h2
   repeat' first | (refine at_ ?_; conv=>whnf) | (refine cmpI (fun _=>?_) (fun _=>?_) <;> conv=>whnf)
   refine ⟨k + 1, sI, ⟨by omega, fun j hj=>?_⟩, by dsimp only; omega⟩
   by_cases e : j = k
   ·subst e; omega
   ·exact ha j (by omega)
  ·rename_i h1 h2
   rw [tN] at h2
   refine ⟨av_int ?_, rfl⟩
   rw [setE, if_neg]
   intro h
   have:=h k (by omega)
   omega
 ·have hin : inR l n:=fun j hj=>ha j (by omega)
  refine WPc.loopF tt_ok mx_ok (fun k : Nat=>1 ≤ k ∧ (k ≤ l.length ∨ k = 1) ∧ ∀ j, j < k → j < l.length → 0 < j → l.getD (j - 1) 0 < l.getD j 0) (fun k=>[(6, .int .i64 (k : Int))]) (fun _=>[]) (fun k=>l.length - k) 1 ⟨by omega, by omega, fun j hj=>by omega⟩ ?_; conv=>whnf
  refine ⟨sI, ?_⟩
  rintro k ⟨hk, hk2, hb⟩
  conv=>whnf
  repeat' first | (refine at_ ?_; conv=>whnf) | (refine cmpI (fun _=>?_) (fun _=>?_) <;> conv=>whnf)
  ·rename_i h1 h2
   rw [tN, show ((k : Int) - 1).toNat = k - 1 by omega] at h2
   refine ⟨av_int ?_, rfl⟩
   rw [setE, if_pos hin, if_neg]
   intro h
   have:=h k (by omega) (by omega)
   omega
  ·rename_i h1 h2
   rw [tN, show ((k : Int) - 1).toNat = k - 1 by omega] at h2
   refine ⟨k + 1, sI, ⟨by omega, by omega, fun j hj hj2 hj3=>?_⟩, by dsimp only; omega⟩
   by_cases e : j = k
   ·subst e; omega
   ·exact hb j (by omega) hj2 hj3
  ·refine ⟨av_int ?_, rfl⟩
   rw [setE, if_pos hin, if_pos]
   exact fun j hj h0=>hb j (by omega) hj h0
theorem setP (l : List Int) (n : Int) (hl : l.length ≤ 4503599627370496) : PSpec Tryz.prog 133 [.sl 0 encI l, .int .i64 n] (fun u=>u = .int .i64 (setE l n)):=by
 refine PSpec.intro tt_ok mx_ok Tryz.func133 rfl (by decide) ?_; (conv=>whnf)
 refine WPc.loopF tt_ok mx_ok (fun k : Nat=>k ≤ l.length ∧ ∀ j, j < k → 0 ≤ l.getD j 0 ∧ l.getD j 0 < n) (fun k=>[(10, .int .i64 (k : Int))]) (fun _=>[]) (fun k=>l.length - k) 0 ⟨by omega, fun j hj=>by omega⟩ ?_; conv=>whnf
 refine ⟨sI, ?_⟩
 rintro k ⟨hk, ha⟩
 conv=>whnf
 refine cmpI (fun h1=>?_) (fun h1=>?_) <;> conv=>whnf
 ·by_cases h2 : 0 ≤ l.getD (k : Int).toNat 0 ∧ l.getD (k : Int).toNat 0 < n
  ·repeat' first | (refine at_ ?_; conv=>whnf) | (refine cmpI (fun _=>?_) (fun _=>?_) <;> conv=>whnf)
   rw [tN] at h2
   refine ⟨k + 1, sI, ⟨by omega, fun j hj=>?_⟩, by dsimp only; omega⟩
   by_cases e : j = k
   ·subst e; omega
   ·exact ha j (by omega)
  ·repeat' first | (refine at_ ?_; conv=>whnf) | (refine cmpI (fun _=>?_) (fun _=>?_) <;> conv=>whnf)
   all_goals
    rw [tN] at h2
    refine ⟨av_int ?_, rfl⟩
    rw [setE, if_neg]
    intro h
    have:=h k (by omega)
    omega
 ·have hin : inR l n:=fun j hj=>ha j (by omega)
  refine WPc.loopF tt_ok mx_ok (fun k : Nat=>1 ≤ k ∧ (k ≤ l.length ∨ k = 1) ∧ ∀ j, j < k → j < l.length → 0 < j → l.getD (j - 1) 0 < l.getD j 0) (fun k=>[(7, .int .i64 (k : Int))]) (fun _=>[]) (fun k=>l.length - k) 1 ⟨by omega, by omega, fun j hj=>by omega⟩ ?_; conv=>whnf
  refine ⟨sI, ?_⟩
  rintro k ⟨hk, hk2, hb⟩
  conv=>whnf
  repeat' first | (refine at_ ?_; conv=>whnf) | (refine cmpI (fun _=>?_) (fun _=>?_) <;> conv=>whnf)
  ·rename_i h1 h2
   rw [tN, show ((k : Int) - 1).toNat = k - 1 by omega] at h2
   refine ⟨av_int ?_, rfl⟩
   rw [setE, if_pos hin, if_neg]
   intro h
   have:=h k (by omega) (by omega)
   omega
  ·rename_i h1 h2
   rw [tN, show ((k : Int) - 1).toNat = k - 1 by omega] at h2
   refine ⟨k + 1, sI, ⟨by omega, by omega, fun j hj hj2 hj3=>?_⟩, by dsimp only; omega⟩
   by_cases e : j = k
   ·subst e; omega
   ·exact hb j (by omega) hj2 hj3
  ·refine ⟨av_int ?_, rfl⟩
   rw [setE, if_pos hin, if_pos]
   exact fun j hj h0=>hb j (by omega) hj h0
set_option maxRecDepth 100000
def words : List ByteArray:=[⟨#[112, 114, 111, 116, 111, 99, 111, 108]⟩, ⟨#[116, 111, 112, 111, 108, 111, 103, 121]⟩, ⟨#[115, 116, 97, 116, 101, 115]⟩, ⟨#[109, 101, 115, 115, 97, 103, 101, 115]⟩, ⟨#[118, 97, 108, 117, 101, 115]⟩, ⟨#[102, 97, 117, 108, 116, 115]⟩, ⟨#[114, 101, 115, 105, 108, 105, 101, 110, 99, 101]⟩, ⟨#[105, 110, 105, 116, 105, 97, 108]⟩, ⟨#[108, 101, 97, 100, 101, 114]⟩, ⟨#[114, 117, 108, 101]⟩, ⟨#[108, 111, 99, 97, 108]⟩, ⟨#[112, 97, 105, 114]⟩, ⟨#[98, 114, 111, 97, 100, 99, 97, 115, 116]⟩, ⟨#[110, 101, 105, 103, 104, 98, 111, 114]⟩, ⟨#[112, 97, 115, 115]⟩, ⟨#[119, 104, 101, 110]⟩, ⟨#[101, 120, 105, 115, 116, 115]⟩, ⟨#[102, 111, 114, 97, 108, 108]⟩, ⟨#[114, 101, 97, 100]⟩, ⟨#[119, 114, 105, 116, 101]⟩, ⟨#[115, 101, 110, 100]⟩, ⟨#[97, 108, 108]⟩, ⟨#[97, 116]⟩, ⟨#[102, 105, 114, 115, 116]⟩, ⟨#[108, 97, 115, 116]⟩, ⟨#[108, 101, 102, 116]⟩, ⟨#[114, 105, 103, 104, 116]⟩, ⟨#[112, 97, 114, 101, 110, 116]⟩, ⟨#[99, 104, 105, 108, 100]⟩, ⟨#[112, 114, 111, 112, 101, 114, 116, 121]⟩, ⟨#[110, 101, 118, 101, 114]⟩, ⟨#[101, 118, 101, 110, 116, 117, 97, 108, 108, 121]⟩, ⟨#[115, 116, 97, 114, 116]⟩, ⟨#[99, 111, 117, 110, 116]⟩, ⟨#[97, 100, 106, 97, 99, 101, 110, 116]⟩, ⟨#[103, 111, 97, 108]⟩, ⟨#[99, 108, 105, 113, 117, 101]⟩, ⟨#[108, 105, 110, 101]⟩, ⟨#[114, 105, 110, 103]⟩, ⟨#[116, 114, 101, 101]⟩, ⟨#[99, 114, 97, 115, 104]⟩, ⟨#[111, 109, 105, 115, 115, 105, 111, 110]⟩, ⟨#[97, 114, 98, 105, 116, 114, 97, 114, 121]⟩]
def wordsT : ByteArray:=⟨#[112, 114, 111, 116, 111, 99, 111, 108, 32, 116, 111, 112, 111, 108, 111, 103, 121, 32, 115, 116, 97, 116, 101, 115, 32, 109, 101, 115, 115, 97, 103, 101, 115, 32, 118, 97, 108, 117, 101, 115, 32, 102, 97, 117, 108, 116, 115, 32, 114, 101, 115, 105, 108, 105, 101, 110, 99, 101, 32, 105, 110, 105, 116, 105, 97, 108, 32, 108, 101, 97, 100, 101, 114, 32, 114, 117, 108, 101, 32, 108, 111, 99, 97, 108, 32, 112, 97, 105, 114, 32, 98, 114, 111, 97, 100, 99, 97, 115, 116, 32, 110, 101, 105, 103, 104, 98, 111, 114, 32, 112, 97, 115, 115, 32, 119, 104, 101, 110, 32, 101, 120, 105, 115, 116, 115, 32, 102, 111, 114, 97, 108, 108, 32, 114, 101, 97, 100, 32, 119, 114, 105, 116, 101, 32, 115, 101, 110, 100, 32, 97, 108, 108, 32, 97, 116, 32, 102, 105, 114, 115, 116, 32, 108, 97, 115, 116, 32, 108, 101, 102, 116, 32, 114, 105, 103, 104, 116, 32, 112, 97, 114, 101, 110, 116, 32, 99, 104, 105, 108, 100, 32, 112, 114, 111, 112, 101, 114, 116, 121, 32, 110, 101, 118, 101, 114, 32, 101, 118, 101, 110, 116, 117, 97, 108, 108, 121, 32, 115, 116, 97, 114, 116, 32, 99, 111, 117, 110, 116, 32, 97, 100, 106, 97, 99, 101, 110, 116, 32, 103, 111, 97, 108, 32, 99, 108, 105, 113, 117, 101, 32, 108, 105, 110, 101, 32, 114, 105, 110, 103, 32, 116, 114, 101, 101, 32, 99, 114, 97, 115, 104, 32, 111, 109, 105, 115, 115, 105, 111, 110, 32, 97, 114, 98, 105, 116, 114, 97, 114, 121]⟩
def byt (s : ByteArray) (i : Nat) : Nat:=(s.data.getD i 0).toNat
instance decMemB (s : ByteArray) : (l : List ByteArray) → Decidable (s ∈ l)
 | []=>isFalse (by simp)
 | x :: l=>if h : s = x then isTrue (by simp [h]) else match decMemB s l with
  | isTrue h2=>isTrue (by simp [h2])
  | isFalse h2=>isFalse (by simp [h, h2])
def spc (i : Nat) : Int:=asciiTab.getD ((byt wordsT i : Nat) : Int).toNat 0
def st1 : Nat → Int × Int × Int
 | 0=>(0, 1, 0)
 | i + 1=>((st1 i).1 + bitI .and .i64 (st1 i).2.1 (bitI .xor .i64 (if IntKind.i64.signed then -1 else IntKind.i64.max) (spc i)), spc i, bitI .or .u8 (st1 i).2.2 (byt wordsT i : Int))
def st3 : Nat → Nat × Nat × List ByteArray
 | 0=>(0, 0, List.replicate 43 t0)
 | i + 1=>if spc i = 0 then st3 i else ((st3 i).1 + 1, i + 1, (st3 i).2.2.set (st3 i).1 (wordsT.extract (st3 i).2.1 i))
theorem tab_fact : asciiTab.length = 256:=by decide +kernel
theorem st1_fact : ∀ i, i < 290 → 0 ≤ (st1 i).1 ∧ (st1 i).1 ≤ 1000:=by decide +kernel
theorem spc_fact : ∀ i, i < 290 → spc i = 0 ∨ spc i = 1:=by decide +kernel
theorem st1_end : (st1 289).1 = 43 ∧ (st1 289).2.2 = 127:=by decide +kernel
theorem spc_next : ∀ i, i < 289 → spc i ≠ 0 → i + 1 < 289 ∧ spc (i + 1) = 0:=by decide +kernel
theorem st3_fact : ∀ i, i < 290 → (st3 i).1 < 43 ∧ (st3 i).2.1 ≤ i ∧ (st3 i).2.2.length = 43:=by decide +kernel
theorem st3_end : (st3 289).1 = 42 ∧ (st3 289).2.1 = 280 ∧ (st3 289).2.2.set 42 (wordsT.extract 280 289) = words:=by decide +kernel
theorem wordsT_size : wordsT.size = 289:=by decide +kernel
theorem byt_lt (s : ByteArray) (i : Nat) : byt s i < 256:=by unfold byt; exact UInt8.toNat_lt _
end Go.Proofs.YtnjggjhkfncnlaaGreatDoor
