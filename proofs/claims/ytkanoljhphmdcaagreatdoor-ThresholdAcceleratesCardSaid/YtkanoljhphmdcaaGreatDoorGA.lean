import Derived.Test.YtkanoljhphmdcaaGreatDoorM4
import Derived.Test.YtkanoljhphmdcaaGreatDoorM6
import Derived.Test.YtkanoljhphmdcaaGreatDoorP1
import Derived.Test.YtkanoljhphmdcaaGreatDoorFtE
import Derived.Test.YtkanoljhphmdcaaGreatDoorFwB
import Derived.Test.YtkanoljhphmdcaaGreatDoorW0
set_option linter.unusedVariables false
set_option linter.unusedSimpArgs false
namespace Go.Proofs.YtkanoljhphmdcaaGreatDoor
set_option maxRecDepth 100000
set_option maxHeartbeats 8000000
def okC (c : Cfg) : Prop:=c.shape.length ≤ 140737488355328 ∧ c.states.length ≤ 140737488355328 ∧ c.sent.length ≤ 140737488355328 ∧ c.faulty.length ≤ 140737488355328
theorem checkSizeG (p : Pro) (s : Siz) (hp : okP p) : PSpec Tryz.prog 69 [.agg (encP p), .agg (encZ s)] (fun u=>u = .int .i64 (sizeE p s)):=by
 refine PSpec.intro tt_ok mx_ok Tryz.func69 rfl (by decide) ?_; (conv=>whnf)
 refine boxP rfl ?_
 conv=>whnf
 refine boxP rfl ?_
 conv=>whnf
 (refine oP (validateF p hp) ?_; conv=>whnf)
 refine cmpI ?_ ?_ <;> (intro h1; conv=>whnf)
 ·(refine oP (validateF p hp) ?_; conv=>whnf)
  exact ⟨av_int (by rw [sizeE, if_pos h1]), rfl⟩
 have h1 : validE p = 0:=by omega
 refine dC (admissibleF p s (not_big h1) h1) (fun _=>?_) (fun _=>?_) <;> (conv=>whnf)
 ·rename_i h2
  refine cmpI ?_ ?_ <;> (intro h3; conv=>whnf)
  ·exact ⟨av_int (by rw [sizeE, if_neg (by omega), if_neg (fun h=>h h2), if_pos h3]), rfl⟩
  ·exact ⟨av_int (by rw [sizeE, if_neg (by omega), if_neg (fun h=>h h2), if_neg h3]), rfl⟩
 ·rename_i h2
  exact ⟨av_int (by rw [sizeE, if_neg (by omega), if_pos h2]), rfl⟩
theorem sizedH (p : Pro) (s : Siz) (hp : okP p) : PSpec Tryz.prog 99 [.agg (encP p), .agg (encZ s)] (fun u=>u = .int .i64 (sizeE p s)):=by
 refine PSpec.intro tt_ok mx_ok Tryz.func99 rfl (by decide) ?_; (conv=>whnf)
 refine boxP rfl ?_
 conv=>whnf
 refine boxP rfl ?_
 conv=>whnf
 (refine oP (validateR p hp) ?_; conv=>whnf)
 refine cmpI ?_ ?_ <;> (intro h1; conv=>whnf)
 ·exact ⟨av_int (by rw [sizeE, if_pos h1]), rfl⟩
 have h1 : validE p = 0:=by omega
 refine dC (admissibleR p s (not_big h1) (validE_res h1)) (fun _=>?_) (fun _=>?_) <;> (conv=>whnf)
 ·rename_i h2
  refine cmpI ?_ ?_ <;> (intro h3; conv=>whnf)
  ·exact ⟨av_int (by rw [sizeE, if_neg (by omega), if_neg (fun h=>h h2), if_pos h3]), rfl⟩
  ·exact ⟨av_int (by rw [sizeE, if_neg (by omega), if_neg (fun h=>h h2), if_neg h3]), rfl⟩
 ·rename_i h2
  exact ⟨av_int (by rw [sizeE, if_neg (by omega), if_pos h2]), rfl⟩
theorem inClosG (l : List Int) (m : Int) (hl : l.length ≤ 140737488355328) : PSpec Tryz.prog 112 [.sl 0 encI l, .int .i64 m] (fun u=>u = .bool (decide (inR l (m + 1)))):=by
 refine PSpec.intro tt_ok mx_ok Tryz.func112 rfl (by decide) ?_; (conv=>whnf)
 refine WPc.loopF tt_ok mx_ok (fun k : Nat=>k ≤ l.length ∧ ∀ j, j < k → 0 ≤ l.getD j 0 ∧ l.getD j 0 < m + 1) (fun k=>[(9, .int .i64 (k : Int))]) (fun _=>[]) (fun k=>l.length - k) 0 ⟨by omega, fun j hj=>by omega⟩ ?_; conv=>whnf
 refine ⟨sI, ?_⟩
 rintro k ⟨hk, ha⟩
 conv=>whnf
 refine cmpI ?_ ?_ <;> (intro h1; conv=>whnf)
 ·refine nI ?_
  rw [tN]
  by_cases h2 : 0 ≤ l.getD k 0 ∧ l.getD k 0 < m + 1
  ·conv=>whnf
   repeat' ((first|refine nI ?_|refine aI ?_|refine tI ?_|refine fI ?_|fail);conv=>whnf)
   refine ⟨k + 1, sI, ⟨by omega, fun j hj=>?_⟩, by dsimp only; omega⟩
   by_cases e : j = k
   ·subst e; omega
   ·exact ha j (by omega)
  ·conv=>whnf
   repeat' ((first|refine nI ?_|refine aI ?_|refine arU trivial (by omega) ?_|refine arB trivial (by omega) ?_|refine dI ?_|refine dR ?_|refine dP ?_|refine boxP rfl ?_|refine pI _ rfl ?_|refine rowSetI _ rfl ?_|refine tI ?_|refine fI ?_|refine cmpI (fun _=>?_) (fun _=>?_)) <;> conv=>whnf)
   all_goals exact ⟨dec_f (fun h=>h2 (h k (by omega))), rfl⟩
 ·exact ⟨dec_t (fun j hj=>ha j (by omega)), rfl⟩
theorem validConfigG (p : Pro) (s : Siz) (c : Cfg) (hp : ¬ bigP p) (hc0 : okC c) (hs0 : 0 ≤ s.n ∧ s.n ≤ 8 ∧ 0 ≤ s.f ∧ s.f ≤ 8) : PSpec Tryz.prog 70 [.agg (encP p), .agg (encZ s), .agg (encC c)] (fun u=>u = .int .i64 (vcE p s c)):=by
 have hle:=bigP_le hp
 have hc:=hc0
 unfold okC at hc
 have hs : 0 ≤ s.n ∧ s.n ≤ 1048576 ∧ 0 ≤ s.f ∧ s.f ≤ 1048576:=by omega
 have bad : ¬ VC p s c → vcE p s c = 1:=fun h=>by rw [vcE, if_neg h]
 refine PSpec.intro tt_ok mx_ok Tryz.func70 rfl (by decide) ?_; (conv=>whnf)
 refine boxP rfl ?_
 conv=>whnf
 refine boxP rfl ?_
 conv=>whnf
 refine boxP rfl ?_
 conv=>whnf
 have hwl : (whL p = 1048576 ∧ (p.fault = 1 ∨ p.fault = 2)) ∨ (whL p = 0 ∧ ¬ (p.fault = 1 ∨ p.fault = 2)):=by
  unfold whL
  by_cases h : p.fault = 1 ∨ p.fault = 2
  ·rw [if_pos h]; exact .inl ⟨rfl, h⟩
  ·rw [if_neg h]; exact .inr ⟨rfl, h⟩
 have ht4 : p.topology = 4 ∨ p.topology ≠ 4:=by omega
 rcases ht4 with ht | ht <;> rcases hwl with ⟨hwl, hfa⟩ | ⟨hwl, hfa⟩
 all_goals
  repeat' (first | (refine tI ?_; conv=>whnf) | (refine fI ?_; conv=>whnf) | (refine cmpI ?_ ?_ <;> (intro _; conv=>whnf)))
 all_goals
  refine dI ?_
  conv=>whnf
  (refine oC (modeledF p s hs) ?_; conv=>whnf)
  refine cmpI ?_ ?_ <;> (intro h1; conv=>whnf)
  case refine_2 =>
   repeat' ((first|refine nI ?_|refine aI ?_|refine tI ?_|refine fI ?_|fail);conv=>whnf)
   exact ⟨av_int (bad (fun h=>h1 h.len)).symm, rfl⟩
  repeat' ((first|refine nI ?_|refine aI ?_|refine tI ?_|refine fI ?_|fail);conv=>whnf)
  refine dD (inClosG c.states _ (by omega)) (fun _=>?_) (fun _=>?_) <;> (conv=>whnf)
  case refine_2 =>
   rename_i h
   repeat' ((first|refine nI ?_|refine aI ?_|refine tI ?_|refine fI ?_|fail);conv=>whnf)
   exact ⟨av_int (bad (fun hh=>h (by have:=hh.sta; rwa [show (p.states.length : Int) - 1 + 1 = p.states.length by omega]))).symm, rfl⟩
  rename_i h2
  rw [show (p.states.length : Int) - 1 + 1 = p.states.length by omega] at h2
  repeat' ((first|refine nI ?_|refine aI ?_|refine tI ?_|refine fI ?_|fail);conv=>whnf)
  refine cmpI ?_ ?_ <;> (intro h3; conv=>whnf)
  case refine_2 =>
   repeat' ((first|refine nI ?_|refine aI ?_|refine tI ?_|refine fI ?_|fail);conv=>whnf)
   exact ⟨av_int (bad (fun h=>h3 h.cor)).symm, rfl⟩
  refine cmpI ?_ ?_ <;> (intro h4; conv=>whnf)
  case refine_2 =>
   repeat' ((first|refine nI ?_|refine aI ?_|refine tI ?_|refine fI ?_|fail);conv=>whnf)
   exact ⟨av_int (bad (fun h=>h4 (by have:=h.snl; omega))).symm, rfl⟩
  refine dD (inClosG c.sent _ (by omega)) (fun _=>?_) (fun _=>?_) <;> (conv=>whnf)
  case refine_2 =>
   rename_i h
   repeat' ((first|refine nI ?_|refine aI ?_|refine tI ?_|refine fI ?_|fail);conv=>whnf)
   exact ⟨av_int (bad (fun hh=>h hh.sen)).symm, rfl⟩
  rename_i h5
  refine cmpI ?_ ?_ <;> (intro h6; conv=>whnf)
  case refine_2 =>
   repeat' ((first|refine nI ?_|refine aI ?_|refine tI ?_|refine fI ?_|fail);conv=>whnf)
   exact ⟨av_int (bad (fun h=>h6 (by have:=h.fal; omega))).symm, rfl⟩
  refine dD (inClosG c.faulty _ (by omega)) (fun _=>?_) (fun _=>?_) <;> (conv=>whnf)
  case refine_2 =>
   rename_i h
   repeat' ((first|refine nI ?_|refine aI ?_|refine tI ?_|refine fI ?_|fail);conv=>whnf)
   exact ⟨av_int (bad (fun hh=>h (by have:=hh.fau; rwa [hwl] at this))).symm, rfl⟩
  rename_i h7
  refine cmpI ?_ ?_ <;> (intro h8; conv=>whnf)
  case refine_2 =>
   repeat' ((first|refine nI ?_|refine aI ?_|refine tI ?_|refine fI ?_|fail);conv=>whnf)
   exact ⟨av_int (bad (fun h=>h8 h.va0)).symm, rfl⟩
  refine cmpI ?_ ?_ <;> (intro h9; conv=>whnf)
  case refine_2 =>
   repeat' ((first|refine nI ?_|refine aI ?_|refine tI ?_|refine fI ?_|fail);conv=>whnf)
   exact ⟨av_int (bad (fun h=>h9 (by have:=h.va1; split <;> omega))).symm, rfl⟩
  have hva1 : c.value < 1 ∨ c.value < p.values.length:=by split at h9 <;> omega
  repeat' ((first|refine nI ?_|refine aI ?_|refine tI ?_|refine fI ?_|fail);conv=>whnf)
  refine cmpI ?_ ?_ <;> (intro h10; conv=>whnf)
 all_goals try first
  |exact ⟨av_int (bad (fun h=>by have:=h.tre ht; omega)).symm, rfl⟩
  |exact ⟨av_int (bad (fun h=>by have:=h.non ht; omega)).symm, rfl⟩
  |exact ⟨av_int (by rw [vcE, if_pos ⟨h1, h2, h3, by omega, h5, by omega, by rw [hwl]; exact h7, h8, hva1, fun h=>absurd h ht, fun _=>by omega⟩]), rfl⟩
  |skip
 all_goals
  have hE:=endsF c.shape (by omega)
  by_cases hsh : shp c.shape
  ·rw [if_pos hsh] at hE
   (refine oP (hE) ?_; conv=>whnf)
   refine needI (endsL_ne hsh) ?_
   conv=>whnf
   exact ⟨av_int (by rw [vcE, if_pos ⟨h1, h2, h3, by omega, h5, by omega, by rw [hwl]; exact h7, h8, hva1, fun _=>⟨h10, hsh⟩, fun h=>absurd ht h⟩]), rfl⟩
  ·rw [if_neg hsh] at hE
   (refine oP (hE) ?_; conv=>whnf)
   exact ⟨av_int (bad (fun h=>hsh (h.tre ht).2)).symm, rfl⟩
theorem ValidConfigG (p : Pro) (s : Siz) (c : Cfg) (hp : okP p) (hc : okC c) : PSpec Tryz.prog 35 [.agg (encP p), .agg (encZ s), .agg (encC c)] (fun u=>u = .int .i64 (vconE p s c)):=by
 refine PSpec.intro tt_ok mx_ok Tryz.func35 rfl (by decide) ?_; (conv=>whnf)
 refine boxP rfl ?_
 conv=>whnf
 refine boxP rfl ?_
 conv=>whnf
 refine boxP rfl ?_
 conv=>whnf
 (refine oP (checkSizeG p s hp) ?_; conv=>whnf)
 refine cmpI ?_ ?_ <;> (intro h1; conv=>whnf)
 ·exact ⟨av_int (by rw [vconE, if_pos h1]), rfl⟩
 ·have:=sizeE_ok (p:=p) (s:=s) (by omega)
  (refine oP (validConfigG p s c (not_big this.1) hc (by omega)) ?_; conv=>whnf)
  exact ⟨av_int (by rw [vconE, if_neg h1]), rfl⟩
theorem numbersG (l : List Int) (n : Int) (hl : l.length ≤ 140737488355328) : PSpec Tryz.prog 144 [.sl 0 encI l, .int .i64 n] (fun u=>u = .bool (decide ((l.length : Int) = n ∧ inR l 1048577))):=by
 refine PSpec.intro tt_ok mx_ok Tryz.func144 rfl (by decide) ?_; (conv=>whnf)
 refine cmpI ?_ ?_ <;> (intro h0; conv=>whnf)
 ·exact ⟨dec_f (fun h=>h0 h.1), rfl⟩
 refine WPc.loopF tt_ok mx_ok (fun k : Nat=>k ≤ l.length ∧ ∀ j, j < k → 0 ≤ l.getD j 0 ∧ l.getD j 0 < 1048577) (fun k=>[(5, .int .i64 (k : Int))]) (fun _=>[]) (fun k=>l.length - k) 0 ⟨by omega, fun j hj=>by omega⟩ ?_; conv=>whnf
 refine ⟨sI, ?_⟩
 rintro k ⟨hk, ha⟩
 conv=>whnf
 refine cmpI ?_ ?_ <;> (intro h1; conv=>whnf)
 ·refine nI ?_
  rw [tN]
  conv=>whnf
  refine dC (withinT _ _ _) (fun _=>?_) (fun _=>?_) <;> (conv=>whnf)
  ·rename_i h2
   repeat' ((first|refine nI ?_|refine aI ?_|refine tI ?_|refine fI ?_|fail);conv=>whnf)
   refine ⟨k + 1, sI, ⟨by omega, fun j hj=>?_⟩, by dsimp only; omega⟩
   by_cases e : j = k
   ·subst e; omega
   ·exact ha j (by omega)
  ·rename_i h2
   exact ⟨dec_f (fun h=>h2 (by have:=h.2 k (by omega); omega)), rfl⟩
 ·exact ⟨dec_t ⟨by omega, fun j hj=>ha j (by omega)⟩, rfl⟩
theorem statesG (p : Pro) (l : List Int) (hl : l.length ≤ 140737488355328) (hp : p.states.length ≤ 1000) : PSpec Tryz.prog 143 [.agg (encP p), .sl 0 encI l] (fun u=>u = .bool (decide (inR l p.states.length))):=by
 refine PSpec.intro tt_ok mx_ok Tryz.func143 rfl (by decide) ?_; (conv=>whnf)
 refine boxP rfl ?_
 conv=>whnf
 refine WPc.loopF tt_ok mx_ok (fun k : Nat=>k ≤ l.length ∧ ∀ j, j < k → 0 ≤ l.getD j 0 ∧ l.getD j 0 < p.states.length) (fun k=>[(5, .int .i64 (k : Int))]) (fun _=>[]) (fun k=>l.length - k) 0 ⟨by omega, fun j hj=>by omega⟩ ?_; conv=>whnf
 refine ⟨sI, ?_⟩
 rintro k ⟨hk, ha⟩
 conv=>whnf
 refine cmpI ?_ ?_ <;> (intro h1; conv=>whnf)
 ·refine dI ?_
  conv=>whnf
  refine nI ?_
  rw [tN]
  conv=>whnf
  repeat' ((first|refine nI ?_|refine aI ?_|refine tI ?_|refine fI ?_|fail);conv=>whnf)
  refine dD (withinT _ _ _) (fun _=>?_) (fun _=>?_) <;> (conv=>whnf)
  ·rename_i h2
   repeat' ((first|refine nI ?_|refine aI ?_|refine tI ?_|refine fI ?_|fail);conv=>whnf)
   refine ⟨k + 1, sI, ⟨by omega, fun j hj=>?_⟩, by dsimp only; omega⟩
   by_cases e : j = k
   ·subst e; omega
   ·exact ha j (by omega)
  ·rename_i h2
   exact ⟨dec_f (fun h=>h2 (by have:=h k (by omega); omega)), rfl⟩
 ·exact ⟨dec_t (fun j hj=>ha j (by omega)), rfl⟩
theorem validConfigH (p : Pro) (s : Siz) (c : Cfg) (hp : ¬ bigP p) (hc0 : okC c) (hs0 : 0 ≤ s.n ∧ s.n ≤ 8 ∧ 0 ≤ s.f ∧ s.f ≤ 8) : PSpec Tryz.prog 100 [.agg (encP p), .agg (encZ s), .agg (encC c)] (fun u=>u = .bool (decide (VC p s c))):=by
 have hle:=bigP_le hp
 have hc:=hc0
 unfold okC at hc
 have hs : 0 ≤ s.n ∧ s.n ≤ 1048576 ∧ 0 ≤ s.f ∧ s.f ≤ 1048576:=by omega
 have hwl : (whL p = 1048576 ∧ (p.fault = 1 ∨ p.fault = 2)) ∨ (whL p = 0 ∧ ¬ (p.fault = 1 ∨ p.fault = 2)):=by
  unfold whL
  by_cases h : p.fault = 1 ∨ p.fault = 2
  ·rw [if_pos h]; exact .inl ⟨rfl, h⟩
  ·rw [if_neg h]; exact .inr ⟨rfl, h⟩
 refine PSpec.intro tt_ok mx_ok Tryz.func100 rfl (by decide) ?_; (conv=>whnf)
 refine boxP rfl ?_
 conv=>whnf
 refine boxP rfl ?_
 conv=>whnf
 refine boxP rfl ?_
 conv=>whnf
 refine dI ?_
 conv=>whnf
 (refine oC (modeledR p s hs) ?_; conv=>whnf)
 refine cmpI ?_ ?_ <;> (intro h1; conv=>whnf)
 ·exact ⟨dec_f (fun h=>h1 h.len), rfl⟩
 refine dD (statesG p c.states (by omega) (by omega)) (fun _=>?_) (fun _=>?_) <;> (conv=>whnf)
 case refine_2=>rename_i h; exact ⟨dec_f (fun hh=>h hh.sta), rfl⟩
 rename_i h2
 repeat' ((first|refine nI ?_|refine aI ?_|refine tI ?_|refine fI ?_|fail);conv=>whnf)
 refine cmpI ?_ ?_ <;> (intro h3; conv=>whnf)
 ·exact ⟨dec_f (fun h=>h3 h.cor), rfl⟩
 refine dD (numbersG c.sent _ (by omega)) (fun _=>?_) (fun _=>?_) <;> (conv=>whnf)
 case refine_2=>rename_i h; exact ⟨dec_f (fun hh=>h ⟨by have:=hh.snl; omega, hh.sen⟩), rfl⟩
 rename_i h4
 refine dD (numbersG c.faulty _ (by omega)) (fun _=>?_) (fun _=>?_) <;> (conv=>whnf)
 case refine_2 =>
  rename_i h
  refine ⟨dec_f (fun hh=>h ⟨by have:=hh.fal; omega, fun j hj=>?_⟩), rfl⟩
  have:=hh.fau j hj
  omega
 rename_i h5
 refine WPc.loopF tt_ok mx_ok (fun k : Nat=>k ≤ c.faulty.length ∧ ∀ j, j < k → c.faulty.getD j 0 ≠ 0 → (p.fault = 1 ∨ p.fault = 2)) (fun k=>[(7, .int .i64 (k : Int))]) (fun _=>[]) (fun k=>c.faulty.length - k) 0 ⟨by omega, fun j hj=>by omega⟩ ?_; conv=>whnf
 refine ⟨sI, ?_⟩
 rintro k ⟨hk, ha⟩
 conv=>whnf
 refine cmpI ?_ ?_ <;> (intro h6; conv=>whnf)
 ·refine nI ?_
  rw [tN]
  conv=>whnf
  refine cmpI ?_ ?_ <;> (intro h7; conv=>whnf)
  ·refine dC (looseR p) (fun _=>?_) (fun _=>?_) <;> (conv=>whnf)
   ·rename_i h8
    repeat' ((first|refine nI ?_|refine aI ?_|refine tI ?_|refine fI ?_|fail);conv=>whnf)
    exact ⟨k + 1, sI, ⟨by omega, fun j hj _=>h8⟩, by dsimp only; omega⟩
   ·rename_i h8
    refine ⟨dec_f (fun hh=>?_), rfl⟩
    have h9:=hh.fau k (by omega)
    omega
  ·repeat' ((first|refine nI ?_|refine aI ?_|refine tI ?_|refine fI ?_|fail);conv=>whnf)
   refine ⟨k + 1, sI, ⟨by omega, fun j hj h8=>?_⟩, by dsimp only; omega⟩
   by_cases e : j = k
   ·subst e; exact absurd h8 h7
   ·exact ha j (by omega) h8
 have hfau : inR c.faulty (whL p + 1):=fun j hj=>by
  have a1:=h5.2 j hj
  have a2:=ha j (by omega)
  omega
 repeat' ((first|refine nI ?_|refine aI ?_|refine tI ?_|refine fI ?_|fail);conv=>whnf)
 refine dC (withinT _ _ _) (fun _=>?_) (fun _=>?_) <;> (conv=>whnf)
 case refine_2 =>
  rename_i h
  refine ⟨dec_f (fun hh=>h ⟨hh.va0, ?_⟩), rfl⟩
  have:=hh.va1
  split <;> omega
 rename_i h9
 have hva1 : c.value < 1 ∨ c.value < p.values.length:=by
  have:=h9.2
  split at this <;> omega
 refine cmpI ?_ ?_ <;> (intro ht; conv=>whnf)
 ·refine cmpI ?_ ?_ <;> (intro h10; conv=>whnf)
  ·refine dC (isShapeD c.shape (by omega)) (fun _=>?_) (fun _=>?_) <;> (conv=>whnf)
   ·rename_i hsh
    exact ⟨dec_t ⟨by omega, h2, by omega, by omega, h4.2, by omega, hfau, h9.1, hva1, fun _=>⟨h10, hsh⟩, fun h=>absurd ht h⟩, rfl⟩
   ·rename_i hsh
    exact ⟨dec_f (fun h=>hsh (h.tre ht).2), rfl⟩
  ·exact ⟨dec_f (fun h=>h10 (h.tre ht).1), rfl⟩
 ·refine cmpI ?_ ?_ <;> (intro h10; conv=>whnf)
  ·exact ⟨dec_t ⟨by omega, h2, by omega, by omega, h4.2, by omega, hfau, h9.1, hva1, fun h=>absurd h ht, fun _=>by omega⟩, rfl⟩
  ·exact ⟨dec_f (fun h=>h10 (by have:=h.non ht; omega)), rfl⟩
theorem ValidConfigH (p : Pro) (s : Siz) (c : Cfg) (hp : okP p) (hc : okC c) : PSpec Tryz.prog 59 [.agg (encP p), .agg (encZ s), .agg (encC c)] (fun u=>u = .int .i64 (vconE p s c)):=by
 refine PSpec.intro tt_ok mx_ok Tryz.func59 rfl (by decide) ?_; (conv=>whnf)
 refine boxP rfl ?_
 conv=>whnf
 refine boxP rfl ?_
 conv=>whnf
 refine boxP rfl ?_
 conv=>whnf
 (refine oP (sizedH p s hp) ?_; conv=>whnf)
 refine cmpI ?_ ?_ <;> (intro h1; conv=>whnf)
 ·exact ⟨av_int (by rw [vconE, if_pos h1]), rfl⟩
 ·have:=sizeE_ok (p:=p) (s:=s) (by omega)
  refine dC (validConfigH p s c (not_big this.1) hc (by omega)) (fun _=>?_) (fun _=>?_) <;> (conv=>whnf)
  ·rename_i h; exact ⟨av_int (by rw [vconE, if_neg h1, vcE, if_pos h]), rfl⟩
  ·rename_i h; exact ⟨av_int (by rw [vconE, if_neg h1, vcE, if_neg h]), rfl⟩
theorem vc_wide {p : Pro} {s : Siz} {c : Cfg} (hz : sizeE p s = 0) (h : VC p s c) : wideB c = false:=by
 have h2:=sizeE_ok (p:=p) (s:=s) hz
 have hle:=bigP_le (not_big h2.1)
 have hm : modN p s ≤ s.n:=by unfold modN; split <;> omega
 have h3:=h.len
 have h4:=h.snl
 have h5:=h.fal
 have h6 : c.shape.length ≤ 8:=by
  by_cases ht : p.topology = 4
  ·have:=(h.tre ht).1; omega
  ·have:=h.non ht; omega
 unfold wideB
 simp only [Bool.or_eq_false_iff, decide_eq_false_iff_not]
 omega
theorem rdy_vc {p : Pro} {s : Siz} {c : Cfg} (h : vconE p s c = 0) : Rdy p s c:=by
 have hz : sizeE p s = 0:=by
  unfold vconE at h
  by_cases h1 : sizeE p s ≠ 0
  ·rw [if_pos h1] at h; exact absurd h h1
  ·exact Classical.not_not.1 h1
 have hv : VC p s c:=by
  unfold vconE at h
  rw [if_neg (fun x=>x hz)] at h
  refine Classical.byContradiction fun hn=>?_
  rw [vcE, if_neg hn] at h
  omega
 exact Rdy.of (not_big (sizeE_ok hz).1) (vc_wide hz hv) h
theorem vcon_vc {p : Pro} {s : Siz} {c : Cfg} (hz : sizeE p s = 0) (h : VC p s c) : vconE p s c = 0:=by
 unfold vconE
 rw [if_neg (by omega), vcE, if_pos h]
set_option maxHeartbeats 16000000
noncomputable def vldE (p : Pro) (s : Siz) (c : Cfg) : Int:=if sizeE p s ≠ 0 then sizeE p s else if ¬ thrB p then 7 else vcE p s c
theorem sizeE_v {p : Pro} {s : Siz} (h : validE p ≠ 0) : sizeE p s = validE p:=by unfold sizeE; rw [if_pos h]
theorem sizeE_z {p : Pro} {s : Siz} (h : validE p = 0) : sizeE p s = if ¬ admB p s then 8 else if 8 < s.n then 4 else 0:=by unfold sizeE; rw [if_neg (fun x=>x h)]
theorem vld_ok {p : Pro} {s : Siz} {c : Cfg} (h : vldE p s c = 0) : sizeE p s = 0 ∧ thrB p ∧ VC p s c ∧ Rdy p s c ∧ vconE p s c = 0:=by
 unfold vldE at h
 by_cases h1 : sizeE p s ≠ 0
 ·rw [if_pos h1] at h; exact absurd h h1
 rw [if_neg h1] at h
 by_cases h2 : ¬ thrB p
 ·rw [if_pos h2] at h; omega
 rw [if_neg h2] at h
 have h2:=Classical.not_not.1 h2
 have h1:=Classical.not_not.1 h1
 have h3 : VC p s c:=by
  refine Classical.byContradiction fun hn=>?_
  rw [vcE, if_neg hn] at h
  omega
 exact ⟨h1, h2, h3, rdy_vc (vcon_vc h1 h3), vcon_vc h1 h3⟩
theorem sizedG (p : Pro) (s : Siz) (hp : okP p) : PSpec Tryz.prog 54 [.agg (encP p), .agg (encZ s)] (fun u=>u = .int .i64 (sizeE p s)):=by
 have hV:=validateF p hp
 refine PSpec.intro tt_ok mx_ok Tryz.func54 rfl (by decide) ?_; (conv=>whnf)
 refine boxP rfl ?_
 conv=>whnf
 refine boxP rfl ?_
 conv=>whnf
 (refine oP (hV) ?_; conv=>whnf)
 refine cmpI ?_ ?_ <;> (intro h; conv=>whnf)
 ·exact ⟨avI (sizeE_v h).symm, rfl⟩
 have hv : validE p = 0:=Classical.not_not.1 h
 have e:=sizeE_z (s:=s) hv
 refine dC (admissibleF p s (not_big hv) hv) (fun _=>?_) (fun _=>?_) <;> (conv=>whnf)
 ·rename_i h
  rw [if_neg (fun x=>x h)] at e
  refine cmpI ?_ ?_ <;> (intro h2; conv=>whnf)
  ·exact ⟨avI (by rw [e, if_pos (by omega)]), rfl⟩
  ·exact ⟨avI (by rw [e, if_neg (by omega)]), rfl⟩
 ·rename_i h
  exact ⟨avI (by rw [e, if_pos h]), rfl⟩
theorem validG (p : Pro) (s : Siz) (c : Cfg) (hp : okP p) (hc : okC c) : PSpec Tryz.prog 23 [.agg (encP p), .agg (encZ s), .agg (encC c)] (fun u=>u = .int .i64 (vldE p s c)):=by
 have he:=vldE.eq_1 p s c
 refine PSpec.intro tt_ok mx_ok Tryz.func23 rfl (by decide) ?_; (conv=>whnf)
 refine boxP rfl ?_
 conv=>whnf
 refine boxP rfl ?_
 conv=>whnf
 refine boxP rfl ?_
 conv=>whnf
 (refine oP (sizedG p s hp) ?_; conv=>whnf)
 refine cmpI ?_ ?_ <;> (intro h; conv=>whnf)
 ·rw [if_pos h] at he
  exact ⟨avI he.symm, rfl⟩
 have hz : sizeE p s = 0:=Classical.not_not.1 h
 have hv:=(sizeE_ok hz).1
 rw [if_neg h] at he
 refine Spec.of_pure (n:=5) (classP p hp hv) rfl ?_
 rintro _ ⟨b1, b2, b3, b4, rfl⟩
 by_cases ht : thrB p
 rotate_left
 ·rw [decide_eq_false ht]
  rw [if_pos ht] at he
  conv=>whnf
  exact ⟨avI he.symm, rfl⟩
 rw [decide_eq_true ht]
 rw [if_neg (fun x=>x ht)] at he
 conv=>whnf
 have hV:=ValidConfigG p s c hp hc
 rw [show vconE p s c = vcE p s c by unfold vconE; rw [if_neg (fun x=>x hz)]] at hV
 (refine oP (hV) ?_; conv=>whnf)
 exact ⟨avI he.symm, rfl⟩
theorem Admissible2G (p : Pro) (s : Siz) (hp : okP p) (hv : validE p = 0) : PSpec Tryz.prog 98 [.agg (encP p), .agg (encZ s)] (fun u=>u = .bool (decide (admB p s))):=by
 have hV:=validateR p hp
 rw [hv] at hV
 refine PSpec.intro tt_ok mx_ok Tryz.func98 rfl (by decide) ?_; (conv=>whnf)
 refine boxP rfl ?_
 conv=>whnf
 refine boxP rfl ?_
 conv=>whnf
 (refine oP (hV) ?_; conv=>whnf)
 repeat' ((first|refine nI ?_|refine aI ?_|refine tI ?_|refine fI ?_|fail);conv=>whnf)
 refine dC (admissibleR p s (not_big hv) (validE_res hv)) (fun _=>?_) (fun _=>?_) <;> (conv=>whnf)
 ·rename_i h; exact ⟨dec_t h, rfl⟩
 ·rename_i h; exact ⟨dec_f h, rfl⟩
theorem Sized4G (p : Pro) (s : Siz) (hp : okP p) (hv : validE p = 0) : PSpec Tryz.prog 58 [.agg (encP p), .agg (encZ s)] (fun u=>u = .int .i64 (sizeE p s)):=by
 have e:=sizeE_z (s:=s) hv
 refine PSpec.intro tt_ok mx_ok Tryz.func58 rfl (by decide) ?_; (conv=>whnf)
 refine boxP rfl ?_
 conv=>whnf
 refine boxP rfl ?_
 conv=>whnf
 refine dC (Admissible2G p s hp hv) (fun _=>?_) (fun _=>?_) <;> (conv=>whnf)
 ·rename_i h
  rw [if_neg (fun x=>x h)] at e
  refine cmpI ?_ ?_ <;> (intro h2; conv=>whnf)
  ·exact ⟨avI (by rw [e, if_pos (by omega)]), rfl⟩
  ·exact ⟨avI (by rw [e, if_neg (by omega)]), rfl⟩
 ·rename_i h
  exact ⟨avI (by rw [e, if_pos h]), rfl⟩
theorem placedG (p : Pro) (s : Siz) (c : Cfg) (hp : okP p) (hc : okC c) : PSpec Tryz.prog 25 [.agg (encP p), .agg (encZ s), .agg (encC c)] (fun u=>u = .int .i64 (vldE p s c)):=by
 have he:=vldE.eq_1 p s c
 refine PSpec.intro tt_ok mx_ok Tryz.func25 rfl (by decide) ?_; (conv=>whnf)
 refine boxP rfl ?_
 conv=>whnf
 refine boxP rfl ?_
 conv=>whnf
 refine boxP rfl ?_
 conv=>whnf
 by_cases hv : validE p = 0
 rotate_left
 ·(refine oP (classT_e p hp hv) ?_; conv=>whnf)
  refine cmpT hv ?_
  conv=>whnf
  rw [if_pos (by rw [sizeE_v hv]; exact hv), sizeE_v hv] at he
  exact ⟨avI he.symm, rfl⟩
 refine Spec.of_pure (n:=5) (classT p hp hv) rfl ?_
 rintro _ ⟨b1, b2, b3, b4, rfl⟩
 by_cases ht : thrB p
 rotate_left
 ·rw [decide_eq_false ht]
  conv=>whnf
  repeat' ((first|refine nI ?_|refine aI ?_|refine tI ?_|refine fI ?_|fail);conv=>whnf)
  (refine oP (Sized4G p s hp hv) ?_; conv=>whnf)
  refine cmpI ?_ ?_ <;> (intro h; conv=>whnf)
  ·rw [if_pos h] at he
   exact ⟨avI he.symm, rfl⟩
  ·rw [if_neg h, if_pos ht] at he
   exact ⟨avI he.symm, rfl⟩
 rw [decide_eq_true ht]
 conv=>whnf
 repeat' ((first|refine nI ?_|refine aI ?_|refine tI ?_|refine fI ?_|fail);conv=>whnf)
 (refine oP (Sized4G p s hp hv) ?_; conv=>whnf)
 refine cmpI ?_ ?_ <;> (intro h; conv=>whnf)
 ·rw [if_pos h] at he
  exact ⟨avI he.symm, rfl⟩
 have hz : sizeE p s = 0:=Classical.not_not.1 h
 rw [if_neg h, if_neg (fun x=>x ht)] at he
 have hV:=ValidConfigH p s c hp hc
 rw [show vconE p s c = vcE p s c by unfold vconE; rw [if_neg (fun x=>x hz)]] at hV
 (refine oP (hV) ?_; conv=>whnf)
 exact ⟨avI he.symm, rfl⟩
end Go.Proofs.YtkanoljhphmdcaaGreatDoor
