import Derived.Test.YtnjggjhkfncnlaaGreatDoorM4
import Derived.Test.YtnjggjhkfncnlaaGreatDoorM6
import Derived.Test.YtnjggjhkfncnlaaGreatDoorP1
import Derived.Test.YtnjggjhkfncnlaaGreatDoorFtE
import Derived.Test.YtnjggjhkfncnlaaGreatDoorFwX
import Derived.Test.YtnjggjhkfncnlaaGreatDoorW0
set_option linter.unusedVariables false
set_option linter.unusedSimpArgs false
namespace Go.Proofs.YtnjggjhkfncnlaaGreatDoor
set_option maxRecDepth 100000
set_option maxHeartbeats 8000000
def okC (c : Cfg) : Prop:=c.shape.length ≤ 140737488355328 ∧ c.states.length ≤ 140737488355328 ∧ c.sent.length ≤ 140737488355328 ∧ c.faulty.length ≤ 140737488355328
theorem checkSizeG (p : Pro) (s : Siz) (hp : okP p) : PSpec Tryz.prog 55 [.agg (encP p), .agg (encZ s)] (fun u=>u = .int .i64 (sizeE p s)):=by
 refine PSpec.intro tt_ok mx_ok Tryz.func55 rfl (by decide) ?_; (conv=>whnf)
 refine boxP rfl ?_
 conv=>whnf
 refine boxP rfl ?_
 conv=>whnf
 (refine oP (validateF p hp) ?_; conv=>whnf)
 refine cmpI ?_ ?_ <;> (intro h1; conv=>whnf)
 ·(refine oP (validateF p hp) ?_; conv=>whnf)
  exact ⟨av_int (by rw [sizeE, if_pos h1]), rfl⟩
 have h1 : validE p = 0:=by omega
 refine dC (admissibleF p s (not_big h1) h1) (fun _=>?_) (fun _=>?_) <;> (conv=>whnf)
 ·rename_i h2
  refine cmpI ?_ ?_ <;> (intro h3; conv=>whnf)
  ·exact ⟨av_int (by rw [sizeE, if_neg (by omega), if_neg (fun h=>h h2), if_pos h3]), rfl⟩
  ·exact ⟨av_int (by rw [sizeE, if_neg (by omega), if_neg (fun h=>h h2), if_neg h3]), rfl⟩
 ·rename_i h2
  exact ⟨av_int (by rw [sizeE, if_neg (by omega), if_pos h2]), rfl⟩
theorem sizedH (p : Pro) (s : Siz) (hp : okP p) : PSpec Tryz.prog 75 [.agg (encP p), .agg (encZ s)] (fun u=>u = .int .i64 (sizeE p s)):=by
 refine PSpec.intro tt_ok mx_ok Tryz.func75 rfl (by decide) ?_; (conv=>whnf)
 refine boxP rfl ?_
 conv=>whnf
 refine boxP rfl ?_
 conv=>whnf
 (refine oP (validateR p hp) ?_; conv=>whnf)
 refine cmpI ?_ ?_ <;> (intro h1; conv=>whnf)
 ·exact ⟨av_int (by rw [sizeE, if_pos h1]), rfl⟩
 have h1 : validE p = 0:=by omega
 refine dC (admissibleR p s (not_big h1) (validE_res h1)) (fun _=>?_) (fun _=>?_) <;> (conv=>whnf)
 ·rename_i h2
  refine cmpI ?_ ?_ <;> (intro h3; conv=>whnf)
  ·exact ⟨av_int (by rw [sizeE, if_neg (by omega), if_neg (fun h=>h h2), if_pos h3]), rfl⟩
  ·exact ⟨av_int (by rw [sizeE, if_neg (by omega), if_neg (fun h=>h h2), if_neg h3]), rfl⟩
 ·rename_i h2
  exact ⟨av_int (by rw [sizeE, if_neg (by omega), if_pos h2]), rfl⟩
theorem inClosG (l : List Int) (m : Int) (hl : l.length ≤ 140737488355328) : PSpec Tryz.prog 118 [.sl 0 encI l, .int .i64 m] (fun u=>u = .bool (decide (inR l (m + 1)))):=by
 refine PSpec.intro tt_ok mx_ok Tryz.func118 rfl (by decide) ?_; (conv=>whnf)
 refine WPc.loopF tt_ok mx_ok (fun k : Nat=>k ≤ l.length ∧ ∀ j, j < k → 0 ≤ l.getD j 0 ∧ l.getD j 0 < m + 1) (fun k=>[(9, .int .i64 (k : Int))]) (fun _=>[]) (fun k=>l.length - k) 0 ⟨by omega, fun j hj=>by omega⟩ ?_; conv=>whnf
 refine ⟨sI, ?_⟩
 rintro k ⟨hk, ha⟩
 conv=>whnf
 refine cmpI ?_ ?_ <;> (intro h1; conv=>whnf)
 ·refine nI ?_
  rw [tN]
  by_cases h2 : 0 ≤ l.getD k 0 ∧ l.getD k 0 < m + 1
  ·conv=>whnf
   repeat' ((first|refine nI ?_|refine aI ?_|refine tI ?_|refine fI ?_|fail);conv=>whnf)
   refine ⟨k + 1, sI, ⟨by omega, fun j hj=>?_⟩, by dsimp only; omega⟩
   by_cases e : j = k
   ·subst e; omega
   ·exact ha j (by omega)
  ·conv=>whnf
   repeat' ((first|refine nI ?_|refine aI ?_|refine arU trivial (by omega) ?_|refine arB trivial (by omega) ?_|refine dI ?_|refine dR ?_|refine dP ?_|refine boxP rfl ?_|refine pI _ rfl ?_|refine rowSetI _ rfl ?_|refine tI ?_|refine fI ?_|refine cmpI (fun _=>?_) (fun _=>?_)) <;> conv=>whnf)
   all_goals exact ⟨dec_f (fun h=>h2 (h k (by omega))), rfl⟩
 ·exact ⟨dec_t (fun j hj=>ha j (by omega)), rfl⟩
theorem validConfigG (p : Pro) (s : Siz) (c : Cfg) (hp : ¬ bigP p) (hc0 : okC c) (hs0 : 0 ≤ s.n ∧ s.n ≤ 8 ∧ 0 ≤ s.f ∧ s.f ≤ 8) : PSpec Tryz.prog 56 [.agg (encP p), .agg (encZ s), .agg (encC c)] (fun u=>u = .int .i64 (vcE p s c)):=by
 have hle:=bigP_le hp
 have hc:=hc0
 unfold okC at hc
 have hs : 0 ≤ s.n ∧ s.n ≤ 1048576 ∧ 0 ≤ s.f ∧ s.f ≤ 1048576:=by omega
 have bad : ¬ VC p s c → vcE p s c = 1:=fun h=>by rw [vcE, if_neg h]
 refine PSpec.intro tt_ok mx_ok Tryz.func56 rfl (by decide) ?_; (conv=>whnf)
 refine boxP rfl ?_
 conv=>whnf
 refine boxP rfl ?_
 conv=>whnf
 refine boxP rfl ?_
 conv=>whnf
 have hwl : (whL p = 1048576 ∧ (p.fault = 1 ∨ p.fault = 2)) ∨ (whL p = 0 ∧ ¬ (p.fault = 1 ∨ p.fault = 2)):=by
  unfold whL
  by_cases h : p.fault = 1 ∨ p.fault = 2
  ·rw [if_pos h]; exact .inl ⟨rfl, h⟩
  ·rw [if_neg h]; exact .inr ⟨rfl, h⟩
 have ht4 : p.topology = 4 ∨ p.topology ≠ 4:=by omega
 rcases ht4 with ht | ht <;> rcases hwl with ⟨hwl, hfa⟩ | ⟨hwl, hfa⟩
 all_goals
  repeat' (first | (refine tI ?_; conv=>whnf) | (refine fI ?_; conv=>whnf) | (refine cmpI ?_ ?_ <;> (intro _; conv=>whnf)))
 all_goals
  refine dI ?_
  conv=>whnf
  (refine oC (modeledF p s hs) ?_; conv=>whnf)
  refine cmpI ?_ ?_ <;> (intro h1; conv=>whnf)
  case refine_2 =>
   repeat' ((first|refine nI ?_|refine aI ?_|refine tI ?_|refine fI ?_|fail);conv=>whnf)
   exact ⟨av_int (bad (fun h=>h1 h.len)).symm, rfl⟩
  repeat' ((first|refine nI ?_|refine aI ?_|refine tI ?_|refine fI ?_|fail);conv=>whnf)
  refine dD (inClosG c.states _ (by omega)) (fun _=>?_) (fun _=>?_) <;> (conv=>whnf)
  case refine_2 =>
   rename_i h
   repeat' ((first|refine nI ?_|refine aI ?_|refine tI ?_|refine fI ?_|fail);conv=>whnf)
   exact ⟨av_int (bad (fun hh=>h (by have:=hh.sta; rwa [show (p.states.length : Int) - 1 + 1 = p.states.length by omega]))).symm, rfl⟩
  rename_i h2
  rw [show (p.states.length : Int) - 1 + 1 = p.states.length by omega] at h2
  repeat' ((first|refine nI ?_|refine aI ?_|refine tI ?_|refine fI ?_|fail);conv=>whnf)
  refine cmpI ?_ ?_ <;> (intro h3; conv=>whnf)
  case refine_2 =>
   repeat' ((first|refine nI ?_|refine aI ?_|refine tI ?_|refine fI ?_|fail);conv=>whnf)
   exact ⟨av_int (bad (fun h=>h3 h.cor)).symm, rfl⟩
  refine cmpI ?_ ?_ <;> (intro h4; conv=>whnf)
  case refine_2 =>
   repeat' ((first|refine nI ?_|refine aI ?_|refine tI ?_|refine fI ?_|fail);conv=>whnf)
   exact ⟨av_int (bad (fun h=>h4 (by have:=h.snl; omega))).symm, rfl⟩
  refine dD (inClosG c.sent _ (by omega)) (fun _=>?_) (fun _=>?_) <;> (conv=>whnf)
  case refine_2 =>
   rename_i h
   repeat' ((first|refine nI ?_|refine aI ?_|refine tI ?_|refine fI ?_|fail);conv=>whnf)
   exact ⟨av_int (bad (fun hh=>h hh.sen)).symm, rfl⟩
  rename_i h5
  refine cmpI ?_ ?_ <;> (intro h6; conv=>whnf)
  case refine_2 =>
   repeat' ((first|refine nI ?_|refine aI ?_|refine tI ?_|refine fI ?_|fail);conv=>whnf)
   exact ⟨av_int (bad (fun h=>h6 (by have:=h.fal; omega))).symm, rfl⟩
  refine dD (inClosG c.faulty _ (by omega)) (fun _=>?_) (fun _=>?_) <;> (conv=>whnf)
  case refine_2 =>
   rename_i h
   repeat' ((first|refine nI ?_|refine aI ?_|refine tI ?_|refine fI ?_|fail);conv=>whnf)
   exact ⟨av_int (bad (fun hh=>h (by have:=hh.fau; rwa [hwl] at this))).symm, rfl⟩
  rename_i h7
  refine cmpI ?_ ?_ <;> (intro h8; conv=>whnf)
  case refine_2 =>
   repeat' ((first|refine nI ?_|refine aI ?_|refine tI ?_|refine fI ?_|fail);conv=>whnf)
   exact ⟨av_int (bad (fun h=>h8 h.va0)).symm, rfl⟩
  refine cmpI ?_ ?_ <;> (intro h9; conv=>whnf)
  case refine_2 =>
   repeat' ((first|refine nI ?_|refine aI ?_|refine tI ?_|refine fI ?_|fail);conv=>whnf)
   exact ⟨av_int (bad (fun h=>h9 (by have:=h.va1; split <;> omega))).symm, rfl⟩
  have hva1 : c.value < 1 ∨ c.value < p.values.length:=by split at h9 <;> omega
  repeat' ((first|refine nI ?_|refine aI ?_|refine tI ?_|refine fI ?_|fail);conv=>whnf)
  refine cmpI ?_ ?_ <;> (intro h10; conv=>whnf)
 all_goals try first
  |exact ⟨av_int (bad (fun h=>by have:=h.tre ht; omega)).symm, rfl⟩
  |exact ⟨av_int (bad (fun h=>by have:=h.non ht; omega)).symm, rfl⟩
  |exact ⟨av_int (by rw [vcE, if_pos ⟨h1, h2, h3, by omega, h5, by omega, by rw [hwl]; exact h7, h8, hva1, fun h=>absurd h ht, fun _=>by omega⟩]), rfl⟩
  |skip
 all_goals
  have hE:=endsF c.shape (by omega)
  by_cases hsh : shp c.shape
  ·rw [if_pos hsh] at hE
   (refine oP (hE) ?_; conv=>whnf)
   refine needI (endsL_ne hsh) ?_
   conv=>whnf
   exact ⟨av_int (by rw [vcE, if_pos ⟨h1, h2, h3, by omega, h5, by omega, by rw [hwl]; exact h7, h8, hva1, fun _=>⟨h10, hsh⟩, fun h=>absurd ht h⟩]), rfl⟩
  ·rw [if_neg hsh] at hE
   (refine oP (hE) ?_; conv=>whnf)
   exact ⟨av_int (bad (fun h=>hsh (h.tre ht).2)).symm, rfl⟩
theorem numbersG (l : List Int) (n : Int) (hl : l.length ≤ 140737488355328) : PSpec Tryz.prog 151 [.sl 0 encI l, .int .i64 n] (fun u=>u = .bool (decide ((l.length : Int) = n ∧ inR l 1048577))):=by
 refine PSpec.intro tt_ok mx_ok Tryz.func151 rfl (by decide) ?_; (conv=>whnf)
 refine cmpI ?_ ?_ <;> (intro h0; conv=>whnf)
 ·exact ⟨dec_f (fun h=>h0 h.1), rfl⟩
 refine WPc.loopF tt_ok mx_ok (fun k : Nat=>k ≤ l.length ∧ ∀ j, j < k → 0 ≤ l.getD j 0 ∧ l.getD j 0 < 1048577) (fun k=>[(5, .int .i64 (k : Int))]) (fun _=>[]) (fun k=>l.length - k) 0 ⟨by omega, fun j hj=>by omega⟩ ?_; conv=>whnf
 refine ⟨sI, ?_⟩
 rintro k ⟨hk, ha⟩
 conv=>whnf
 refine cmpI ?_ ?_ <;> (intro h1; conv=>whnf)
 ·refine nI ?_
  rw [tN]
  conv=>whnf
  refine dC (withinT _ _ _) (fun _=>?_) (fun _=>?_) <;> (conv=>whnf)
  ·rename_i h2
   repeat' ((first|refine nI ?_|refine aI ?_|refine tI ?_|refine fI ?_|fail);conv=>whnf)
   refine ⟨k + 1, sI, ⟨by omega, fun j hj=>?_⟩, by dsimp only; omega⟩
   by_cases e : j = k
   ·subst e; omega
   ·exact ha j (by omega)
  ·rename_i h2
   exact ⟨dec_f (fun h=>h2 (by have:=h.2 k (by omega); omega)), rfl⟩
 ·exact ⟨dec_t ⟨by omega, fun j hj=>ha j (by omega)⟩, rfl⟩
theorem statesG (p : Pro) (l : List Int) (hl : l.length ≤ 140737488355328) (hp : p.states.length ≤ 1000) : PSpec Tryz.prog 150 [.agg (encP p), .sl 0 encI l] (fun u=>u = .bool (decide (inR l p.states.length))):=by
 refine PSpec.intro tt_ok mx_ok Tryz.func150 rfl (by decide) ?_; (conv=>whnf)
 refine boxP rfl ?_
 conv=>whnf
 refine WPc.loopF tt_ok mx_ok (fun k : Nat=>k ≤ l.length ∧ ∀ j, j < k → 0 ≤ l.getD j 0 ∧ l.getD j 0 < p.states.length) (fun k=>[(5, .int .i64 (k : Int))]) (fun _=>[]) (fun k=>l.length - k) 0 ⟨by omega, fun j hj=>by omega⟩ ?_; conv=>whnf
 refine ⟨sI, ?_⟩
 rintro k ⟨hk, ha⟩
 conv=>whnf
 refine cmpI ?_ ?_ <;> (intro h1; conv=>whnf)
 ·refine dI ?_
  conv=>whnf
  refine nI ?_
  rw [tN]
  conv=>whnf
  repeat' ((first|refine nI ?_|refine aI ?_|refine tI ?_|refine fI ?_|fail);conv=>whnf)
  refine dD (withinT _ _ _) (fun _=>?_) (fun _=>?_) <;> (conv=>whnf)
  ·rename_i h2
   repeat' ((first|refine nI ?_|refine aI ?_|refine tI ?_|refine fI ?_|fail);conv=>whnf)
   refine ⟨k + 1, sI, ⟨by omega, fun j hj=>?_⟩, by dsimp only; omega⟩
   by_cases e : j = k
   ·subst e; omega
   ·exact ha j (by omega)
  ·rename_i h2
   exact ⟨dec_f (fun h=>h2 (by have:=h k (by omega); omega)), rfl⟩
 ·exact ⟨dec_t (fun j hj=>ha j (by omega)), rfl⟩
theorem validConfigH (p : Pro) (s : Siz) (c : Cfg) (hp : ¬ bigP p) (hc0 : okC c) (hs0 : 0 ≤ s.n ∧ s.n ≤ 8 ∧ 0 ≤ s.f ∧ s.f ≤ 8) : PSpec Tryz.prog 76 [.agg (encP p), .agg (encZ s), .agg (encC c)] (fun u=>u = .bool (decide (VC p s c))):=by
 have hle:=bigP_le hp
 have hc:=hc0
 unfold okC at hc
 have hs : 0 ≤ s.n ∧ s.n ≤ 1048576 ∧ 0 ≤ s.f ∧ s.f ≤ 1048576:=by omega
 have hwl : (whL p = 1048576 ∧ (p.fault = 1 ∨ p.fault = 2)) ∨ (whL p = 0 ∧ ¬ (p.fault = 1 ∨ p.fault = 2)):=by
  unfold whL
  by_cases h : p.fault = 1 ∨ p.fault = 2
  ·rw [if_pos h]; exact .inl ⟨rfl, h⟩
  ·rw [if_neg h]; exact .inr ⟨rfl, h⟩
 refine PSpec.intro tt_ok mx_ok Tryz.func76 rfl (by decide) ?_; (conv=>whnf)
 refine boxP rfl ?_
 conv=>whnf
 refine boxP rfl ?_
 conv=>whnf
 refine boxP rfl ?_
 conv=>whnf
 refine dI ?_
 conv=>whnf
 (refine oC (modeledR p s hs) ?_; conv=>whnf)
 refine cmpI ?_ ?_ <;> (intro h1; conv=>whnf)
 ·exact ⟨dec_f (fun h=>h1 h.len), rfl⟩
 refine dD (statesG p c.states (by omega) (by omega)) (fun _=>?_) (fun _=>?_) <;> (conv=>whnf)
 case refine_2=>rename_i h; exact ⟨dec_f (fun hh=>h hh.sta), rfl⟩
 rename_i h2
 repeat' ((first|refine nI ?_|refine aI ?_|refine tI ?_|refine fI ?_|fail);conv=>whnf)
 refine cmpI ?_ ?_ <;> (intro h3; conv=>whnf)
 ·exact ⟨dec_f (fun h=>h3 h.cor), rfl⟩
 refine dD (numbersG c.sent _ (by omega)) (fun _=>?_) (fun _=>?_) <;> (conv=>whnf)
 case refine_2=>rename_i h; exact ⟨dec_f (fun hh=>h ⟨by have:=hh.snl; omega, hh.sen⟩), rfl⟩
 rename_i h4
 refine dD (numbersG c.faulty _ (by omega)) (fun _=>?_) (fun _=>?_) <;> (conv=>whnf)
 case refine_2 =>
  rename_i h
  refine ⟨dec_f (fun hh=>h ⟨by have:=hh.fal; omega, fun j hj=>?_⟩), rfl⟩
  have:=hh.fau j hj
  omega
 rename_i h5
 refine WPc.loopF tt_ok mx_ok (fun k : Nat=>k ≤ c.faulty.length ∧ ∀ j, j < k → c.faulty.getD j 0 ≠ 0 → (p.fault = 1 ∨ p.fault = 2)) (fun k=>[(7, .int .i64 (k : Int))]) (fun _=>[]) (fun k=>c.faulty.length - k) 0 ⟨by omega, fun j hj=>by omega⟩ ?_; conv=>whnf
 refine ⟨sI, ?_⟩
 rintro k ⟨hk, ha⟩
 conv=>whnf
 refine cmpI ?_ ?_ <;> (intro h6; conv=>whnf)
 ·refine nI ?_
  rw [tN]
  conv=>whnf
  refine cmpI ?_ ?_ <;> (intro h7; conv=>whnf)
  ·refine dC (looseR p) (fun _=>?_) (fun _=>?_) <;> (conv=>whnf)
   ·rename_i h8
    repeat' ((first|refine nI ?_|refine aI ?_|refine tI ?_|refine fI ?_|fail);conv=>whnf)
    exact ⟨k + 1, sI, ⟨by omega, fun j hj _=>h8⟩, by dsimp only; omega⟩
   ·rename_i h8
    refine ⟨dec_f (fun hh=>?_), rfl⟩
    have h9:=hh.fau k (by omega)
    omega
  ·repeat' ((first|refine nI ?_|refine aI ?_|refine tI ?_|refine fI ?_|fail);conv=>whnf)
   refine ⟨k + 1, sI, ⟨by omega, fun j hj h8=>?_⟩, by dsimp only; omega⟩
   by_cases e : j = k
   ·subst e; exact absurd h8 h7
   ·exact ha j (by omega) h8
 have hfau : inR c.faulty (whL p + 1):=fun j hj=>by
  have a1:=h5.2 j hj
  have a2:=ha j (by omega)
  omega
 repeat' ((first|refine nI ?_|refine aI ?_|refine tI ?_|refine fI ?_|fail);conv=>whnf)
 refine dC (withinT _ _ _) (fun _=>?_) (fun _=>?_) <;> (conv=>whnf)
 case refine_2 =>
  rename_i h
  refine ⟨dec_f (fun hh=>h ⟨hh.va0, ?_⟩), rfl⟩
  have:=hh.va1
  split <;> omega
 rename_i h9
 have hva1 : c.value < 1 ∨ c.value < p.values.length:=by
  have:=h9.2
  split at this <;> omega
 refine cmpI ?_ ?_ <;> (intro ht; conv=>whnf)
 ·refine cmpI ?_ ?_ <;> (intro h10; conv=>whnf)
  ·refine dC (isShapeD c.shape (by omega)) (fun _=>?_) (fun _=>?_) <;> (conv=>whnf)
   ·rename_i hsh
    exact ⟨dec_t ⟨by omega, h2, by omega, by omega, h4.2, by omega, hfau, h9.1, hva1, fun _=>⟨h10, hsh⟩, fun h=>absurd ht h⟩, rfl⟩
   ·rename_i hsh
    exact ⟨dec_f (fun h=>hsh (h.tre ht).2), rfl⟩
  ·exact ⟨dec_f (fun h=>h10 (h.tre ht).1), rfl⟩
 ·refine cmpI ?_ ?_ <;> (intro h10; conv=>whnf)
  ·exact ⟨dec_t ⟨by omega, h2, by omega, by omega, h4.2, by omega, hfau, h9.1, hva1, fun h=>absurd h ht, fun _=>by omega⟩, rfl⟩
  ·exact ⟨dec_f (fun h=>h10 (by have:=h.non ht; omega)), rfl⟩
theorem vc_wide {p : Pro} {s : Siz} {c : Cfg} (hz : sizeE p s = 0) (h : VC p s c) : wideB c = false:=by
 have h2:=sizeE_ok (p:=p) (s:=s) hz
 have hle:=bigP_le (not_big h2.1)
 have hm : modN p s ≤ s.n:=by unfold modN; split <;> omega
 have h3:=h.len
 have h4:=h.snl
 have h5:=h.fal
 have h6 : c.shape.length ≤ 8:=by
  by_cases ht : p.topology = 4
  ·have:=(h.tre ht).1; omega
  ·have:=h.non ht; omega
 unfold wideB
 simp only [Bool.or_eq_false_iff, decide_eq_false_iff_not]
 omega
theorem rdy_vc {p : Pro} {s : Siz} {c : Cfg} (h : vconE p s c = 0) : Rdy p s c:=by
 have hz : sizeE p s = 0:=by
  unfold vconE at h
  by_cases h1 : sizeE p s ≠ 0
  ·rw [if_pos h1] at h; exact absurd h h1
  ·exact Classical.not_not.1 h1
 have hv : VC p s c:=by
  unfold vconE at h
  rw [if_neg (fun x=>x hz)] at h
  refine Classical.byContradiction fun hn=>?_
  rw [vcE, if_neg hn] at h
  omega
 exact Rdy.of (not_big (sizeE_ok hz).1) (vc_wide hz hv) h
theorem vcon_vc {p : Pro} {s : Siz} {c : Cfg} (hz : sizeE p s = 0) (h : VC p s c) : vconE p s c = 0:=by
 unfold vconE
 rw [if_neg (by omega), vcE, if_pos h]
set_option maxHeartbeats 16000000
end Go.Proofs.YtnjggjhkfncnlaaGreatDoor
