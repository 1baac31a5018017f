import Derived.Test.YtnjggjhkfncnlaaGreatDoorM4
set_option linter.unusedVariables false
set_option linter.unusedSimpArgs false
namespace Go.Proofs.YtnjggjhkfncnlaaGreatDoor
set_option maxRecDepth 100000
set_option maxHeartbeats 8000000
structure Cnt where
 states : List Int
 least : Int
structure Prp where
 name : ByteArray
 kind : Int
 start : List Int
 bad : List Cnt
 adjacent : List Int
 goal : List Int
def cnt0 : Cnt:=⟨[], 0⟩
def encCnt (c : Cnt) : List AV:=[.sl 0 encI c.states, .int .i64 c.least]
def encQ (q : Prp) : List AV:=[.str q.name, .int .i64 q.kind, .sl 0 encI q.start, .sl cnt0 encCnt q.bad, .sl 0 encI q.adjacent, .sl 0 encI q.goal]
def bigQ (q : Prp) : Prop:=500 < q.name.size ∨ 60 < q.start.length ∨ 60 < q.bad.length ∨ 60 < q.adjacent.length ∨ 60 < q.goal.length ∨ ∃ j, j < q.bad.length ∧ 60 < (q.bad.getD j cnt0).states.length
instance (q : Prp) : Decidable (bigQ q):=inferInstanceAs (Decidable (_ ∨ _))
theorem bigQ_le {q : Prp} (h : ¬ bigQ q) : q.name.size ≤ 500 ∧ q.start.length ≤ 60 ∧ q.bad.length ≤ 60 ∧ q.adjacent.length ≤ 60 ∧ q.goal.length ≤ 60:=by
 unfold bigQ at h
 omega
theorem bigQ_cnt {q : Prp} (h : ¬ bigQ q) : ∀ j, j < q.bad.length → (q.bad.getD j cnt0).states.length ≤ 60:=fun j hj=>by
 have : ¬ (60 < (q.bad.getD j cnt0).states.length):=fun h2=>h (.inr (.inr (.inr (.inr (.inr ⟨j, hj, h2⟩)))))
 omega
def okQ (q : Prp) : Prop:=(q.name.size ≤ 140737488355328 ∧ q.start.length ≤ 140737488355328 ∧ q.bad.length ≤ 140737488355328 ∧ q.adjacent.length ≤ 140737488355328 ∧ q.goal.length ≤ 140737488355328) ∧ ∀ j, j < q.bad.length → (q.bad.getD j cnt0).states.length ≤ 140737488355328
theorem okQ_of {q : Prp} (h : ¬ bigQ q) : okQ q:=⟨by have:=bigQ_le h; omega, fun j hj=>by have:=bigQ_cnt h j hj; omega⟩
theorem okQ_le {q : Prp} (h : okQ q) : q.name.size ≤ 140737488355328 ∧ q.start.length ≤ 140737488355328 ∧ q.bad.length ≤ 140737488355328 ∧ q.adjacent.length ≤ 140737488355328 ∧ q.goal.length ≤ 140737488355328:=h.1
theorem okQ_cnt {q : Prp} (h : okQ q) : ∀ j, j < q.bad.length → (q.bad.getD j cnt0).states.length ≤ 140737488355328:=h.2
theorem iIndexF (l : List Int) (s : Int) (hl : l.length ≤ 4503599627370496) : PSpec Tryz.prog 71 [.sl 0 encI l, .int .i64 s] (fun u=>∃ n : Int, u = .int .i64 n ∧ (0 ≤ n ↔ s ∈ l)):=by
 refine PSpec.intro tt_ok mx_ok Tryz.func71 rfl (by decide) ?_; (conv=>whnf)
 refine WPc.loopF tt_ok mx_ok (fun k : Nat=>k ≤ l.length ∧ s ∉ l.take k) (fun k=>[(8, .int .i64 (k : Int))]) (fun _=>[]) (fun k=>l.length - k) 0 ⟨by omega, by simp⟩ ?_; conv=>whnf
 refine ⟨sI, ?_⟩
 rintro k ⟨hk, ha⟩
 conv=>whnf
 repeat' ((first|refine nI ?_|refine aI ?_|refine arU trivial (by omega) ?_|refine arB trivial (by omega) ?_|refine dI ?_|refine dR ?_|refine dP ?_|refine boxP rfl ?_|refine pI _ rfl ?_|refine rowSetI _ rfl ?_|refine tI ?_|refine fI ?_|refine cmpI (fun _=>?_) (fun _=>?_)) <;> conv=>whnf)
 ·rename_i h1 h2
  rw [tN] at h2
  refine ⟨⟨k, rfl, fun _=>?_, fun _=>by omega⟩, rfl⟩
  rw [h2, gD, gL (by omega)]
  exact List.getElem_mem _
 ·rename_i h1 h2
  rw [tN] at h2
  refine ⟨k + 1, sI, ⟨by omega, ?_⟩, by dsimp only; omega⟩
  rw [List.take_succ_eq_append_getElem (by omega), List.mem_append, List.mem_singleton, not_or]
  refine ⟨ha, ?_⟩
  rw [gD, gL (by omega)] at h2
  exact h2
 ·obtain rfl : k = l.length:=by omega
  rw [List.take_length] at ha
  exact ⟨⟨-1, rfl, fun h=>by omega, fun h=>absurd h ha⟩, rfl⟩
theorem iContainsF (l : List Int) (s : Int) (hl : l.length ≤ 4503599627370496) : PSpec Tryz.prog 20 [.sl 0 encI l, .int .i64 s] (fun u=>u = .bool (decide (s ∈ l))):=by
 refine PSpec.intro tt_ok mx_ok Tryz.func20 rfl (by decide) ?_; (conv=>whnf)
 refine Spec.of_pure (n:=5) (iIndexF l s hl) rfl ?_
 rintro _ ⟨n, rfl, hn⟩
 conv=>whnf
 refine cmpI ?_ ?_ <;> (intro h; conv=>whnf)
 ·exact ⟨dec_t (hn.1 h), rfl⟩
 ·exact ⟨dec_f (fun hh=>h (hn.2 hh)), rfl⟩
theorem hasR (l : List Int) (s : Int) (hl : l.length ≤ 4503599627370496) : PSpec Tryz.prog 145 [.sl 0 encI l, .int .i64 s] (fun u=>u = .bool (decide (s ∈ l))):=by
 refine PSpec.intro tt_ok mx_ok Tryz.func145 rfl (by decide) ?_; (conv=>whnf)
 refine WPc.loopF tt_ok mx_ok (fun k : Nat=>k ≤ l.length ∧ s ∉ l.take k) (fun k=>[(5, .int .i64 (k : Int))]) (fun _=>[]) (fun k=>l.length - k) 0 ⟨by omega, by simp⟩ ?_; conv=>whnf
 refine ⟨sI, ?_⟩
 rintro k ⟨hk, ha⟩
 conv=>whnf
 repeat' ((first|refine nI ?_|refine aI ?_|refine arU trivial (by omega) ?_|refine arB trivial (by omega) ?_|refine dI ?_|refine dR ?_|refine dP ?_|refine boxP rfl ?_|refine pI _ rfl ?_|refine rowSetI _ rfl ?_|refine tI ?_|refine fI ?_|refine cmpI (fun _=>?_) (fun _=>?_)) <;> conv=>whnf)
 ·rename_i h1 h2
  rw [tN] at h2
  refine ⟨dec_t ?_, rfl⟩
  rw [← h2, gD, gL (by omega)]
  exact List.getElem_mem _
 ·rename_i h1 h2
  rw [tN] at h2
  refine ⟨k + 1, sI, ⟨by omega, ?_⟩, by dsimp only; omega⟩
  rw [List.take_succ_eq_append_getElem (by omega), List.mem_append, List.mem_singleton, not_or]
  refine ⟨ha, fun e=>h2 ?_⟩
  rw [gD, gL (by omega)]
  exact e.symm
 ·obtain rfl : k = l.length:=by omega
  rw [List.take_length] at ha
  exact ⟨dec_f ha, rfl⟩
def cntE (n : Int) (c : Cnt) : Int:=orL [setE c.states n, (if c.states.length = 0 ∨ c.least < 1 ∨ 3 < c.least then 1 else 0)]
def cntsE (n : Int) (l : List Cnt) : Int:=orL (l.map (cntE n))
def adjE (p : Pro) (l : List Int) : Int:=if l.length = 0 then 0 else if p.topology = 1 then 6 else if l.length ≠ 2 then 1 else orL [indE (l.getD 0 0) p.states.length, indE (l.getD 1 0) p.states.length]
def propE (p : Pro) (q : Prp) : Int :=
 if validE p ≠ 0 then validE p else if ¬ validN q.name then 2 else if q.kind ≠ 1 ∧ q.kind ≠ 2 then 1
 else if (q.kind = 1 ∧ 0 < q.goal.length) ∨ (q.kind = 2 ∧ (0 < q.bad.length ∨ 0 < q.adjacent.length)) then 1
 else if setE q.start p.states.length ≠ 0 then setE q.start p.states.length
 else if ¬ (∀ j, j < q.start.length → q.start.getD j 0 ∈ p.initial) then 5
 else if q.kind = 2 then orL [setE q.goal p.states.length, (if q.goal.length = 0 then 1 else 0)]
 else orL [(if q.bad.length = 0 ∧ q.adjacent.length = 0 then 1 else 0), (if 3 < q.bad.length then 4 else 0), cntsE p.states.length q.bad, adjE p q.adjacent]
theorem countsPF (l : List Cnt) (n : Int) (hl : l.length ≤ 4503599627370496) (hs : ∀ j, j < l.length → (l.getD j cnt0).states.length ≤ 140737488355328) : PSpec Tryz.prog 136 [.sl cnt0 encCnt l, .int .i64 n] (fun u=>u = .int .i64 (cntsE n l)):=by
 refine PSpec.intro tt_ok mx_ok Tryz.func136 rfl (by decide) ?_; (conv=>whnf)
 refine WPc.loopF tt_ok mx_ok (fun k : Nat=>k ≤ l.length ∧ cntsE n l = orL ((l.drop k).map (cntE n))) (fun k=>[(10, .int .i64 (k : Int))]) (fun _=>[]) (fun k=>l.length - k) 0 ⟨by omega, rfl⟩ ?_; conv=>whnf
 refine ⟨sI, ?_⟩
 rintro k ⟨hk, he⟩
 conv=>whnf
 refine cmpI ?_ ?_ <;> (intro h1; conv=>whnf)
 ·rw [orL_map_drop _ cnt0 (by omega)] at he
  have hlen:=hs k (by omega)
  refine nI ?_
  rw [tN]
  generalize l.getD k cnt0 = g at he hlen
  conv=>whnf
  refine dI ?_
  conv=>whnf
  (refine oC (setP g.states n (by omega)) ?_; conv=>whnf)
  have fin : ∀ c : Int, c = (if g.states.length = 0 ∨ g.least < 1 ∨ 3 < g.least then 1 else 0) → orL [setE g.states n, c] = cntE n g:=by rintro c rfl; rfl
  by_cases hc : g.states.length = 0 ∨ g.least < 1 ∨ 3 < g.least
  ·have ec:=fin 1 (by rw [if_pos hc])
   repeat' ((first|refine nI ?_|refine aI ?_|refine arU trivial (by omega) ?_|refine arB trivial (by omega) ?_|refine dI ?_|refine dR ?_|refine dP ?_|refine boxP rfl ?_|refine pI _ rfl ?_|refine rowSetI _ rfl ?_|refine tI ?_|refine fI ?_|refine cmpI (fun _=>?_) (fun _=>?_)) <;> conv=>whnf)
   all_goals
    (refine oC (whenT 1) ?_; conv=>whnf)
    refine leakY ?_
    conv=>whnf
    (refine oC (firstF _ (by simp)) ?_; conv=>whnf)
    rw [ec]
    refine cmpI ?_ ?_ <;> (intro h2; conv=>whnf)
    ·rw [if_pos h2] at he
     exact ⟨av_int he.symm, rfl⟩
    ·rw [if_neg h2] at he
     repeat' ((first|refine nI ?_|refine aI ?_|refine arU trivial (by omega) ?_|refine arB trivial (by omega) ?_|refine dI ?_|refine dR ?_|refine dP ?_|refine boxP rfl ?_|refine pI _ rfl ?_|refine rowSetI _ rfl ?_|refine tI ?_|refine fI ?_|refine cmpI (fun _=>?_) (fun _=>?_)) <;> conv=>whnf)
     exact ⟨k + 1, sI, ⟨by omega, he⟩, by dsimp only; omega⟩
  ·have ec:=fin 0 (by rw [if_neg hc])
   repeat' ((first|refine nI ?_|refine aI ?_|refine tI ?_|refine fI ?_|fail);conv=>whnf)
   (refine oC (whenF 1) ?_; conv=>whnf)
   refine leakY ?_
   conv=>whnf
   (refine oC (firstF _ (by simp)) ?_; conv=>whnf)
   rw [ec]
   refine cmpI ?_ ?_ <;> (intro h2; conv=>whnf)
   ·rw [if_pos h2] at he
    exact ⟨av_int he.symm, rfl⟩
   ·rw [if_neg h2] at he
    repeat' ((first|refine nI ?_|refine aI ?_|refine arU trivial (by omega) ?_|refine arB trivial (by omega) ?_|refine dI ?_|refine dR ?_|refine dP ?_|refine boxP rfl ?_|refine pI _ rfl ?_|refine rowSetI _ rfl ?_|refine tI ?_|refine fI ?_|refine cmpI (fun _=>?_) (fun _=>?_)) <;> conv=>whnf)
    exact ⟨k + 1, sI, ⟨by omega, he⟩, by dsimp only; omega⟩
 ·rw [List.drop_of_length_le (by omega)] at he
  exact ⟨av_int he.symm, rfl⟩
theorem adjPF (p : Pro) (l : List Int) : PSpec Tryz.prog 137 [.agg (encP p), .sl 0 encI l] (fun u=>u = .int .i64 (adjE p l)):=by
 have he:=adjE.eq_1 p l
 refine PSpec.intro tt_ok mx_ok Tryz.func137 rfl (by decide) ?_; (conv=>whnf)
 refine boxP rfl ?_
 conv=>whnf
 refine cmpI ?_ ?_ <;> (intro h1; conv=>whnf)
 ·rw [if_pos (by omega)] at he; exact ⟨av_int he.symm, rfl⟩
 rw [if_neg (by omega)] at he
 refine cmpI ?_ ?_ <;> (intro h2; conv=>whnf)
 ·rw [if_pos h2] at he; exact ⟨av_int he.symm, rfl⟩
 rw [if_neg h2] at he
 refine cmpI ?_ ?_ <;> (intro h3; conv=>whnf)
 ·rw [if_pos (by omega)] at he; exact ⟨av_int he.symm, rfl⟩
 rw [if_neg (by omega)] at he
 refine dI ?_
 conv=>whnf
 refine nI ?_
 conv=>whnf
 (refine oC (indexF _ _) ?_; conv=>whnf)
 refine nI ?_
 conv=>whnf
 (refine oC (indexF _ _) ?_; conv=>whnf)
 refine leakY ?_
 conv=>whnf
 (refine oC (firstF _ (by simp)) ?_; conv=>whnf)
 exact ⟨av_int he.symm, rfl⟩
theorem propertyF (p : Pro) (q : Prp) (hp : okP p) (hq : okQ q) : PSpec Tryz.prog 64 [.agg (encP p), .agg (encQ q)] (fun u=>u = .int .i64 (propE p q)):=by
 have hle:=okP_le hp
 have hlq:=okQ_le hq
 have he:=propE.eq_1 p q
 refine PSpec.intro tt_ok mx_ok Tryz.func64 rfl (by decide) ?_; (conv=>whnf)
 refine boxP rfl ?_
 conv=>whnf
 refine boxP rfl ?_
 conv=>whnf
 (refine oP (validateF p hp) ?_; conv=>whnf)
 refine cmpI ?_ ?_ <;> (intro h1; conv=>whnf)
 ·rw [if_pos h1] at he; exact ⟨av_int he.symm, rfl⟩
 rw [if_neg h1] at he
 refine cmpI ?_ ?_ <;> (intro hk; conv=>whnf)
 all_goals
  refine dC (validNameP q.name (by omega)) (fun _=>?_) (fun _=>?_) <;> (conv=>whnf)
  case refine_2=>rename_i hv; rw [if_pos hv] at he; exact ⟨av_int he.symm, rfl⟩
  rename_i hv
  rw [if_neg (fun h=>h hv)] at he
  by_cases hA : q.kind ≠ 1 ∧ q.kind ≠ 2
  ·rw [if_pos hA] at he
   repeat' ((first|refine nI ?_|refine aI ?_|refine arU trivial (by omega) ?_|refine arB trivial (by omega) ?_|refine dI ?_|refine dR ?_|refine dP ?_|refine boxP rfl ?_|refine pI _ rfl ?_|refine rowSetI _ rfl ?_|refine tI ?_|refine fI ?_|refine cmpI (fun _=>?_) (fun _=>?_)) <;> conv=>whnf)
   all_goals exact ⟨av_int he.symm, rfl⟩
  rw [if_neg hA] at he
  by_cases hB : (q.kind = 1 ∧ 0 < q.goal.length) ∨ (q.kind = 2 ∧ (0 < q.bad.length ∨ 0 < q.adjacent.length))
  ·rw [if_pos hB] at he
   repeat' ((first|refine nI ?_|refine aI ?_|refine arU trivial (by omega) ?_|refine arB trivial (by omega) ?_|refine dI ?_|refine dR ?_|refine dP ?_|refine boxP rfl ?_|refine pI _ rfl ?_|refine rowSetI _ rfl ?_|refine tI ?_|refine fI ?_|refine cmpI (fun _=>?_) (fun _=>?_)) <;> conv=>whnf)
   all_goals exact ⟨av_int he.symm, rfl⟩
  rw [if_neg hB] at he
  repeat' ((first|refine nI ?_|refine aI ?_|refine tI ?_|refine fI ?_|fail);conv=>whnf)
  (refine oP (setP q.start _ (by omega)) ?_; conv=>whnf)
  refine cmpI ?_ ?_ <;> (intro h2; conv=>whnf)
  ·rw [if_pos h2] at he; exact ⟨av_int he.symm, rfl⟩
  rw [if_neg h2] at he
  refine WPc.loopF tt_ok mx_ok (fun k : Nat=>k ≤ q.start.length ∧ ∀ j, j < k → q.start.getD j 0 ∈ p.initial) (fun k=>[(67, .int .i64 (k : Int))]) (fun _=>[]) (fun k=>q.start.length - k) 0 ⟨by omega, fun j hj=>by omega⟩ ?_; conv=>whnf
  refine ⟨sI, ?_⟩
  rintro k ⟨hk', ha⟩
  conv=>whnf
  refine cmpI ?_ ?_ <;> (intro h3; conv=>whnf)
  ·refine nI ?_
   rw [tN]
   conv=>whnf
   refine dC (iContainsF p.initial _ (by omega)) (fun _=>?_) (fun _=>?_) <;> (conv=>whnf)
   ·rename_i hm
    repeat' ((first|refine nI ?_|refine aI ?_|refine tI ?_|refine fI ?_|fail);conv=>whnf)
    refine ⟨k + 1, sI, ⟨by omega, fun j hj=>?_⟩, by dsimp only; omega⟩
    by_cases e : j = k
    ·subst e; exact hm
    ·exact ha j (by omega)
   ·rename_i hm
    rw [if_pos (fun h=>hm (h k (by omega)))] at he
    exact ⟨av_int he.symm, rfl⟩
  rw [if_neg (fun h=>h (fun j hj=>ha j (by omega)))] at he
  refine dI ?_
  conv=>whnf
 ·rw [if_neg (by omega)] at he
  have fin : ∀ a b : Int, a = (if q.bad.length = 0 ∧ q.adjacent.length = 0 then 1 else 0) → b = (if 3 < q.bad.length then 4 else 0) → propE p q = orL [a, b, cntsE p.states.length q.bad, adjE p q.adjacent]:=by rintro a b rfl rfl; exact he
  by_cases hC : q.bad.length = 0 ∧ q.adjacent.length = 0
  ·have f1:=fin 1 0 (by rw [if_pos hC]) (by rw [if_neg (by omega)])
   repeat' ((first|refine nI ?_|refine aI ?_|refine tI ?_|refine fI ?_|fail);conv=>whnf)
   (refine oC (whenT 1) ?_; conv=>whnf)
   repeat' ((first|refine nI ?_|refine aI ?_|refine tI ?_|refine fI ?_|fail);conv=>whnf)
   (refine oC (whenF 4) ?_; conv=>whnf)
   (refine oC (countsPF q.bad _ (by omega) (okQ_cnt hq)) ?_; conv=>whnf)
   (refine oC (adjPF p q.adjacent) ?_; conv=>whnf)
   refine leakY ?_
   conv=>whnf
   (refine oC (firstF _ (by simp)) ?_; conv=>whnf)
   exact ⟨av_int f1.symm, rfl⟩
  ·by_cases hD : 3 < q.bad.length
   ·have f1:=fin 0 4 (by rw [if_neg hC]) (by rw [if_pos hD])
    repeat' ((first|refine nI ?_|refine aI ?_|refine arU trivial (by omega) ?_|refine arB trivial (by omega) ?_|refine dI ?_|refine dR ?_|refine dP ?_|refine boxP rfl ?_|refine pI _ rfl ?_|refine rowSetI _ rfl ?_|refine tI ?_|refine fI ?_|refine cmpI (fun _=>?_) (fun _=>?_)) <;> conv=>whnf)
    all_goals
     (refine oC (whenF 1) ?_; conv=>whnf)
     repeat' ((first|refine nI ?_|refine aI ?_|refine tI ?_|refine fI ?_|fail);conv=>whnf)
     (refine oC (whenT 4) ?_; conv=>whnf)
     (refine oC (countsPF q.bad _ (by omega) (okQ_cnt hq)) ?_; conv=>whnf)
     (refine oC (adjPF p q.adjacent) ?_; conv=>whnf)
     refine leakY ?_
     conv=>whnf
     (refine oC (firstF _ (by simp)) ?_; conv=>whnf)
     exact ⟨av_int f1.symm, rfl⟩
   ·have f1:=fin 0 0 (by rw [if_neg hC]) (by rw [if_neg hD])
    repeat' ((first|refine nI ?_|refine aI ?_|refine arU trivial (by omega) ?_|refine arB trivial (by omega) ?_|refine dI ?_|refine dR ?_|refine dP ?_|refine boxP rfl ?_|refine pI _ rfl ?_|refine rowSetI _ rfl ?_|refine tI ?_|refine fI ?_|refine cmpI (fun _=>?_) (fun _=>?_)) <;> conv=>whnf)
    all_goals
     (refine oC (whenF 1) ?_; conv=>whnf)
     repeat' ((first|refine nI ?_|refine aI ?_|refine tI ?_|refine fI ?_|fail);conv=>whnf)
     (refine oC (whenF 4) ?_; conv=>whnf)
     (refine oC (countsPF q.bad _ (by omega) (okQ_cnt hq)) ?_; conv=>whnf)
     (refine oC (adjPF p q.adjacent) ?_; conv=>whnf)
     refine leakY ?_
     conv=>whnf
     (refine oC (firstF _ (by simp)) ?_; conv=>whnf)
     exact ⟨av_int f1.symm, rfl⟩
 ·rw [if_pos (by omega)] at he
  (refine oC (setP q.goal _ (by omega)) ?_; conv=>whnf)
  by_cases hC : q.goal.length = 0
  ·rw [if_pos hC] at he
   repeat' ((first|refine nI ?_|refine aI ?_|refine tI ?_|refine fI ?_|fail);conv=>whnf)
   (refine oC (whenT 1) ?_; conv=>whnf)
   refine leakY ?_
   conv=>whnf
   (refine oC (firstF _ (by simp)) ?_; conv=>whnf)
   exact ⟨av_int he.symm, rfl⟩
  ·rw [if_neg hC] at he
   repeat' ((first|refine nI ?_|refine aI ?_|refine tI ?_|refine fI ?_|fail);conv=>whnf)
   (refine oC (whenF 1) ?_; conv=>whnf)
   refine leakY ?_
   conv=>whnf
   (refine oC (firstF _ (by simp)) ?_; conv=>whnf)
   exact ⟨av_int he.symm, rfl⟩
theorem propertyR (p : Pro) (q : Prp) (hp : okP p) (hq : okQ q) : PSpec Tryz.prog 73 [.agg (encP p), .agg (encQ q)] (fun u=>u = .int .i64 (propE p q)):=by
 have hle:=okP_le hp
 have hlq:=okQ_le hq
 have he:=propE.eq_1 p q
 refine PSpec.intro tt_ok mx_ok Tryz.func73 rfl (by decide) ?_; (conv=>whnf)
 refine boxP rfl ?_
 conv=>whnf
 refine boxP rfl ?_
 conv=>whnf
 (refine oP (validateR p hp) ?_; conv=>whnf)
 refine cmpI ?_ ?_ <;> (intro h1; conv=>whnf)
 ·rw [if_pos h1] at he; exact ⟨av_int he.symm, rfl⟩
 rw [if_neg h1] at he
 refine dC (validNameR q.name (by omega)) (fun _=>?_) (fun _=>?_) <;> (conv=>whnf)
 case refine_2=>rename_i hv; rw [if_pos hv] at he; exact ⟨av_int he.symm, rfl⟩
 rename_i hv
 rw [if_neg (fun h=>h hv)] at he
 by_cases hA : q.kind ≠ 1 ∧ q.kind ≠ 2
 ·rw [if_pos hA] at he
  repeat' ((first|refine nI ?_|refine aI ?_|refine arU trivial (by omega) ?_|refine arB trivial (by omega) ?_|refine dI ?_|refine dR ?_|refine dP ?_|refine boxP rfl ?_|refine pI _ rfl ?_|refine rowSetI _ rfl ?_|refine tI ?_|refine fI ?_|refine cmpI (fun _=>?_) (fun _=>?_)) <;> conv=>whnf)
  all_goals exact ⟨av_int he.symm, rfl⟩
 rw [if_neg hA] at he
 by_cases hB : (q.kind = 1 ∧ 0 < q.goal.length) ∨ (q.kind = 2 ∧ (0 < q.bad.length ∨ 0 < q.adjacent.length))
 ·rw [if_pos hB] at he
  repeat' ((first|refine nI ?_|refine aI ?_|refine arU trivial (by omega) ?_|refine arB trivial (by omega) ?_|refine dI ?_|refine dR ?_|refine dP ?_|refine boxP rfl ?_|refine pI _ rfl ?_|refine rowSetI _ rfl ?_|refine tI ?_|refine fI ?_|refine cmpI (fun _=>?_) (fun _=>?_)) <;> conv=>whnf)
  all_goals exact ⟨av_int he.symm, rfl⟩
 rw [if_neg hB] at he
 have hk12 : q.kind = 1 ∨ q.kind = 2:=by omega
 rcases hk12 with hk | hk
 all_goals
  repeat' ((first|refine nI ?_|refine aI ?_|refine tI ?_|refine fI ?_|fail);conv=>whnf)
  (refine oP (setR q.start _ (by omega) (by omega)) ?_; conv=>whnf)
  refine cmpI ?_ ?_ <;> (intro h2; conv=>whnf)
  ·rw [if_pos h2] at he; exact ⟨av_int he.symm, rfl⟩
  rw [if_neg h2] at he
  refine WPc.loopF tt_ok mx_ok (fun k : Nat=>k ≤ q.start.length ∧ ∀ j, j < k → q.start.getD j 0 ∈ p.initial) (fun k=>[(8, .int .i64 (k : Int))]) (fun _=>[]) (fun k=>q.start.length - k) 0 ⟨by omega, fun j hj=>by omega⟩ ?_; conv=>whnf
  refine ⟨sI, ?_⟩
  rintro k ⟨hk', ha⟩
  conv=>whnf
  refine cmpI ?_ ?_ <;> (intro h3; conv=>whnf)
  ·refine dI ?_
   conv=>whnf
   refine nI ?_
   rw [tN]
   conv=>whnf
   refine dD (hasR p.initial _ (by omega)) (fun _=>?_) (fun _=>?_) <;> (conv=>whnf)
   ·rename_i hm
    repeat' ((first|refine nI ?_|refine aI ?_|refine tI ?_|refine fI ?_|fail);conv=>whnf)
    refine ⟨k + 1, sI, ⟨by omega, fun j hj=>?_⟩, by dsimp only; omega⟩
    by_cases e : j = k
    ·subst e; exact hm
    ·exact ha j (by omega)
   ·rename_i hm
    rw [if_pos (fun h=>hm (h k (by omega)))] at he
    exact ⟨av_int he.symm, rfl⟩
  rw [if_neg (fun h=>h (fun j hj=>ha j (by omega)))] at he
  repeat' ((first|refine nI ?_|refine aI ?_|refine tI ?_|refine fI ?_|fail);conv=>whnf)
 ·rw [if_neg (by omega)] at he
  by_cases hC : q.bad.length = 0 ∧ q.adjacent.length = 0
  ·rw [if_pos hC] at he
   repeat' ((first|refine nI ?_|refine aI ?_|refine tI ?_|refine fI ?_|fail);conv=>whnf)
   exact ⟨av_int he.symm, rfl⟩
  rw [if_neg hC] at he
  have he : propE p q = orL [(if 3 < q.bad.length then 4 else 0), cntsE p.states.length q.bad, adjE p q.adjacent]:=he
  by_cases hD : 3 < q.bad.length
  ·rw [if_pos hD] at he
   repeat' ((first|refine nI ?_|refine aI ?_|refine arU trivial (by omega) ?_|refine arB trivial (by omega) ?_|refine dI ?_|refine dR ?_|refine dP ?_|refine boxP rfl ?_|refine pI _ rfl ?_|refine rowSetI _ rfl ?_|refine tI ?_|refine fI ?_|refine cmpI (fun _=>?_) (fun _=>?_)) <;> conv=>whnf)
   all_goals exact ⟨av_int he.symm, rfl⟩
  rw [if_neg hD] at he
  have he : propE p q = orL [cntsE p.states.length q.bad, adjE p q.adjacent]:=he
  repeat' ((first|refine nI ?_|refine aI ?_|refine arU trivial (by omega) ?_|refine arB trivial (by omega) ?_|refine dI ?_|refine dR ?_|refine dP ?_|refine boxP rfl ?_|refine pI _ rfl ?_|refine rowSetI _ rfl ?_|refine tI ?_|refine fI ?_|refine cmpI (fun _=>?_) (fun _=>?_)) <;> conv=>whnf)
  all_goals
   refine WPc.loopF tt_ok mx_ok (fun k : Nat=>k ≤ q.bad.length ∧ cntsE p.states.length q.bad = orL ((q.bad.drop k).map (cntE p.states.length))) (fun k=>[(10, .int .i64 (k : Int))]) (fun _=>[]) (fun k=>q.bad.length - k) 0 ⟨by omega, rfl⟩ ?_; conv=>whnf
   refine ⟨sI, ?_⟩
   rintro k ⟨hk', hr⟩
   conv=>whnf
   refine cmpI ?_ ?_ <;> (intro h3; conv=>whnf)
   ·first
    |(exfalso; omega)
    |rw [orL_map_drop _ cnt0 (by omega)] at hr
     have hlen:=okQ_cnt hq k (by omega)
     refine nI ?_
     rw [tN]
     conv=>whnf
     (refine oP (setR (q.bad.getD k cnt0).states _ (by omega) (by omega)) ?_; conv=>whnf)
     have hg:=cntE.eq_1 p.states.length (q.bad.getD k cnt0)
     refine cmpI ?_ ?_ <;> (intro h4; conv=>whnf)
     ·rw [orL_nz h4] at hg
      rw [hg, if_pos h4] at hr
      rw [hr, orL_nz h4] at he
      exact ⟨av_int he.symm, rfl⟩
     refine nI ?_
     rw [tN]
     conv=>whnf
     rw [orL_z (by omega)] at hg
     by_cases hc : (q.bad.getD k cnt0).states.length = 0 ∨ (q.bad.getD k cnt0).least < 1 ∨ 3 < (q.bad.getD k cnt0).least
     ·rw [if_pos hc] at hg
      rw [hg] at hr
      rw [hr] at he
      by_cases hz : (q.bad.getD k cnt0).states.length = 0
      ·repeat' ((first|refine nI ?_|refine aI ?_|refine tI ?_|refine fI ?_|fail);conv=>whnf)
       exact ⟨av_int he.symm, rfl⟩
      ·repeat' ((first|refine nI ?_|refine aI ?_|refine tI ?_|refine fI ?_|fail);conv=>whnf)
       refine dC (withinR _ _ _) (fun _=>?_) (fun _=>?_) <;> (conv=>whnf)
       ·rename_i h; rw [tN] at h; omega
       ·exact ⟨av_int he.symm, rfl⟩
     ·rw [if_neg hc] at hg
      rw [hg] at hr
      repeat' ((first|refine nI ?_|refine aI ?_|refine tI ?_|refine fI ?_|fail);conv=>whnf)
      refine dC (withinR _ _ _) (fun _=>?_) (fun _=>?_) <;> (conv=>whnf)
      ·repeat' ((first|refine nI ?_|refine aI ?_|refine tI ?_|refine fI ?_|fail);conv=>whnf)
       exact ⟨k + 1, sI, ⟨by omega, hr⟩, by dsimp only; omega⟩
      ·rename_i h; rw [tN] at h; omega
   rw [List.drop_of_length_le (by omega)] at hr
   rw [orL_z hr] at he
   have he : propE p q = (if adjE p q.adjacent ≠ 0 then adjE p q.adjacent else 0):=he
   have ha':=adjE.eq_1 p q.adjacent
   by_cases h0 : q.adjacent.length = 0
   ·rw [if_pos h0] at ha'
    rw [ha'] at he
    first
    |(exfalso; omega)
    |skip
     repeat' ((first|refine nI ?_|refine aI ?_|refine tI ?_|refine fI ?_|fail);conv=>whnf)
     refine WPc.loopF tt_ok mx_ok (fun i : Nat=>i = 0) (fun i=>[(12, .int .i64 (i : Int))]) (fun _=>[]) (fun _=>0) 0 rfl ?_; conv=>whnf
     refine ⟨sI, ?_⟩
     rintro i rfl
     conv=>whnf
     repeat' ((first|refine nI ?_|refine aI ?_|refine tI ?_|refine fI ?_|fail);conv=>whnf)
     exact ⟨av_int he.symm, rfl⟩
   rw [if_neg h0] at ha'
   by_cases ht : p.topology = 1
   ·rw [if_pos ht] at ha'
    rw [ha'] at he
    repeat' ((first|refine nI ?_|refine aI ?_|refine tI ?_|refine fI ?_|fail);conv=>whnf)
    exact ⟨av_int he.symm, rfl⟩
   rw [if_neg ht] at ha'
   by_cases h2' : q.adjacent.length ≠ 2
   ·rw [if_pos h2'] at ha'
    rw [ha'] at he
    repeat' ((first|refine nI ?_|refine aI ?_|refine tI ?_|refine fI ?_|fail);conv=>whnf)
    exact ⟨av_int he.symm, rfl⟩
   rw [if_neg h2'] at ha'
   repeat' ((first|refine nI ?_|refine aI ?_|refine tI ?_|refine fI ?_|fail);conv=>whnf)
   refine WPc.loopF tt_ok mx_ok (fun i : Nat=>i ≤ 2 ∧ ∀ j, j < i → 0 ≤ q.adjacent.getD j 0 ∧ q.adjacent.getD j 0 < p.states.length) (fun i=>[(12, .int .i64 (i : Int))]) (fun _=>[]) (fun i=>2 - i) 0 ⟨by omega, fun j hj=>by omega⟩ ?_; conv=>whnf
   refine ⟨sI, ?_⟩
   rintro i ⟨hi, hin⟩
   conv=>whnf
   refine cmpI ?_ ?_ <;> (intro h5; conv=>whnf)
   ·refine nI ?_
    rw [tN]
    conv=>whnf
    repeat' ((first|refine nI ?_|refine aI ?_|refine tI ?_|refine fI ?_|fail);conv=>whnf)
    refine dC (withinR _ _ _) (fun _=>?_) (fun _=>?_) <;> (conv=>whnf)
    ·rename_i h6
     repeat' ((first|refine nI ?_|refine aI ?_|refine tI ?_|refine fI ?_|fail);conv=>whnf)
     refine ⟨i + 1, sI, ⟨by omega, fun j hj=>?_⟩, by dsimp only; omega⟩
     by_cases e : j = i
     ·subst e; omega
     ·exact hin j (by omega)
    ·rename_i h6
     have h7 : adjE p q.adjacent = 5:=by
      rw [ha']
      have hi2 : i = 0 ∨ i = 1:=by omega
      rcases hi2 with rfl | rfl
      ·rw [orL_nz (by rw [indE, if_pos (by omega)]; decide), indE, if_pos (by omega)]
      ·have:=hin 0 (by omega)
       rw [orL_z (by rw [indE, if_neg (by omega)]), orL_nz (by rw [indE, if_pos (by omega)]; decide), indE, if_pos (by omega)]
     rw [h7] at he
     exact ⟨av_int he.symm, rfl⟩
   ·have h7 : adjE p q.adjacent = 0:=by
     rw [ha']
     have a0:=hin 0 (by omega)
     have a1:=hin 1 (by omega)
     rw [orL_z (by rw [indE, if_neg (by omega)]), orL_z (by rw [indE, if_neg (by omega)])]; rfl
    rw [h7] at he
    exact ⟨av_int he.symm, rfl⟩
 ·rw [if_pos (by omega)] at he
  (refine oP (setR q.goal _ (by omega) (by omega)) ?_; conv=>whnf)
  refine cmpI ?_ ?_ <;> (intro h4; conv=>whnf)
  ·rw [orL_nz h4] at he; exact ⟨av_int he.symm, rfl⟩
  rw [orL_z (by omega)] at he
  by_cases h5 : q.goal.length = 0
  ·rw [if_pos h5] at he
   repeat' ((first|refine nI ?_|refine aI ?_|refine tI ?_|refine fI ?_|fail);conv=>whnf)
   exact ⟨av_int he.symm, rfl⟩
  ·rw [if_neg h5] at he
   repeat' ((first|refine nI ?_|refine aI ?_|refine tI ?_|refine fI ?_|fail);conv=>whnf)
   exact ⟨av_int he.symm, rfl⟩
theorem endR (l : List Int) (a : Int) (i : Nat) (ha : a = i) (h : shp l) (hi : i < l.length) (hl : l.length ≤ 1000) : PSpec Tryz.prog 236 [.sl 0 encI l, .int .i64 a] (fun u=>u = .int .i64 (endAt l i : Int)):=by
 subst ha
 have hat:=h.at hi
 refine PSpec.intro tt_ok mx_ok Tryz.func236 rfl (by decide) ?_; (conv=>whnf)
 refine WPc.loopF tt_ok mx_ok (fun x : Nat × Nat=>x.2 ≤ l.length ∧ x.1 ≤ x.2 + 1 ∧ skipN x.1 (l.drop x.2) = some (l.drop (endAt l i))) (fun x=>[(5, .int .i64 (x.1 : Int)), (1, .int .i64 (x.2 : Int))]) (fun _=>[]) (fun x=>l.length - x.2) (1, i) ⟨by dsimp only; omega, by dsimp only; omega, hat.1⟩ ?_; conv=>whnf
 refine ⟨sI, ?_⟩
 rintro x ⟨h1, h2, h3⟩
 conv=>whnf
 refine cmpI ?_ ?_ <;> (intro h4; conv=>whnf)
 ·obtain ⟨d, hd⟩ : ∃ d, x.1 = d + 1:=⟨x.1 - 1, by omega⟩
  rw [hd] at h3
  have hj : x.2 < l.length:=by
   by_cases hj : x.2 < l.length
   ·exact hj
   ·rw [List.drop_of_length_le (by omega), skipN_nil] at h3; cases h3
  rw [drop_cons hj, skipN_cons] at h3
  refine nI ?_
  rw [tN]
  conv=>whnf
  by_cases h0 : l.getD x.2 0 = 0
  ·rw [if_pos h0] at h3
   repeat' ((first|refine nI ?_|refine aI ?_|refine tI ?_|refine fI ?_|fail);conv=>whnf)
   exact ⟨(d, x.2 + 1), sI, ⟨by dsimp only; omega, by dsimp only; omega, h3⟩, by dsimp only; omega⟩
  ·rw [if_neg h0] at h3
   by_cases h5 : l.getD x.2 0 = 2
   ·rw [if_pos h5] at h3
    repeat' ((first|refine nI ?_|refine aI ?_|refine tI ?_|refine fI ?_|fail);conv=>whnf)
    exact ⟨(d + 2, x.2 + 1), sI, ⟨by dsimp only; omega, by dsimp only; omega, h3⟩, by dsimp only; omega⟩
   ·rw [if_neg h5] at h3; cases h3
 ·have h6 : x.1 = 0:=by omega
  rw [h6, skipN_zero, Option.some.injEq] at h3
  have h5:=congrArg List.length h3
  simp only [List.length_drop] at h5
  exact ⟨av_int (by omega), rfl⟩
theorem isPar_a {l : List Int} {j k : Nat} (h : l.getD k 0 = 2) (h2 : k + 1 = j) : isPar l j k = true:=by unfold isPar; rw [decide_eq_true h, decide_eq_true h2]; rfl
theorem isPar_b {l : List Int} {j k : Nat} (h : l.getD k 0 = 2) (h2 : endAt l (k + 1) = j) : isPar l j k = true:=by unfold isPar; rw [decide_eq_true h, decide_eq_true h2]; cases decide (k + 1 = j) <;> rfl
theorem isPar_c {l : List Int} {j k : Nat} (h : ¬ k + 1 = j) (h2 : ¬ endAt l (k + 1) = j) : isPar l j k = false:=by unfold isPar; rw [decide_eq_false h, decide_eq_false h2]; cases decide (l.getD k 0 = 2) <;> rfl
theorem isPar_d {l : List Int} {j k : Nat} (h : ¬ l.getD k 0 = 2) : isPar l j k = false:=by unfold isPar; rw [decide_eq_false h]; rfl
theorem neighborsR (t : Int) (l : List Int) (n i : Nat) (hl : l.length ≤ 1000) (hn : n ≤ 1000) (hi : i < n) : PSpec Tryz.prog 219 [.int .i64 t, .sl 0 encI l, .int .i64 (n : Int), .int .i64 (i : Int)] (fun u=>u = nbrA (nbr t l n i)):=by
 have he:=nbr.eq_1 t l n i
 rw [if_neg (by omega)] at he
 refine PSpec.intro tt_ok mx_ok Tryz.func219 rfl (by decide) ?_; (conv=>whnf)
 repeat' ((first|refine nI ?_|refine aI ?_|refine tI ?_|refine fI ?_|fail);conv=>whnf)
 refine dC (withinT _ _ _) (fun _=>?_) (fun _=>?_) <;> (conv=>whnf)
 case refine_2=>rename_i h; omega
 refine cmpI ?_ ?_ <;> (intro h3; conv=>whnf)
 ·rw [if_neg (by omega), if_pos h3] at he
  have hm : ((i : Int) + 1).tmod n = if (i : Int) + 1 = n then 0 else (i : Int) + 1:=by
   by_cases h : (i : Int) + 1 = n
   ·rw [if_pos h, h, Int.tmod_self]
   ·rw [if_neg h, Int.tmod_eq_of_lt (by omega) (by omega)]
  by_cases hz : i = 0
  ·rw [if_pos (by omega)] at he
   repeat' ((first|refine nI ?_|refine aI ?_|refine tI ?_|refine fI ?_|fail);conv=>whnf)
   refine dI ?_
   conv=>whnf
   repeat' ((first|refine nI ?_|refine aI ?_|refine tI ?_|refine fI ?_|fail);conv=>whnf)
   exact ⟨nbrA_eq (by rw [he, hm]), rfl⟩
  ·rw [if_neg (by omega)] at he
   repeat' ((first|refine nI ?_|refine aI ?_|refine tI ?_|refine fI ?_|fail);conv=>whnf)
   refine dI ?_
   conv=>whnf
   repeat' ((first|refine nI ?_|refine aI ?_|refine tI ?_|refine fI ?_|fail);conv=>whnf)
   exact ⟨nbrA_eq (by rw [he, hm]), rfl⟩
 refine cmpI ?_ ?_ <;> (intro h2; conv=>whnf)
 ·rw [if_pos h2] at he
  by_cases hz : (i : Int) + 1 = n
  ·rw [if_pos hz] at he
   repeat' ((first|refine nI ?_|refine aI ?_|refine tI ?_|refine fI ?_|fail);conv=>whnf)
   exact ⟨nbrA_eq he, rfl⟩
  ·rw [if_neg hz] at he
   repeat' ((first|refine nI ?_|refine aI ?_|refine tI ?_|refine fI ?_|fail);conv=>whnf)
   exact ⟨nbrA_eq he, rfl⟩
 rw [if_neg h2, if_neg h3] at he
 by_cases h4 : t = 4 ∧ (l.length : Int) = n
 case neg =>
  rw [if_neg (fun h=>h4 ⟨h.1, h.2.1⟩)] at he
  repeat' ((first|refine nI ?_|refine aI ?_|refine arU trivial (by omega) ?_|refine arB trivial (by omega) ?_|refine dI ?_|refine dR ?_|refine dP ?_|refine boxP rfl ?_|refine pI _ rfl ?_|refine rowSetI _ rfl ?_|refine tI ?_|refine fI ?_|refine cmpI (fun _=>?_) (fun _=>?_)) <;> conv=>whnf)
  all_goals exact ⟨nbrA_eq he, rfl⟩
 obtain ⟨rfl, h5⟩:=h4
 repeat' ((first|refine nI ?_|refine aI ?_|refine tI ?_|refine fI ?_|fail);conv=>whnf)
 refine dC (isShapeD l hl) (fun _=>?_) (fun _=>?_) <;> (conv=>whnf)
 case refine_2 =>
  rename_i hs
  rw [if_neg (fun h=>hs h.2.2)] at he
  exact ⟨nbrA_eq he, rfl⟩
 rename_i hs
 rw [if_pos ⟨rfl, h5, hs⟩, tN] at he
 refine nI ?_
 rw [tN]
 conv=>whnf
 by_cases h6 : l.getD i 0 = 2
 ·have h7:=hs.two (by omega) h6
  rw [firstT, if_pos h6, secondT, if_pos h6] at he
  repeat' ((first|refine nI ?_|refine aI ?_|refine tI ?_|refine fI ?_|fail);conv=>whnf)
  (refine oP (endR l _ (i + 1) (by omega) hs (by omega) hl) ?_; conv=>whnf)
  refine WPc.loopF tt_ok mx_ok (fun k : Nat=>k ≤ i) (fun k=>[(17, .int .i64 (k : Int)), (16, .int .i64 (parN l i k))]) (fun _=>[]) (fun k=>i - k) 0 (Nat.zero_le _) ?_; conv=>whnf
  refine ⟨sI, ?_⟩
  rintro k hk
  conv=>whnf
  refine cmpI ?_ ?_ <;> (intro h8; conv=>whnf)
  ·have hsu:=parN_succ l i k
   refine nI ?_
   rw [tN]
   conv=>whnf
   refine cmpI ?_ ?_ <;> (intro h9; conv=>whnf)
   ·have h10:=hs.two (by omega) h9
    by_cases h11 : k + 1 = i
    ·rw [isPar_a h9 h11, if_pos rfl] at hsu
     repeat' ((first|refine nI ?_|refine aI ?_|refine tI ?_|refine fI ?_|fail);conv=>whnf)
     exact ⟨k + 1, sI, by omega, by dsimp only; omega⟩
    ·repeat' ((first|refine nI ?_|refine aI ?_|refine tI ?_|refine fI ?_|fail);conv=>whnf)
     (refine oP (endR l _ (k + 1) (by omega) hs (by omega) hl) ?_; conv=>whnf)
     by_cases h12 : endAt l (k + 1) = i
     ·rw [isPar_b h9 h12, if_pos rfl] at hsu
      repeat' ((first|refine nI ?_|refine aI ?_|refine tI ?_|refine fI ?_|fail);conv=>whnf)
      exact ⟨k + 1, sI, by omega, by dsimp only; omega⟩
     ·rw [isPar_c h11 h12, if_neg (by decide)] at hsu
      repeat' ((first|refine nI ?_|refine aI ?_|refine tI ?_|refine fI ?_|fail);conv=>whnf)
      exact ⟨k + 1, sI, by omega, by dsimp only; omega⟩
   ·rw [isPar_d h9, if_neg (by decide)] at hsu
    repeat' ((first|refine nI ?_|refine aI ?_|refine tI ?_|refine fI ?_|fail);conv=>whnf)
    exact ⟨k + 1, sI, by omega, by dsimp only; omega⟩
  ·obtain rfl : k = i:=by omega
   exact ⟨nbrA_eq he, rfl⟩
 ·rw [firstT, if_neg h6, secondT, if_neg h6] at he
  repeat' ((first|refine nI ?_|refine aI ?_|refine tI ?_|refine fI ?_|fail);conv=>whnf)
  refine WPc.loopF tt_ok mx_ok (fun k : Nat=>k ≤ i) (fun k=>[(17, .int .i64 (k : Int)), (16, .int .i64 (parN l i k))]) (fun _=>[]) (fun k=>i - k) 0 (Nat.zero_le _) ?_; conv=>whnf
  refine ⟨sI, ?_⟩
  rintro k hk
  conv=>whnf
  refine cmpI ?_ ?_ <;> (intro h8; conv=>whnf)
  ·have hsu:=parN_succ l i k
   refine nI ?_
   rw [tN]
   conv=>whnf
   refine cmpI ?_ ?_ <;> (intro h9; conv=>whnf)
   ·have h10:=hs.two (by omega) h9
    by_cases h11 : k + 1 = i
    ·rw [isPar_a h9 h11, if_pos rfl] at hsu
     repeat' ((first|refine nI ?_|refine aI ?_|refine tI ?_|refine fI ?_|fail);conv=>whnf)
     exact ⟨k + 1, sI, by omega, by dsimp only; omega⟩
    ·repeat' ((first|refine nI ?_|refine aI ?_|refine tI ?_|refine fI ?_|fail);conv=>whnf)
     (refine oP (endR l _ (k + 1) (by omega) hs (by omega) hl) ?_; conv=>whnf)
     by_cases h12 : endAt l (k + 1) = i
     ·rw [isPar_b h9 h12, if_pos rfl] at hsu
      repeat' ((first|refine nI ?_|refine aI ?_|refine tI ?_|refine fI ?_|fail);conv=>whnf)
      exact ⟨k + 1, sI, by omega, by dsimp only; omega⟩
     ·rw [isPar_c h11 h12, if_neg (by decide)] at hsu
      repeat' ((first|refine nI ?_|refine aI ?_|refine tI ?_|refine fI ?_|fail);conv=>whnf)
      exact ⟨k + 1, sI, by omega, by dsimp only; omega⟩
   ·rw [isPar_d h9, if_neg (by decide)] at hsu
    repeat' ((first|refine nI ?_|refine aI ?_|refine tI ?_|refine fI ?_|fail);conv=>whnf)
    exact ⟨k + 1, sI, by omega, by dsimp only; omega⟩
  ·obtain rfl : k = i:=by omega
   exact ⟨nbrA_eq he, rfl⟩
theorem wide_le {c : Cfg} (hw : wideB c = false) : c.shape.length ≤ 100 ∧ c.states.length ≤ 100 ∧ c.sent.length ≤ 100 ∧ c.faulty.length ≤ 100:=by
 unfold wideB at hw
 simp at hw
 omega
def plB (p : Pro) (c : Cfg) : Prop:=inR c.states p.states.length ∧ 0 ≤ c.correct ∧ c.correct ≤ c.states.length
noncomputable instance decPl (p : Pro) (c : Cfg) : Decidable (plB p c):=Classical.propDecidable _
def trB (p : Pro) (c : Cfg) : Prop:=p.topology = 4 → c.shape.length = c.states.length ∧ shp c.shape
noncomputable instance decTr (p : Pro) (c : Cfg) : Decidable (trB p c):=Classical.propDecidable _
def rchB (q : Prp) (c : Cfg) : Prop:=∀ j : Nat, (j : Int) < c.correct → c.states.getD j 0 ∈ q.goal
noncomputable instance decRch (q : Prp) (c : Cfg) : Decidable (rchB q c):=Classical.propDecidable _
def hitN (S L : List Int) : Nat:=L.countP (fun x=>decide (x ∈ S))
theorem setE_ok {l : List Int} {n : Int} (h : setE l n = 0) : inR l n ∧ incr l:=by
 unfold setE at h
 by_cases h1 : inR l n
 ·rw [if_pos h1] at h
  by_cases h2 : incr l
  ·exact ⟨h1, h2⟩
  ·rw [if_neg h2] at h; omega
 ·rw [if_neg h1] at h; omega
theorem orL_zero : ∀ {l : List Int}, orL l = 0 → ∀ x ∈ l, x = 0
 |[], _, x, hx=>by cases hx
 |a :: l, h, x, hx=>by
  by_cases ha : a = 0
  ·rw [orL_z ha] at h
   rcases List.mem_cons.1 hx with rfl | hx
   ·exact ha
   ·exact orL_zero h x hx
  ·rw [orL_nz ha] at h; omega
theorem nbr_link {t : Int} {l : List Int} {n i : Nat} (hi : i < n) : nbr t l n i = (nbF t l n i, nbS t l n i, nbP t l n i):=by
 unfold nbr nbF nbS nbP
 rw [if_neg (by omega)]
 by_cases h2 : t = 2
 ·rw [if_pos h2, if_pos h2, if_pos h2, if_neg (show ¬ (t = 4 ∧ lkB t l n = true) from fun h=>by have:=h.1; omega)]
  refine Prod.ext rfl (Prod.ext ?_ rfl)
  dsimp only
  split <;> split <;> omega
 ·rw [if_neg h2, if_neg h2, if_neg h2]
  by_cases h3 : t = 3
  ·rw [if_pos h3, if_pos h3, if_pos h3, if_neg (show ¬ (t = 4 ∧ lkB t l n = true) from fun h=>by have:=h.1; omega)]
   refine Prod.ext ?_ (Prod.ext ?_ rfl) <;> dsimp only <;> split <;> split <;> omega
  ·rw [if_neg h3, if_neg h3, if_neg h3]
   have e : (t = 4 ∧ (l.length : Int) = n ∧ shp l) ↔ (t = 4 ∧ lkB t l n = true):=by
    unfold lkB
    rw [decide_eq_true_iff]
    constructor
    ·rintro ⟨a, b, c⟩; exact ⟨a, fun _=>⟨c, by omega⟩⟩
    ·rintro ⟨a, b⟩; exact ⟨a, by have:=(b a).2; omega, (b a).1⟩
   by_cases h4 : t = 4 ∧ (l.length : Int) = n ∧ shp l
   ·rw [if_pos h4, if_pos (e.1 h4), if_pos (e.1 h4), if_pos (e.1 h4), tN]
   ·rw [if_neg h4, if_neg (fun h=>h4 (e.2 h)), if_neg (fun h=>h4 (e.2 h)), if_neg (fun h=>h4 (e.2 h))]
theorem nb_lt {t : Int} {l : List Int} {n i : Nat} (hi : i < n) : nbF t l n i < n ∧ nbS t l n i < n:=by
 unfold nbF nbS
 by_cases h2 : t = 2
 ·rw [if_pos h2, if_pos h2]; constructor
  ·omega
  ·split <;> omega
 ·rw [if_neg h2, if_neg h2]
  by_cases h3 : t = 3
  ·rw [if_pos h3, if_pos h3]; constructor <;> split <;> omega
  ·rw [if_neg h3, if_neg h3]
   by_cases h4 : t = 4 ∧ lkB t l n = true
   ·rw [if_pos h4, if_pos h4]
    obtain ⟨h5, h6⟩:=h4
    unfold lkB at h6
    rw [decide_eq_true_iff] at h6
    obtain ⟨h7, h8⟩:=h6 h5
    unfold firstT secondT
    by_cases h9 : l.getD i 0 = 2
    ·have:=h7.two (by omega) h9
     rw [if_pos h9, if_pos h9]; constructor <;> omega
    ·rw [if_neg h9, if_neg h9]; constructor <;> omega
   ·rw [if_neg h4, if_neg h4]; constructor <;> omega
def nearB (c : Cfg) (x v : Int) : Prop:=0 ≤ x ∧ c.states.getD x.toNat 0 = v
def adB (p : Pro) (c : Cfg) (a b : Int) (i : Nat) : Prop:=c.states.getD i 0 = a ∧ (nearB c (nbS p.topology c.shape c.states.length i) b ∨ (p.topology = 4 ∧ nearB c (nbF p.topology c.shape c.states.length i) b))
def adjB (p : Pro) (c : Cfg) (l : List Int) : Prop:=∃ i, i < c.states.length ∧ adB p c (l.getD 0 0) (l.getD 1 0) i
noncomputable instance decAdj (p : Pro) (c : Cfg) (l : List Int) : Decidable (adjB p c l):=Classical.propDecidable _
end Go.Proofs.YtnjggjhkfncnlaaGreatDoor
