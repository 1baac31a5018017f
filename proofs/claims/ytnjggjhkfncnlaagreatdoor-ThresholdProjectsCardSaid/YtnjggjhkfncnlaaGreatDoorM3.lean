import Derived.Test.YtnjggjhkfncnlaaGreatDoorFnT
set_option linter.unusedVariables false
set_option linter.unusedSimpArgs false
namespace Go.Proofs.YtnjggjhkfncnlaaGreatDoor
set_option maxRecDepth 100000
set_option maxHeartbeats 4000000
def rowS (l : List ByteArray) : Blk:=.row 9 t0 encT l
def encTs (l : List ByteArray) : List AV:=[.sl t0 encT l]
theorem growF (n : Nat) (h0 : 0 < n) (hn : n ≤ 1000) : Spec Tryz.prog 238 [.nilsl, .int .i64 (n : Int)] (Mem.ofL []) (fun u M=>∃ ℓ0, u = .row ℓ0 0 1 ∧ M ℓ0 = some (rowS [])):=by
 refine Spec.intro tt_ok mx_ok [] Tryz.func238 rfl (by decide) ?_
 conv=>whnf
 repeat' ((first|refine nI ?_|refine aI ?_|refine tI ?_|refine fI ?_|fail);conv=>whnf)
 refine mkI t0 encT t0 rfl (by dsimp only; omega) ?_
 conv=>whnf
 repeat' ((first|refine nI ?_|refine aI ?_|refine tI ?_|refine fI ?_|refine sliceC ?_|fail);conv=>whnf)
 exact ⟨25, rfl, rfl⟩
theorem concatF (ls : List (List ByteArray)) (hl : ls.length ≤ 10) (h0 : 0 < ls.flatten.length) (hn : ls.flatten.length ≤ 1000) : PSpec Tryz.prog 222 [.sl [] encTs ls] (fun u=>u = .sl t0 encT ls.flatten):=by
 have hpart : ∀ i, (ls.take i).flatten.length ≤ 1000:=fun i=>by
  have : ls.flatten = (ls.take i).flatten ++ (ls.drop i).flatten:=by rw [← List.flatten_append, List.take_append_drop]
  rw [this] at hn
  simp only [List.length_append] at hn
  omega
 have hsucc : ∀ i, i < ls.length → (ls.take (i + 1)).flatten = (ls.take i).flatten ++ ls.getD i []:=fun i hi=>by
  rw [take_succ_getD [] hi, List.flatten_append]; simp
 refine PSpec.intro tt_ok mx_ok Tryz.func222 rfl (by decide) ?_; (conv=>whnf)
 refine WPc.loopF tt_ok mx_ok (fun i : Nat=>i ≤ ls.length) (fun i=>[(11, .int .i64 (i : Int)), (3, .int .i64 ((ls.take i).flatten.length : Int))]) (fun _=>[]) (fun i=>ls.length - i) 0 (by omega) ?_; conv=>whnf
 refine ⟨sI, ?_⟩
 intro i hi
 conv=>whnf
 refine cmpI ?_ ?_ <;> (intro h1; conv=>whnf)
 ·refine nI ?_
  rw [tN]
  have hs:=hsucc i (by omega)
  have h2:=hpart (i + 1)
  rw [hs, List.length_append] at h2
  conv=>whnf
  repeat' ((first|refine nI ?_|refine aI ?_|refine tI ?_|refine fI ?_|fail);conv=>whnf)
  refine ⟨i + 1, ?_, by omega, by dsimp only; omega⟩
  dsimp only
  rw [hs, List.length_append]
  exact sI
 ·obtain rfl : i = ls.length:=by omega
  rw [List.take_length]
  refine Spec.fresh 24 (growF _ h0 hn) rfl (auto_) ?_
  conv=>whnf
  refine WPc.loopF tt_ok mx_ok (fun i : Nat=>i ≤ ls.length) (fun i=>[(27, .int .i64 (i : Int)), (6, .row 1000 (ls.take i).flatten.length 1), (24, .top)]) (fun i=>[(1000, rowS (ls.take i).flatten)]) (fun i=>ls.length - i) 0 (by omega) ?_; conv=>whnf
  refine ⟨Sub.by_ [(1000, .old 24)] _ 400 rfl (auto_) (auto_), ?_⟩
  intro i hi
  conv=>whnf
  refine cmpI ?_ ?_ <;> (intro h1; conv=>whnf)
  ·refine nI ?_
   rw [tN]
   have hs:=hsucc i (by omega)
   have h2:=hpart (i + 1)
   rw [hs, List.length_append] at h2
   conv=>whnf
   refine appI _ rfl (by dsimp only; omega) ?_
   conv=>whnf
   repeat' ((first|refine nI ?_|refine aI ?_|refine tI ?_|refine fI ?_|fail);conv=>whnf)
   refine ⟨i + 1, ?_, by omega, by dsimp only; omega⟩
   dsimp only
   rw [hs, List.length_append]
   exact Sub.by_ [(1000, .old 33)] _ 400 rfl (auto_) (auto_)
  ·obtain rfl : i = ls.length:=by omega
   rw [List.take_length]
   exact ⟨rfl, rfl⟩
def nmsB (l : List ByteArray) : Prop:=∀ i, i < l.length → validN (l.getD i t0) ∧ l.getD i t0 ∉ l.take i
instance (l : List ByteArray) : Decidable (nmsB l):=inferInstanceAs (Decidable (∀ i, i < l.length → _))
def allN (p : Pro) : List ByteArray:=p.states ++ p.messages ++ p.values
theorem allN_size {p : Pro} (hp : okP p) : ∀ i, ((allN p).getD i t0).size ≤ 140737488355328:=by
 intro i
 by_cases hi : i < (allN p).length
 ·have hm:=mem_getD (l:=allN p) t0 hi
  unfold allN at hm
  simp only [List.mem_append] at hm
  rcases hm with (h | h) | h
  ·exact hp.ns.1 _ h
  ·exact hp.ns.2.1 _ h
  ·exact hp.ns.2.2 _ h
 ·rw [gD, List.getElem?_eq_none (by omega)]; decide
theorem namesF (p : Pro) (hp : okP p) (hle : p.states.length ≤ 60 ∧ p.messages.length ≤ 60 ∧ p.values.length ≤ 60) (h0 : 0 < p.states.length) : PSpec Tryz.prog 192 [.agg (encP p)] (fun u=>u = .int .i64 (if nmsB (allN p) then 0 else 2)):=by
 have hsz:=allN_size hp
 have hlen : (allN p).length = p.states.length + p.messages.length + p.values.length:=by simp [allN]; omega
 have hfl : [p.states, p.messages, p.values].flatten = allN p:=by simp [allN]
 have hc:=concatF [p.states, p.messages, p.values] (by simp) (by rw [hfl]; omega) (by rw [hfl]; omega)
 rw [hfl] at hc
 refine PSpec.intro tt_ok mx_ok Tryz.func192 rfl (by decide) ?_; (conv=>whnf)
 refine boxP rfl ?_
 conv=>whnf
 refine bldI [] encTs [p.states, p.messages, p.values] rfl ?_
 conv=>whnf
 refine Spec.hand 12 rfl ?_
 (refine oP (hc) ?_; conv=>whnf)
 refine WPc.loopF tt_ok mx_ok (fun i : Nat=>i ≤ (allN p).length ∧ ∀ j, j < i → validN ((allN p).getD j t0) ∧ (allN p).getD j t0 ∉ (allN p).take j) (fun i=>[(16, .int .i64 (i : Int)), (12, .top)]) (fun _=>[]) (fun i=>(allN p).length - i) 0 ⟨by omega, fun j hj=>by omega⟩ ?_; conv=>whnf
 refine ⟨sI, ?_⟩
 rintro i ⟨hi, ha⟩
 conv=>whnf
 refine cmpI ?_ ?_ <;> (intro h1; conv=>whnf)
 ·refine nI ?_
  rw [tN]
  conv=>whnf
  refine dC (validNameP _ (by have:=hsz i; omega)) (fun _=>?_) (fun _=>?_) <;> (conv=>whnf)
  ·rename_i hv
   refine nI ?_
   rw [tN]
   conv=>whnf
   refine dC (sContainsS _ _ (by simp; omega)) (fun _=>?_) (fun _=>?_) <;> (conv=>whnf)
   ·rename_i hm
    exact ⟨av_int (by rw [if_neg (fun h : nmsB (allN p)=>(h i (by omega)).2 hm)]), rfl⟩
   ·rename_i hm
    repeat' ((first|refine nI ?_|refine aI ?_|refine tI ?_|refine fI ?_|fail);conv=>whnf)
    refine ⟨i + 1, sI, ⟨by omega, fun j hj=>?_⟩, by dsimp only; omega⟩
    by_cases e : j = i
    ·subst e; exact ⟨hv, hm⟩
    ·exact ha j (by omega)
  ·rename_i hv
   exact ⟨av_int (by rw [if_neg (fun h : nmsB (allN p)=>hv (h i (by omega)).1)]), rfl⟩
 ·exact ⟨av_int (by rw [if_pos (show nmsB (allN p) from fun j hj=>ha j (by omega))]), rfl⟩
set_option maxHeartbeats 8000000
def rulesE (p : Pro) : Int:=orL ((List.range p.rules.length).map fun i=>ruleE p i (p.rules.getD i rul0))
def resB (p : Pro) : Prop:=∀ j, j < p.resilience.length → bndB (p.resilience.getD j lin0)
instance (p : Pro) : Decidable (resB p):=inferInstanceAs (Decidable (∀ j, j < p.resilience.length → _))
def tailE (p : Pro) : Int:=orL [setE p.initial p.states.length, (if p.initial.length = 0 then 1 else 0), setE p.leader p.states.length, rulesE p, (if 3 < (thrL p.rules).length then 4 else 0)]
def validE (p : Pro) : Int :=
 if ¬ validN p.name then 2 else if p.topology < 1 ∨ 4 < p.topology ∨ p.fault < 0 ∨ 3 < p.fault then 1 else if p.states.length = 0 then 1
 else if 6 < p.states.length ∨ 3 < p.messages.length ∨ 3 < p.values.length ∨ 4 < p.resilience.length ∨ 8 < p.rules.length then 4
 else if ¬ nmsB (allN p) then 2
 else if (p.topology ≠ 1 ∧ (0 < p.messages.length ∨ 0 < p.values.length ∨ 0 < p.resilience.length ∨ p.fault ≠ 0)) ∨ (p.topology = 1 ∧ 0 < p.leader.length) then 1
 else if ¬ resB p then 4 else tailE p
theorem range_getD {n k : Nat} (h : k < n) : (List.range n).getD k 0 = k:=by
 rw [gD, List.getElem?_range h]; rfl
theorem orl_zero : ∀ {l : List Int}, orL l = 0 → ∀ x ∈ l, x = 0
 | [], _, x, hx=>by cases hx
 | a :: l, h, x, hx=>by
  by_cases ha : a = 0
  ·rw [orL_z ha] at h
   rcases List.mem_cons.1 hx with rfl | hx
   ·exact ha
   ·exact orl_zero h x hx
  ·rw [orL_nz ha] at h; omega
theorem rule_parts {p : Pro} {i : Nat} {r : Rul} (h : ruleE p i r = 0) : validN r.name ∧ fitB r.kind p.topology ∧ ¬ surB r p.topology ∧ (0 ≤ r.src ∧ r.src < p.states.length) ∧ (0 ≤ r.dst ∧ r.dst < p.states.length) ∧ kindE p r = 0:=by
 unfold ruleE at h
 by_cases h1 : ¬ validN r.name ∨ takenB p.rules i r
 ·rw [if_pos h1] at h; omega
 rw [if_neg h1] at h
 by_cases h2 : ¬ fitB r.kind p.topology ∨ surB r p.topology
 ·rw [if_pos h2] at h; omega
 rw [if_neg h2] at h
 have hz:=orl_zero h
 have b1:=hz (indE r.src p.states.length) (by simp)
 have b2:=hz (indE r.dst p.states.length) (by simp)
 unfold indE at b1 b2
 refine ⟨Classical.not_not.1 fun e=>h1 (.inl e), Classical.not_not.1 fun e=>h2 (.inl e), fun e=>h2 (.inr e), ?_, ?_, hz _ (by simp)⟩
 ·split at b1 <;> omega
 ·split at b2 <;> omega
theorem guards_2 {m : Int} {l : List Thr} (h : guardsE m l = 0) : l.length ≤ 2:=by
 unfold guardsE at h
 split at h
 ·omega
 ·split at h <;> omega
theorem rule_guards {p : Pro} {i : Nat} {r : Rul} (h : ruleE p i r = 0) : r.guards.length ≤ 2:=by
 obtain ⟨_, _, h3, _, _, h6⟩:=rule_parts h
 by_cases k : r.kind = 1
 ·unfold kindE at h6
  rw [if_pos k] at h6
  exact guards_2 (orl_zero h6 (guardsE p.messages.length r.guards) (by simp))
 ·unfold surB at h3; omega
theorem gs_of {p : Pro} (h : rulesE p = 0) (hl : p.rules.length ≤ 8) : gsP p:=by
 refine ⟨by omega, fun j hj=>?_⟩
 have:=rule_guards (orl_zero h _ (List.mem_map.2 ⟨j, List.mem_range.2 hj, rfl⟩))
 omega
theorem validateF (p : Pro) (hp : okP p) : PSpec Tryz.prog 116 [.agg (encP p)] (fun u=>u = .int .i64 (validE p)):=by
 have hle:=okP_le hp
 have he:=validE.eq_1 p
 refine PSpec.intro tt_ok mx_ok Tryz.func116 rfl (by decide) ?_; (conv=>whnf)
 refine boxP rfl ?_
 conv=>whnf
 refine cmpI ?_ ?_ <;> (intro ht; conv=>whnf)
 all_goals
  refine dC (validNameP p.name (by omega)) (fun _=>?_) (fun _=>?_) <;> (conv=>whnf)
  case refine_2=>rename_i hv; rw [if_pos hv] at he; exact ⟨av_int he.symm, rfl⟩
  rename_i hv
  rw [if_neg (fun h=>h hv)] at he
  by_cases hA : p.topology < 1 ∨ 4 < p.topology ∨ p.fault < 0 ∨ 3 < p.fault
  ·rw [if_pos hA] at he
   repeat' ((first|refine nI ?_|refine aI ?_|refine arU trivial (by omega) ?_|refine arB trivial (by omega) ?_|refine dI ?_|refine dR ?_|refine dP ?_|refine boxP rfl ?_|refine pI _ rfl ?_|refine rowSetI _ rfl ?_|refine tI ?_|refine fI ?_|refine cmpI (fun _=>?_) (fun _=>?_)) <;> conv=>whnf)
   all_goals exact ⟨av_int he.symm, rfl⟩
  rw [if_neg hA] at he
  by_cases h0 : p.states.length = 0
  ·rw [if_pos h0] at he
   repeat' ((first|refine nI ?_|refine aI ?_|refine tI ?_|refine fI ?_|fail);conv=>whnf)
   exact ⟨av_int he.symm, rfl⟩
  rw [if_neg h0] at he
  by_cases hB : 6 < p.states.length ∨ 3 < p.messages.length ∨ 3 < p.values.length ∨ 4 < p.resilience.length ∨ 8 < p.rules.length
  ·rw [if_pos hB] at he
   repeat' ((first|refine nI ?_|refine aI ?_|refine arU trivial (by omega) ?_|refine arB trivial (by omega) ?_|refine dI ?_|refine dR ?_|refine dP ?_|refine boxP rfl ?_|refine pI _ rfl ?_|refine rowSetI _ rfl ?_|refine tI ?_|refine fI ?_|refine cmpI (fun _=>?_) (fun _=>?_)) <;> conv=>whnf)
   all_goals exact ⟨av_int he.symm, rfl⟩
  rw [if_neg hB] at he
  repeat' ((first|refine nI ?_|refine aI ?_|refine tI ?_|refine fI ?_|fail);conv=>whnf)
  (refine oP (namesF p hp (by omega) (by omega)) ?_; conv=>whnf)
  by_cases hN : nmsB (allN p)
  case neg =>
   rw [if_pos hN] at he
   rw [if_neg hN]
   repeat' ((first|refine nI ?_|refine aI ?_|refine tI ?_|refine fI ?_|fail);conv=>whnf)
   exact ⟨av_int he.symm, rfl⟩
  rw [if_neg (fun h=>h hN)] at he
  rw [if_pos hN]
  by_cases hC : (p.topology ≠ 1 ∧ (0 < p.messages.length ∨ 0 < p.values.length ∨ 0 < p.resilience.length ∨ p.fault ≠ 0)) ∨ (p.topology = 1 ∧ 0 < p.leader.length)
  ·rw [if_pos hC] at he
   repeat' ((first|refine nI ?_|refine aI ?_|refine arU trivial (by omega) ?_|refine arB trivial (by omega) ?_|refine dI ?_|refine dR ?_|refine dP ?_|refine boxP rfl ?_|refine pI _ rfl ?_|refine rowSetI _ rfl ?_|refine tI ?_|refine fI ?_|refine cmpI (fun _=>?_) (fun _=>?_)) <;> conv=>whnf)
   all_goals exact ⟨av_int he.symm, rfl⟩
  rw [if_neg hC] at he
  repeat' ((first|refine nI ?_|refine aI ?_|refine tI ?_|refine fI ?_|fail);conv=>whnf)
  refine WPc.loopF tt_ok mx_ok (fun k : Nat=>k ≤ p.resilience.length ∧ ∀ j, j < k → bndB (p.resilience.getD j lin0)) (fun k=>[(113, .int .i64 (k : Int))]) (fun _=>[]) (fun k=>p.resilience.length - k) 0 ⟨by omega, fun j hj=>by omega⟩ ?_; conv=>whnf
  refine ⟨sI, ?_⟩
  rintro k ⟨hk, ha⟩
  conv=>whnf
  refine cmpI ?_ ?_ <;> (intro h1; conv=>whnf)
  ·refine nI ?_
   rw [tN]
   conv=>whnf
   refine dC (boundedF (p.resilience.getD k lin0)) (fun _=>?_) (fun _=>?_) <;> (conv=>whnf)
   ·rename_i hb
    repeat' ((first|refine nI ?_|refine aI ?_|refine tI ?_|refine fI ?_|fail);conv=>whnf)
    refine ⟨k + 1, sI, ⟨by omega, fun j hj=>?_⟩, by dsimp only; omega⟩
    by_cases e : j = k
    ·subst e; exact hb
    ·exact ha j (by omega)
   ·rename_i hb
    rw [if_pos (fun h : resB p=>hb (h k (by omega)))] at he
    exact ⟨av_int he.symm, rfl⟩
  rw [if_neg (fun h=>h (show resB p from fun j hj=>ha j (by omega))), tailE] at he
  refine dI ?_
  conv=>whnf
  (refine oC (setP p.initial _ (by omega)) ?_; conv=>whnf)
  have hf : ∀ x : Int, x = (if p.initial.length = 0 then 1 else 0) → validE p = if orL [setE p.initial p.states.length, x, setE p.leader p.states.length] ≠ 0 then orL [setE p.initial p.states.length, x, setE p.leader p.states.length] else orL [rulesE p, (if 3 < (thrL p.rules).length then 4 else 0)]:=by
   rintro x rfl
   rw [he, show [setE p.initial p.states.length, (if p.initial.length = 0 then (1 : Int) else 0), setE p.leader p.states.length, rulesE p, (if 3 < (thrL p.rules).length then 4 else 0)] = [setE p.initial p.states.length, (if p.initial.length = 0 then (1 : Int) else 0), setE p.leader p.states.length] ++ [rulesE p, (if 3 < (thrL p.rules).length then 4 else 0)] from rfl, orL_app2]
  clear he
  by_cases hI : p.initial.length = 0
  ·have hx:=hf 1 (by rw [if_pos hI])
   repeat' ((first|refine nI ?_|refine aI ?_|refine tI ?_|refine fI ?_|fail);conv=>whnf)
   (refine oC (whenT 1) ?_; conv=>whnf)
   (refine oC (setP p.leader _ (by omega)) ?_; conv=>whnf)
   refine leakY ?_
   conv=>whnf
   (refine oC (firstF _ (by simp)) ?_; conv=>whnf)
   refine cmpI ?_ ?_ <;> (intro h1; conv=>whnf)
   ·rw [if_pos h1] at hx; exact ⟨av_int hx.symm, rfl⟩
   ·exfalso
    apply h1
    simp only [orL]
    (repeat' split) <;> omega
  have hx:=hf 0 (by rw [if_neg hI])
  repeat' ((first|refine nI ?_|refine aI ?_|refine tI ?_|refine fI ?_|fail);conv=>whnf)
  (refine oC (whenF 1) ?_; conv=>whnf)
  (refine oC (setP p.leader _ (by omega)) ?_; conv=>whnf)
  refine leakY ?_
  conv=>whnf
  (refine oC (firstF _ (by simp)) ?_; conv=>whnf)
  refine cmpI ?_ ?_ <;> (intro h1; conv=>whnf)
  ·rw [if_pos h1] at hx; exact ⟨av_int hx.symm, rfl⟩
  rw [if_neg h1] at hx
  refine WPc.loopF tt_ok mx_ok (fun k : Nat=>k ≤ p.rules.length ∧ rulesE p = orL (((List.range p.rules.length).drop k).map fun i=>ruleE p i (p.rules.getD i rul0))) (fun k=>[(142, .int .i64 (k : Int))]) (fun _=>[]) (fun k=>p.rules.length - k) 0 ⟨by omega, rfl⟩ ?_; conv=>whnf
  refine ⟨sI, ?_⟩
  rintro k ⟨hk, hr⟩
  conv=>whnf
  refine cmpI ?_ ?_ <;> (intro h2; conv=>whnf)
  ·rw [orL_map_drop _ 0 (by simp; omega), range_getD (by omega)] at hr
   (refine oP (ruleErrorF p k hp (by omega)) ?_; conv=>whnf)
   refine cmpI ?_ ?_ <;> (intro h3; conv=>whnf)
   ·rw [if_pos h3] at hr
    rw [hr, orL_nz h3] at hx
    exact ⟨av_int hx.symm, rfl⟩
   ·rw [if_neg h3] at hr
    repeat' ((first|refine nI ?_|refine aI ?_|refine tI ?_|refine fI ?_|fail);conv=>whnf)
    exact ⟨k + 1, sI, ⟨by omega, hr⟩, by dsimp only; omega⟩
  obtain rfl : k = p.rules.length:=by omega
  rw [List.drop_of_length_le (by simp)] at hr
  rw [orL_z hr] at hx
  (refine oP (thresholdsF p (gs_of (show rulesE p = 0 from hr) (by omega))) ?_; conv=>whnf)
  refine cmpI ?_ ?_ <;> (intro h3; conv=>whnf)
  ·rw [if_pos (by omega)] at hx
   (refine oP (whenT 4) ?_; conv=>whnf)
   exact ⟨av_int hx.symm, rfl⟩
  ·rw [if_neg (by omega)] at hx
   (refine oP (whenF 4) ?_; conv=>whnf)
   exact ⟨av_int hx.symm, rfl⟩
theorem validateR (p : Pro) (hp : okP p) : PSpec Tryz.prog 142 [.agg (encP p)] (fun u=>u = .int .i64 (validE p)):=by
 have hle:=okP_le hp
 have he:=validE.eq_1 p
 have hsz:=allN_size hp
 have hlen : (allN p).length = p.states.length + p.messages.length + p.values.length:=by simp [allN]; omega
 refine PSpec.intro tt_ok mx_ok Tryz.func142 rfl (by decide) ?_; (conv=>whnf)
 refine boxP rfl ?_
 conv=>whnf
 refine dC (validNameR p.name (by omega)) (fun _=>?_) (fun _=>?_) <;> (conv=>whnf)
 case refine_2=>rename_i hv; rw [if_pos hv] at he; exact ⟨av_int he.symm, rfl⟩
 rename_i hv
 rw [if_neg (fun h=>h hv)] at he
 refine dC (withinR _ _ _) (fun _=>?_) (fun _=>?_) <;> (conv=>whnf)
 case refine_2=>rename_i h; rw [if_pos (by omega)] at he; exact ⟨av_int he.symm, rfl⟩
 rename_i hA1
 refine dC (withinR _ _ _) (fun _=>?_) (fun _=>?_) <;> (conv=>whnf)
 case refine_2=>rename_i h; rw [if_pos (by omega)] at he; exact ⟨av_int he.symm, rfl⟩
 rename_i hA2
 rw [if_neg (by omega)] at he
 by_cases h0 : p.states.length = 0
 ·rw [if_pos h0] at he
  repeat' ((first|refine nI ?_|refine aI ?_|refine tI ?_|refine fI ?_|fail);conv=>whnf)
  exact ⟨av_int he.symm, rfl⟩
 rw [if_neg h0] at he
 by_cases hB : 6 < p.states.length ∨ 3 < p.messages.length ∨ 3 < p.values.length ∨ 4 < p.resilience.length ∨ 8 < p.rules.length
 ·rw [if_pos hB] at he
  repeat' ((first|refine nI ?_|refine aI ?_|refine arU trivial (by omega) ?_|refine arB trivial (by omega) ?_|refine dI ?_|refine dR ?_|refine dP ?_|refine boxP rfl ?_|refine pI _ rfl ?_|refine rowSetI _ rfl ?_|refine tI ?_|refine fI ?_|refine cmpI (fun _=>?_) (fun _=>?_)) <;> conv=>whnf)
  all_goals exact ⟨av_int he.symm, rfl⟩
 rw [if_neg hB] at he
 repeat' ((first|refine nI ?_|refine aI ?_|refine tI ?_|refine fI ?_|fail);conv=>whnf)
 refine dP ?_
 conv=>whnf
 refine bldI t0 encT [] rfl ?_
 conv=>whnf
 refine leakN ?_
 conv=>whnf
 refine appI _ rfl (by dsimp only; simp only [List.length_nil]; omega) ?_
 conv=>whnf
 refine appI _ rfl (by simp only [List.length_append, List.length_nil]; omega) ?_
 conv=>whnf
 refine appI _ rfl (by simp only [List.length_append, List.length_nil]; omega) ?_
 conv=>whnf
 refine WPc.loopF tt_ok mx_ok (fun i : Nat=>i ≤ (allN p).length ∧ ∀ j, j < i → validN ((allN p).getD j t0) ∧ (allN p).getD j t0 ∉ (allN p).take j) (fun i=>[(4, .int .i64 (i : Int)), (3, .sl t0 encT (allN p)), (56, .top), (59, .top), (62, .top), (65, .top)]) (fun _=>[]) (fun i=>(allN p).length - i) 0 ⟨by omega, fun j hj=>by omega⟩ ?_; conv=>whnf
 refine ⟨Sub.leak 65 rfl (Sub.by_ [] [] 400 rfl trivial (auto_)), ?_⟩
 rintro i ⟨hi, ha⟩
 conv=>whnf
 refine cmpI ?_ ?_ <;> (intro h1; conv=>whnf)
 ·refine dI ?_
  conv=>whnf
  refine nI ?_
  rw [tN]
  conv=>whnf
  refine dD (validNameR _ (by have:=hsz i; omega)) (fun _=>?_) (fun _=>?_) <;> (conv=>whnf)
  ·rename_i hv
   refine nI ?_
   rw [tN]
   conv=>whnf
   refine nI ?_
   rw [tN]
   conv=>whnf
   refine dD (hasTextR _ _ (by simp; omega)) (fun _=>?_) (fun _=>?_) <;> (conv=>whnf)
   ·rename_i hm
    rw [if_pos (fun h : nmsB (allN p)=>(h i (by omega)).2 hm)] at he
    exact ⟨av_int he.symm, rfl⟩
   ·rename_i hm
    repeat' ((first|refine nI ?_|refine aI ?_|refine tI ?_|refine fI ?_|fail);conv=>whnf)
    refine ⟨i + 1, sI, ⟨by omega, fun j hj=>?_⟩, by dsimp only; omega⟩
    by_cases e : j = i
    ·subst e; exact ⟨hv, hm⟩
    ·exact ha j (by omega)
  ·rename_i hv
   rw [if_pos (fun h : nmsB (allN p)=>hv (h i (by omega)).1)] at he
   exact ⟨av_int he.symm, rfl⟩
 rw [if_neg (fun h=>h (show nmsB (allN p) from fun j hj=>ha j (by omega)))] at he
 by_cases hC : (p.topology ≠ 1 ∧ (0 < p.messages.length ∨ 0 < p.values.length ∨ 0 < p.resilience.length ∨ p.fault ≠ 0)) ∨ (p.topology = 1 ∧ 0 < p.leader.length)
 ·rw [if_pos hC] at he
  repeat' ((first|refine nI ?_|refine aI ?_|refine arU trivial (by omega) ?_|refine arB trivial (by omega) ?_|refine dI ?_|refine dR ?_|refine dP ?_|refine boxP rfl ?_|refine pI _ rfl ?_|refine rowSetI _ rfl ?_|refine tI ?_|refine fI ?_|refine cmpI (fun _=>?_) (fun _=>?_)) <;> conv=>whnf)
  all_goals exact ⟨av_int he.symm, rfl⟩
 rw [if_neg hC] at he
 refine cmpI ?_ ?_ <;> (intro ht; conv=>whnf)
 all_goals
  repeat' ((first|refine nI ?_|refine aI ?_|refine tI ?_|refine fI ?_|fail);conv=>whnf)
  refine WPc.loopF tt_ok mx_ok (fun k : Nat=>k ≤ p.resilience.length ∧ ∀ j, j < k → bndB (p.resilience.getD j lin0)) (fun k=>[(5, .int .i64 (k : Int))]) (fun _=>[]) (fun k=>p.resilience.length - k) 0 ⟨by omega, fun j hj=>by omega⟩ ?_; conv=>whnf
  refine ⟨sI, ?_⟩
  rintro k ⟨hk, ha⟩
  conv=>whnf
  refine cmpI ?_ ?_ <;> (intro h1; conv=>whnf)
  ·refine nI ?_
   rw [tN]
   conv=>whnf
   refine dC (fewR (p.resilience.getD k lin0)) (fun _=>?_) (fun _=>?_) <;> (conv=>whnf)
   ·rename_i hb
    repeat' ((first|refine nI ?_|refine aI ?_|refine tI ?_|refine fI ?_|fail);conv=>whnf)
    refine ⟨k + 1, sI, ⟨by omega, fun j hj=>?_⟩, by dsimp only; omega⟩
    by_cases e : j = k
    ·subst e; exact hb
    ·exact ha j (by omega)
   ·rename_i hb
    rw [if_pos (fun h : resB p=>hb (h k (by omega)))] at he
    exact ⟨av_int he.symm, rfl⟩
  rw [if_neg (fun h=>h (show resB p from fun j hj=>ha j (by omega))), tailE] at he
  (refine oP (setR p.initial _ (by omega) (by omega)) ?_; conv=>whnf)
  refine cmpI ?_ ?_ <;> (intro hx; conv=>whnf)
  ·exact ⟨av_int (by rw [he, orL_nz hx]), rfl⟩
  rw [orL_z (by omega)] at he
  refine cmpI ?_ ?_ <;> (intro hx; conv=>whnf)
  ·exact ⟨av_int (by rw [he, if_pos (by omega), orL_nz (by decide)]), rfl⟩
  rw [if_neg (by omega), orL_z rfl] at he
  (refine oP (setR p.leader _ (by omega) (by omega)) ?_; conv=>whnf)
  refine cmpI ?_ ?_ <;> (intro hx; conv=>whnf)
  ·exact ⟨av_int (by rw [he, orL_nz hx]), rfl⟩
  rw [orL_z (by omega)] at he
  refine WPc.loopF tt_ok mx_ok (fun k : Nat=>k ≤ p.rules.length ∧ rulesE p = orL (((List.range p.rules.length).drop k).map fun i=>ruleE p i (p.rules.getD i rul0))) (fun k=>[(8, .int .i64 (k : Int))]) (fun _=>[]) (fun k=>p.rules.length - k) 0 ⟨by omega, rfl⟩ ?_; conv=>whnf
  refine ⟨sI, ?_⟩
  rintro k ⟨hk, hr⟩
  conv=>whnf
  refine cmpI ?_ ?_ <;> (intro h2; conv=>whnf)
  ·rw [orL_map_drop _ 0 (by simp; omega), range_getD (by omega)] at hr
   (refine oP (ruleR p k hp (by omega)) ?_; conv=>whnf)
   refine cmpI ?_ ?_ <;> (intro h3; conv=>whnf)
   ·rw [if_pos h3] at hr
    rw [hr, orL_nz h3] at he
    exact ⟨av_int he.symm, rfl⟩
   ·rw [if_neg h3] at hr
    repeat' ((first|refine nI ?_|refine aI ?_|refine tI ?_|refine fI ?_|fail);conv=>whnf)
    exact ⟨k + 1, sI, ⟨by omega, hr⟩, by dsimp only; omega⟩
  obtain rfl : k = p.rules.length:=by omega
  rw [List.drop_of_length_le (by simp)] at hr
  rw [orL_z hr] at he
  (refine oP (distinctR p (gs_of (show rulesE p = 0 from hr) (by omega))) ?_; conv=>whnf)
  refine cmpI ?_ ?_ <;> (intro h3; conv=>whnf)
  ·rw [if_pos (by omega)] at he
   exact ⟨av_int he.symm, rfl⟩
  ·rw [if_neg (by omega)] at he
   exact ⟨av_int he.symm, rfl⟩
structure Siz where
 n : Int
 t : Int
 f : Int
def encZ (s : Siz) : List AV:=[.int .i64 s.n, .int .i64 s.t, .int .i64 s.f]
def evalL (l : Lin) (s : Siz) : Int:=l.c + l.n * s.n + l.t * s.t + l.f * s.f
def inZ (s : Siz) : Prop:=(0 ≤ s.n ∧ s.n ≤ 1048576) ∧ (0 ≤ s.t ∧ s.t ≤ 1048576) ∧ (0 ≤ s.f ∧ s.f ≤ 1048576)
theorem mul_b {a b : Int} (ha : facB a) (hb : 0 ≤ b ∧ b ≤ 1048576) : -104857600 ≤ a * b ∧ a * b ≤ 104857600:=by
 unfold facB at ha
 have h1 : a * b ≤ 100 * b:=Int.mul_le_mul_of_nonneg_right ha.2 hb.1
 have h2 : -100 * b ≤ a * b:=Int.mul_le_mul_of_nonneg_right ha.1 hb.1
 omega
theorem evalL_b {l : Lin} {s : Siz} (hl : bndB l) (hs : inZ s) : (-104857600 ≤ l.n * s.n ∧ l.n * s.n ≤ 104857600) ∧ (-104857600 ≤ l.t * s.t ∧ l.t * s.t ≤ 104857600) ∧ (-104857600 ≤ l.f * s.f ∧ l.f * s.f ≤ 104857600) ∧ (-100 ≤ l.c ∧ l.c ≤ 100) :=
 ⟨mul_b hl.2.1 hs.1, mul_b hl.2.2.1 hs.2.1, mul_b hl.2.2.2 hs.2.2, hl.1⟩
theorem evaluateF (l : Lin) (s : Siz) (hl : bndB l) (hs : inZ s) : PSpec Tryz.prog 69 [.agg (encLin l), .agg (encZ s)] (fun u=>u = .tup [.int .i64 (evalL l s), .int .i64 0]):=by
 obtain ⟨b1, b2, b3, b4⟩:=evalL_b hl hs
 refine PSpec.intro tt_ok mx_ok Tryz.func69 rfl (by decide) ?_; (conv=>whnf)
 refine boxP rfl ?_
 conv=>whnf
 refine boxP rfl ?_
 conv=>whnf
 refine dC (boundedF l) (fun _=>?_) (fun _=>?_) <;> (conv=>whnf)
 case refine_2=>rename_i h; exact absurd hl h
 refine WPc.loopF tt_ok mx_ok (fun k : Nat=>k ≤ 3) (fun k=>[(19, .int .i64 (k : Int))]) (fun _=>[(17, .row 3 0 encI [s.n, s.t, s.f])]) (fun k=>3 - k) 0 (by omega) ?_; conv=>whnf
 refine ⟨sI, ?_⟩
 intro k hk
 conv=>whnf
 refine cmpI ?_ ?_ <;> (intro h1; conv=>whnf)
 ·refine nI ?_
  rw [tN]
  have hx : 0 ≤ [s.n, s.t, s.f].getD k 0 ∧ [s.n, s.t, s.f].getD k 0 ≤ 1048576:=by
   obtain ⟨c1, c2, c3⟩:=hs
   have : k = 0 ∨ k = 1 ∨ k = 2:=by omega
   rcases this with rfl | rfl | rfl
   ·exact c1
   ·exact c2
   ·exact c3
  conv=>whnf
  repeat' ((first|refine nI ?_|refine aI ?_|refine tI ?_|refine fI ?_|fail);conv=>whnf)
  exact ⟨k + 1, sI, by omega, by dsimp only; omega⟩
 ·repeat' ((first|refine nI ?_|refine aI ?_|refine tI ?_|refine fI ?_|fail);conv=>whnf)
  exact ⟨rfl, rfl⟩
theorem valueR (l : Lin) (s : Siz) (hl : bndB l) (hs : inZ s) : PSpec Tryz.prog 159 [.agg (encLin l), .agg (encZ s)] (fun u=>u = .int .i64 (evalL l s)):=by
 obtain ⟨b1, b2, b3, b4⟩:=evalL_b hl hs
 refine PSpec.intro tt_ok mx_ok Tryz.func159 rfl (by decide) ?_; (conv=>whnf)
 refine boxP rfl ?_
 conv=>whnf
 refine boxP rfl ?_
 conv=>whnf
 repeat' ((first|refine nI ?_|refine aI ?_|refine tI ?_|refine fI ?_|fail);conv=>whnf)
 exact ⟨rfl, rfl⟩
def admA (p : Pro) (s : Siz) : Prop:=(1 ≤ s.n ∧ s.n ≤ 1048576) ∧ (0 ≤ s.t ∧ s.t ≤ s.n) ∧ (0 ≤ s.f ∧ s.f ≤ s.n)
def admC (p : Pro) (s : Siz) : Prop:=¬ (p.fault = 0 ∧ (s.t ≠ 0 ∨ s.f ≠ 0))
def admD (p : Pro) (s : Siz) : Prop:=¬ (p.topology = 4 ∧ s.n.tmod 2 = 0)
def admE (p : Pro) (s : Siz) : Prop:=∀ j, j < p.resilience.length → 0 ≤ evalL (p.resilience.getD j lin0) s
def admB (p : Pro) (s : Siz) : Prop:=admA p s ∧ admC p s ∧ admD p s ∧ admE p s
instance (p : Pro) (s : Siz) : Decidable (admA p s):=inferInstanceAs (Decidable (_ ∧ _))
instance (p : Pro) (s : Siz) : Decidable (admC p s):=inferInstanceAs (Decidable (¬ _))
instance (p : Pro) (s : Siz) : Decidable (admD p s):=inferInstanceAs (Decidable (¬ _))
instance (p : Pro) (s : Siz) : Decidable (admE p s):=inferInstanceAs (Decidable (∀ j, j < p.resilience.length → _))
instance (p : Pro) (s : Siz) : Decidable (admB p s):=inferInstanceAs (Decidable (_ ∧ _))
theorem admA_in {p : Pro} {s : Siz} (h : admA p s) : inZ s:=by unfold admA at h; unfold inZ; omega
theorem hasF (p : Pro) (s : Siz) (hp : ¬ bigP p) (hr : resB p) : PSpec Tryz.prog 194 [.agg (encP p), .agg (encZ s)] (fun u=>u = .bool (decide (admB p s))):=by
 have hle:=bigP_le hp
 refine PSpec.intro tt_ok mx_ok Tryz.func194 rfl (by decide) ?_; (conv=>whnf)
 refine boxP rfl ?_
 conv=>whnf
 refine boxP rfl ?_
 conv=>whnf
 by_cases hA : admA p s
 case neg =>
  have hno : ¬ admB p s:=fun h=>hA h.1
  unfold admA at hA
  repeat' ((first|refine nI ?_|refine aI ?_|refine arU trivial (by omega) ?_|refine arB trivial (by omega) ?_|refine dI ?_|refine dR ?_|refine dP ?_|refine boxP rfl ?_|refine pI _ rfl ?_|refine rowSetI _ rfl ?_|refine tI ?_|refine fI ?_|refine cmpI (fun _=>?_) (fun _=>?_)) <;> conv=>whnf)
  all_goals exact ⟨dec_f hno, rfl⟩
 have hz:=admA_in hA
 have hA2:=hA
 unfold admA at hA2
 by_cases hC : admC p s
 case neg =>
  have hno : ¬ admB p s:=fun h=>hC h.2.1
  unfold admC at hC
  repeat' ((first|refine nI ?_|refine aI ?_|refine arU trivial (by omega) ?_|refine arB trivial (by omega) ?_|refine dI ?_|refine dR ?_|refine dP ?_|refine boxP rfl ?_|refine pI _ rfl ?_|refine rowSetI _ rfl ?_|refine tI ?_|refine fI ?_|refine cmpI (fun _=>?_) (fun _=>?_)) <;> conv=>whnf)
  all_goals exact ⟨dec_f hno, rfl⟩
 have hC2:=hC
 unfold admC at hC2
 by_cases hD : admD p s
 case neg =>
  have hno : ¬ admB p s:=fun h=>hD h.2.2.1
  unfold admD at hD
  repeat' ((first|refine nI ?_|refine aI ?_|refine arU trivial (by omega) ?_|refine arB trivial (by omega) ?_|refine dI ?_|refine dR ?_|refine dP ?_|refine boxP rfl ?_|refine pI _ rfl ?_|refine rowSetI _ rfl ?_|refine tI ?_|refine fI ?_|refine cmpI (fun _=>?_) (fun _=>?_)) <;> conv=>whnf)
  all_goals exact ⟨dec_f hno, rfl⟩
 have hD2:=hD
 unfold admD at hD2
 repeat' ((first|refine nI ?_|refine aI ?_|refine arU trivial (by omega) ?_|refine arB trivial (by omega) ?_|refine dI ?_|refine dR ?_|refine dP ?_|refine boxP rfl ?_|refine pI _ rfl ?_|refine rowSetI _ rfl ?_|refine tI ?_|refine fI ?_|refine cmpI (fun _=>?_) (fun _=>?_)) <;> conv=>whnf)
 all_goals
  refine WPc.loopF tt_ok mx_ok (fun k : Nat=>k ≤ p.resilience.length ∧ ∀ j, j < k → 0 ≤ evalL (p.resilience.getD j lin0) s) (fun k=>[(69, .int .i64 (k : Int))]) (fun _=>[]) (fun k=>p.resilience.length - k) 0 ⟨by omega, fun j hj=>by omega⟩ ?_; conv=>whnf
  refine ⟨sI, ?_⟩
  rintro k ⟨hk, ha⟩
  conv=>whnf
  refine cmpI ?_ ?_ <;> (intro h1; conv=>whnf)
  ·refine nI ?_
   rw [tN]
   conv=>whnf
   (refine oP (evaluateF (p.resilience.getD k lin0) s (hr k (by omega)) hz) ?_; conv=>whnf)
   refine cmpF (by decide) ?_
   conv=>whnf
   refine cmpI ?_ ?_ <;> (intro h2; conv=>whnf)
   ·exact ⟨dec_f (fun h=>by have:=h.2.2.2 k (by omega); omega), rfl⟩
   ·repeat' ((first|refine nI ?_|refine aI ?_|refine tI ?_|refine fI ?_|fail);conv=>whnf)
    refine ⟨k + 1, sI, ⟨by omega, fun j hj=>?_⟩, by dsimp only; omega⟩
    by_cases e : j = k
    ·subst e; omega
    ·exact ha j (by omega)
  ·exact ⟨dec_t ⟨hA, hC, hD, fun j hj=>ha j (by omega)⟩, rfl⟩
theorem tmod2 {n : Int} (h : 0 ≤ n) : n.tmod 2 = 0 ∨ n.tmod 2 = 1:=by
 rw [Int.tmod_eq_emod_of_nonneg h]; omega
theorem admissibleR (p : Pro) (s : Siz) (hp : ¬ bigP p) (hr : resB p) : PSpec Tryz.prog 148 [.agg (encP p), .agg (encZ s)] (fun u=>u = .bool (decide (admB p s))):=by
 have hle:=bigP_le hp
 refine PSpec.intro tt_ok mx_ok Tryz.func148 rfl (by decide) ?_; (conv=>whnf)
 refine boxP rfl ?_
 conv=>whnf
 refine boxP rfl ?_
 conv=>whnf
 refine dC (withinR _ _ _) (fun _=>?_) (fun _=>?_) <;> (conv=>whnf)
 case refine_2=>rename_i h; exact ⟨dec_f (fun hh=>h hh.1.1), rfl⟩
 rename_i a1
 refine dC (withinR _ _ _) (fun _=>?_) (fun _=>?_) <;> (conv=>whnf)
 case refine_2=>rename_i h; exact ⟨dec_f (fun hh=>h hh.1.2.1), rfl⟩
 rename_i a2
 refine dC (withinR _ _ _) (fun _=>?_) (fun _=>?_) <;> (conv=>whnf)
 case refine_2=>rename_i h; exact ⟨dec_f (fun hh=>h hh.1.2.2), rfl⟩
 rename_i a3
 have hA : admA p s:=⟨a1, a2, a3⟩
 have hz:=admA_in hA
 have ht:=tmod2 (n:=s.n) (by omega)
 refine WPc.loopF tt_ok mx_ok (fun k : Nat=>k ≤ p.resilience.length ∧ ∀ j, j < k → 0 ≤ evalL (p.resilience.getD j lin0) s) (fun k=>[(5, .int .i64 (k : Int))]) (fun _=>[]) (fun k=>p.resilience.length - k) 0 ⟨by omega, fun j hj=>by omega⟩ ?_; conv=>whnf
 refine ⟨sI, ?_⟩
 rintro k ⟨hk, ha⟩
 conv=>whnf
 refine cmpI ?_ ?_ <;> (intro h1; conv=>whnf)
 ·refine dI ?_
  conv=>whnf
  refine nI ?_
  rw [tN]
  conv=>whnf
  (refine oC (valueR (p.resilience.getD k lin0) s (hr k (by omega)) hz) ?_; conv=>whnf)
  refine cmpI ?_ ?_ <;> (intro h2; conv=>whnf)
  ·exact ⟨dec_f (fun h=>by have:=h.2.2.2 k (by omega); omega), rfl⟩
  ·repeat' ((first|refine nI ?_|refine aI ?_|refine tI ?_|refine fI ?_|fail);conv=>whnf)
   refine ⟨k + 1, sI, ⟨by omega, fun j hj=>?_⟩, by dsimp only; omega⟩
   by_cases e : j = k
   ·subst e; omega
   ·exact ha j (by omega)
 have hE : admE p s:=fun j hj=>ha j (by omega)
 by_cases hC : admC p s
 case neg =>
  have hno : ¬ admB p s:=fun h=>hC h.2.1
  unfold admC at hC
  repeat' ((first|refine nI ?_|refine aI ?_|refine arU trivial (by omega) ?_|refine arB trivial (by omega) ?_|refine dI ?_|refine dR ?_|refine dP ?_|refine boxP rfl ?_|refine pI _ rfl ?_|refine rowSetI _ rfl ?_|refine tI ?_|refine fI ?_|refine cmpI (fun _=>?_) (fun _=>?_)) <;> conv=>whnf)
  all_goals exact ⟨dec_f hno, rfl⟩
 by_cases hD : admD p s
 case neg =>
  have hno : ¬ admB p s:=fun h=>hD h.2.2.1
  unfold admC at hC
  unfold admD at hD
  repeat' ((first|refine nI ?_|refine aI ?_|refine arU trivial (by omega) ?_|refine arB trivial (by omega) ?_|refine dI ?_|refine dR ?_|refine dP ?_|refine boxP rfl ?_|refine pI _ rfl ?_|refine rowSetI _ rfl ?_|refine tI ?_|refine fI ?_|refine cmpI (fun _=>?_) (fun _=>?_)) <;> conv=>whnf)
  all_goals exact ⟨dec_f hno, rfl⟩
 have hyes : admB p s:=⟨hA, hC, hD, hE⟩
 unfold admC at hC
 unfold admD at hD
 repeat' ((first|refine nI ?_|refine aI ?_|refine arU trivial (by omega) ?_|refine arB trivial (by omega) ?_|refine dI ?_|refine dR ?_|refine dP ?_|refine boxP rfl ?_|refine pI _ rfl ?_|refine rowSetI _ rfl ?_|refine tI ?_|refine fI ?_|refine cmpI (fun _=>?_) (fun _=>?_)) <;> conv=>whnf)
 all_goals exact ⟨dec_t hyes, rfl⟩
theorem validE_res {p : Pro} (h : validE p = 0) : resB p:=by
 unfold validE at h
 refine Classical.byContradiction fun hn=>?_
 (repeat' split at h) <;> first | omega | exact absurd ‹¬ ¬ resB p› (fun hh=>hh hn)
def sizeE (p : Pro) (s : Siz) : Int:=if validE p ≠ 0 then validE p else if ¬ admB p s then 8 else if 8 < s.n then 4 else 0
theorem admissibleF (p : Pro) (s : Siz) (hp : ¬ bigP p) (hv : validE p = 0) : PSpec Tryz.prog 117 [.agg (encP p), .agg (encZ s)] (fun u=>u = .bool (decide (admB p s))):=by
 refine PSpec.intro tt_ok mx_ok Tryz.func117 rfl (by decide) ?_; (conv=>whnf)
 refine boxP rfl ?_
 conv=>whnf
 refine boxP rfl ?_
 conv=>whnf
 (refine oP (validateF p (okP_of hp)) ?_; conv=>whnf)
 refine cmpT hv ?_
 conv=>whnf
 refine dC (hasF p s hp (validE_res hv)) (fun _=>?_) (fun _=>?_) <;> (conv=>whnf)
 ·rename_i h; exact ⟨dec_t h, rfl⟩
 ·rename_i h; exact ⟨dec_f h, rfl⟩
theorem sizedR (p : Pro) (s : Siz) (hp : ¬ bigP p) : PSpec Tryz.prog 75 [.agg (encP p), .agg (encZ s)] (fun u=>u = .int .i64 (sizeE p s)):=by
 refine PSpec.intro tt_ok mx_ok Tryz.func75 rfl (by decide) ?_; (conv=>whnf)
 refine boxP rfl ?_
 conv=>whnf
 refine boxP rfl ?_
 conv=>whnf
 (refine oP (validateR p (okP_of hp)) ?_; conv=>whnf)
 refine cmpI ?_ ?_ <;> (intro h1; conv=>whnf)
 ·exact ⟨av_int (by rw [sizeE, if_pos h1]), rfl⟩
 have h1 : validE p = 0:=by omega
 refine dC (admissibleR p s hp (validE_res h1)) (fun _=>?_) (fun _=>?_) <;> (conv=>whnf)
 ·rename_i h2
  refine cmpI ?_ ?_ <;> (intro h3; conv=>whnf)
  ·exact ⟨av_int (by rw [sizeE, if_neg (by omega), if_neg (fun h=>h h2), if_pos h3]), rfl⟩
  ·exact ⟨av_int (by rw [sizeE, if_neg (by omega), if_neg (fun h=>h h2), if_neg h3]), rfl⟩
 ·rename_i h2
  exact ⟨av_int (by rw [sizeE, if_neg (by omega), if_pos h2]), rfl⟩
theorem sizeE_ok {p : Pro} {s : Siz} (h : sizeE p s = 0) : validE p = 0 ∧ admB p s ∧ 1 ≤ s.n ∧ s.n ≤ 8 ∧ 0 ≤ s.t ∧ s.t ≤ s.n ∧ 0 ≤ s.f ∧ s.f ≤ s.n:=by
 unfold sizeE at h
 split at h
 ·omega
 ·rename_i h1
  split at h
  ·omega
  ·rename_i h2
   split at h
   ·omega
   ·have h2 : admB p s:=Classical.byContradiction h2
    have:=h2.1
    unfold admA at this
    exact ⟨by omega, h2, by omega⟩
def modN (p : Pro) (s : Siz) : Int:=if p.fault = 3 then s.n - s.f else s.n
theorem modeledF (p : Pro) (s : Siz) (h : 0 ≤ s.n ∧ s.n ≤ 1048576 ∧ 0 ≤ s.f ∧ s.f ≤ 1048576) : PSpec Tryz.prog 119 [.agg (encP p), .agg (encZ s)] (fun u=>u = .int .i64 (modN p s)):=by
 refine PSpec.intro tt_ok mx_ok Tryz.func119 rfl (by decide) ?_; (conv=>whnf)
 refine boxP rfl ?_
 conv=>whnf
 refine boxP rfl ?_
 conv=>whnf
 repeat' ((first|refine nI ?_|refine aI ?_|refine arU trivial (by omega) ?_|refine arB trivial (by omega) ?_|refine dI ?_|refine dR ?_|refine dP ?_|refine boxP rfl ?_|refine pI _ rfl ?_|refine rowSetI _ rfl ?_|refine tI ?_|refine fI ?_|refine cmpI (fun _=>?_) (fun _=>?_)) <;> conv=>whnf)
 ·rename_i h3; exact ⟨av_int (by rw [modN, if_pos h3]), rfl⟩
 ·rename_i h3; exact ⟨av_int (by rw [modN, if_neg h3]), rfl⟩
theorem modeledR (p : Pro) (s : Siz) (h : 0 ≤ s.n ∧ s.n ≤ 1048576 ∧ 0 ≤ s.f ∧ s.f ≤ 1048576) : PSpec Tryz.prog 149 [.agg (encP p), .agg (encZ s)] (fun u=>u = .int .i64 (modN p s)):=by
 refine PSpec.intro tt_ok mx_ok Tryz.func149 rfl (by decide) ?_; (conv=>whnf)
 refine boxP rfl ?_
 conv=>whnf
 refine boxP rfl ?_
 conv=>whnf
 repeat' ((first|refine nI ?_|refine aI ?_|refine arU trivial (by omega) ?_|refine arB trivial (by omega) ?_|refine dI ?_|refine dR ?_|refine dP ?_|refine boxP rfl ?_|refine pI _ rfl ?_|refine rowSetI _ rfl ?_|refine tI ?_|refine fI ?_|refine cmpI (fun _=>?_) (fun _=>?_)) <;> conv=>whnf)
 ·rename_i h3; exact ⟨av_int (by rw [modN, if_pos h3]), rfl⟩
 ·rename_i h3; exact ⟨av_int (by rw [modN, if_neg h3]), rfl⟩
end Go.Proofs.YtnjggjhkfncnlaaGreatDoor
