import Derived.Test.YtnjggjhkfncnlaaGreatDoorM2
set_option linter.unusedVariables false
set_option linter.unusedSimpArgs false
namespace Go.Proofs.YtnjggjhkfncnlaaGreatDoor
set_option maxRecDepth 100000
set_option maxHeartbeats 8000000
theorem orL_z {a : Int} {l : List Int} (h : a = 0) : orL (a :: l) = orL l:=by rw [orL, if_neg (by omega)]
theorem orL_5 {a : Int} {l : List Int} (h : a = 5) : orL (a :: l) = 5:=by rw [orL, if_pos (by omega), h]
theorem orL_nz {a : Int} {l : List Int} (h : a ≠ 0) : orL (a :: l) = a:=by rw [orL, if_pos h]
theorem indE_in {i n : Int} (h : 0 ≤ i ∧ i ≤ n - 1) : indE i n = 0:=by rw [indE, if_neg (by omega)]
theorem indE_out {i n : Int} (h : ¬ (0 ≤ i ∧ i ≤ n - 1)) : indE i n = 5:=by rw [indE, if_pos (by omega)]
theorem setE_nil (n : Int) : setE [] n = 0:=by
 have h1 : inR [] n:=fun j hj=>by simp at hj
 have h2 : incr []:=fun j hj=>by simp at hj
 rw [setE, if_pos h1, if_pos h2]
theorem len0 {α : Type} {l : List α} (h : ¬ 0 < l.length) : l = []:=List.eq_nil_of_length_eq_zero (by omega)
def refL (p : Pro) (r : Rul) : List Int :=
 [indE r.src p.states.length, indE r.dst p.states.length, (if r.kind = 2 ∨ r.kind = 5 then indE r.pfrom p.states.length else 0), (if r.kind = 2 ∨ r.kind = 5 then indE r.pto p.states.length else 0), (if r.kind = 3 then respE r.response p.states.length else 0),
  guardsE p.messages.length r.guards, setE r.some_ p.states.length, setE r.forall_ p.states.length, valE p.values.length r.read, valE p.values.length r.write, setE r.send p.messages.length,
  setE r.left p.states.length, setE r.right p.states.length, setE r.parent p.states.length, (if r.kind = 4 then atE r.at_ p.topology else 0), (if r.kind = 5 then dirE r.direction p.topology else 0)]
theorem orL_app2 (l m : List Int) : orL (l ++ m) = if orL l ≠ 0 then orL l else orL m:=by
 induction l with
 | nil=>simp [orL]
 | cons a l ih =>
  simp only [List.cons_append, orL]
  by_cases h : a = 0
  ·simp [h, ih]
  ·simp [h]
theorem orL_flat (a b : Int) (l : List Int) : orL [a, b, orL l] = orL (a :: b :: l):=by
 simp only [orL]
 by_cases h : orL l = 0 <;> simp [h]
theorem refL_eq {p : Pro} {r : Rul} (hf : fitB r.kind p.topology) (hs : ¬ surB r p.topology) : orL (refL p r) = orL [indE r.src p.states.length, indE r.dst p.states.length, kindE p r]:=by
 unfold fitB at hf
 unfold surB at hs
 have hg0 : guardsE p.messages.length [] = 0:=by simp [guardsE, orL]
 have hv0 : valE p.values.length (-1) = 0:=by rw [valE, if_neg (by omega)]
 have hk : r.kind = 1 ∨ r.kind = 2 ∨ r.kind = 3 ∨ r.kind = 4 ∨ r.kind = 5:=by omega
 rcases hk with k | k | k | k | k
 ·have a1 : r.left = []:=len0 (by omega)
  have a2 : r.right = []:=len0 (by omega)
  have a3 : r.parent = []:=len0 (by omega)
  rw [kindE, if_pos k, orL_flat, refL]
  simp only [k, a1, a2, a3, setE_nil]
  simp [orL]
 ·have a1 : r.left = []:=len0 (by omega)
  have a2 : r.right = []:=len0 (by omega)
  have a3 : r.parent = []:=len0 (by omega)
  have a4 : r.guards = []:=len0 (by omega)
  have a5 : r.some_ = []:=len0 (by omega)
  have a6 : r.forall_ = []:=len0 (by omega)
  have a7 : r.send = []:=len0 (by omega)
  rw [kindE, if_neg (by omega), if_pos k, orL_flat, refL]
  simp only [k, a1, a2, a3, a4, a5, a6, a7, setE_nil, hg0]
  simp [orL]
 ·have a1 : r.left = []:=len0 (by omega)
  have a2 : r.right = []:=len0 (by omega)
  have a3 : r.parent = []:=len0 (by omega)
  have a4 : r.guards = []:=len0 (by omega)
  have a5 : r.some_ = []:=len0 (by omega)
  have a6 : r.forall_ = []:=len0 (by omega)
  have a7 : r.send = []:=len0 (by omega)
  rw [kindE, if_neg (by omega), if_neg (by omega), if_pos k, orL_flat, refL]
  simp only [k, a1, a2, a3, a4, a5, a6, a7, setE_nil, hg0]
  simp [orL]
 ·have a4 : r.guards = []:=len0 (by omega)
  have a5 : r.some_ = []:=len0 (by omega)
  have a6 : r.forall_ = []:=len0 (by omega)
  have a7 : r.send = []:=len0 (by omega)
  have a8 : r.read = -1:=by omega
  have a9 : r.write = -1:=by omega
  rw [kindE, if_neg (by omega), if_neg (by omega), if_neg (by omega), if_pos k, orL_flat, refL]
  simp only [k, a4, a5, a6, a7, a8, a9, setE_nil, hg0, hv0]
  simp [orL]
 ·have a1 : r.left = []:=len0 (by omega)
  have a2 : r.right = []:=len0 (by omega)
  have a3 : r.parent = []:=len0 (by omega)
  have a4 : r.guards = []:=len0 (by omega)
  have a5 : r.some_ = []:=len0 (by omega)
  have a6 : r.forall_ = []:=len0 (by omega)
  have a7 : r.send = []:=len0 (by omega)
  have a8 : r.read = -1:=by omega
  have a9 : r.write = -1:=by omega
  rw [kindE, if_neg (by omega), if_neg (by omega), if_neg (by omega), if_neg (by omega), orL_flat, refL]
  simp only [k, a1, a2, a3, a4, a5, a6, a7, a8, a9, setE_nil, hg0, hv0]
  simp [orL]
theorem taken_iff {rs : List Rul} {i : Nat} {r : Rul} (hi : i ≤ rs.length) : takenB rs i r ↔ ∃ j, j < i ∧ (rs.getD j rul0).name = r.name:=by
 have e : ∀ j, j < i → (rs.take i).getD j rul0 = rs.getD j rul0:=fun j hj=>by
  rw [gD, List.getElem?_take, if_pos hj, ← gD]
 have hl : (rs.take i).length = i:=by simp; omega
 unfold takenB
 rw [hl]
 constructor
 ·rintro ⟨j, h1, h2⟩; exact ⟨j, h1, by rw [← e j h1]; exact h2⟩
 ·rintro ⟨j, h1, h2⟩; exact ⟨j, h1, by rw [e j h1]; exact h2⟩
theorem gE_of {m : Int} {g : Thr} (h1 : 0 ≤ g.message ∧ g.message ≤ m - 1) (h2 : 1 ≤ g.coef ∧ g.coef ≤ 100) (h3 : bndB g.bound) : gE m g = 0:=by
 rw [gE, orL_z (indE_in h1), orL_z (by rw [coefE, if_neg (by omega)]), orL_z (by rw [bndE, if_pos h3])]; rfl
theorem val_cases (m v : Int) (hm : 0 ≤ m) : (v = -1 ∧ valE m v = 0) ∨ (v ≠ -1 ∧ (0 ≤ v ∧ v ≤ m - 1) ∧ valE m v = 0) ∨ (v ≠ -1 ∧ ¬ (0 ≤ v ∧ v ≤ m - 1) ∧ valE m v = 5):=by
 unfold valE
 by_cases h1 : v = -1
 ·left; exact ⟨h1, if_neg (by omega)⟩
 ·by_cases h2 : 0 ≤ v ∧ v ≤ m - 1
  ·right; left; exact ⟨h1, h2, if_neg (by omega)⟩
  ·right; right; exact ⟨h1, h2, if_pos (by omega)⟩
theorem ruleR (p : Pro) (i : Nat) (hp : okP p) (hi : i < p.rules.length) : PSpec Tryz.prog 208 [.agg (encP p), .int .i64 (i : Int)] (fun u=>u = .int .i64 (ruleE p i (p.rules.getD i rul0))):=by
 have hle:=okP_le hp
 have hbr:=okP_rule hp hi
 refine PSpec.intro tt_ok mx_ok Tryz.func208 rfl (by decide) ?_; (conv=>whnf)
 refine boxP rfl ?_
 conv=>whnf
 refine dP ?_
 conv=>whnf
 refine nI ?_
 rw [tN]
 generalize p.rules.getD i rul0 = r at hbr
 have hrl:=okR_le hbr
 conv=>whnf
 refine dC (validNameR r.name (by omega)) (fun _=>?_) (fun _=>?_) <;> (conv=>whnf)
 case refine_2=>rename_i hv; exact ⟨av_int (by rw [ruleE, if_pos (.inl hv)]), rfl⟩
 rename_i hv
 refine WPc.loopF tt_ok mx_ok (fun k : Nat=>k ≤ i ∧ ∀ j, j < k → (p.rules.getD j rul0).name ≠ r.name) (fun k=>[(7, .int .i64 (k : Int))]) (fun _=>[(5, .box 143 (encR r))]) (fun k=>i - k) 0 ⟨by omega, fun j hj=>by omega⟩ ?_; conv=>whnf
 refine ⟨sI, ?_⟩
 rintro k ⟨hk, ha⟩
 conv=>whnf
 refine cmpI ?_ ?_ <;> (intro h1; conv=>whnf)
 ·refine dI ?_
  conv=>whnf
  refine nI ?_
  rw [tN]
  conv=>whnf
  refine cmpI ?_ ?_ <;> (intro h2; conv=>whnf)
  ·exact ⟨av_int (by rw [ruleE, if_pos (.inr ((taken_iff (by omega)).2 ⟨k, by omega, h2⟩))]), rfl⟩
  ·repeat' ((first|refine nI ?_|refine aI ?_|refine arU trivial (by omega) ?_|refine arB trivial (by omega) ?_|refine dI ?_|refine dR ?_|refine dP ?_|refine boxP rfl ?_|refine pI _ rfl ?_|refine rowSetI _ rfl ?_|refine tI ?_|refine fI ?_|refine cmpI (fun _=>?_) (fun _=>?_)) <;> conv=>whnf)
   refine ⟨k + 1, sI, ⟨by omega, fun j hj=>?_⟩, by dsimp only; omega⟩
   by_cases e : j = k
   ·subst e; exact h2
   ·exact ha j (by omega)
 have hnt : ¬ takenB p.rules i r:=fun h=>by
  obtain ⟨j, h2, h3⟩:=(taken_iff (by omega)).1 h
  exact ha j (by omega) h3
 have e1 : ∀ x, (if ¬ validN r.name ∨ takenB p.rules i r then (2 : Int) else x) = x:=fun x=>if_neg (by rintro (h | h); exact h hv; exact hnt h)
 by_cases hf : fitB r.kind p.topology
 case neg =>
  have hE : ruleE p i r = 6:=by rw [ruleE, e1, if_pos (.inl hf)]
  unfold fitB at hf
  refine dC (withinR _ _ _) (fun _=>?_) (fun _=>?_) <;> (conv=>whnf)
  ·repeat' ((first|refine nI ?_|refine aI ?_|refine arU trivial (by omega) ?_|refine arB trivial (by omega) ?_|refine dI ?_|refine dR ?_|refine dP ?_|refine boxP rfl ?_|refine pI _ rfl ?_|refine rowSetI _ rfl ?_|refine tI ?_|refine fI ?_|refine cmpI (fun _=>?_) (fun _=>?_)) <;> conv=>whnf)
   all_goals exact ⟨av_int hE.symm, rfl⟩
  ·exact ⟨av_int hE.symm, rfl⟩
 by_cases hs : surB r p.topology
 case pos =>
  have hE : ruleE p i r = 6:=by rw [ruleE, e1, if_pos (.inr hs)]
  have ff:=hf
  unfold fitB at ff
  refine dC (withinR _ _ _) (fun _=>?_) (fun _=>?_) <;> (conv=>whnf)
  ·repeat' ((first|refine nI ?_|refine aI ?_|refine arU trivial (by omega) ?_|refine arB trivial (by omega) ?_|refine dI ?_|refine dR ?_|refine dP ?_|refine boxP rfl ?_|refine pI _ rfl ?_|refine rowSetI _ rfl ?_|refine tI ?_|refine fI ?_|refine cmpI (fun _=>?_) (fun _=>?_)) <;> conv=>whnf)
   all_goals
    refine dC (unusedR p r hf) (fun _=>?_) (fun _=>?_) <;> (conv=>whnf)
    ·exact ⟨av_int hE.symm, rfl⟩
    ·rename_i h; exact absurd hs h
  ·exact ⟨av_int hE.symm, rfl⟩
 have he : ruleE p i r = orL (refL p r):=by rw [ruleE, e1, if_neg (by rintro (h | h); exact h hf; exact hs h), refL_eq hf hs]
 have ff:=hf
 unfold fitB at ff
 have ss:=hs
 unfold surB at ss
 unfold refL at he
 have hk : r.kind = 1 ∨ r.kind = 2 ∨ r.kind = 3 ∨ r.kind = 4 ∨ r.kind = 5:=by omega
 rcases hk with k | k | k | k | k
 ·rw [if_neg (by omega), if_neg (by omega), if_neg (by omega), if_neg (by omega), if_neg (by omega)] at he
  refine dC (withinR _ _ _) (fun _=>?_) (fun _=>?_) <;> (conv=>whnf)
  case refine_2=>rename_i h; omega
  repeat' ((first|refine nI ?_|refine aI ?_|refine tI ?_|refine fI ?_|fail);conv=>whnf)
  refine dC (unusedR p r hf) (fun _=>?_) (fun _=>?_) <;> (conv=>whnf)
  ·rename_i h; exact absurd h hs
  repeat' ((first|refine nI ?_|refine aI ?_|refine tI ?_|refine fI ?_|fail);conv=>whnf)
  refine dC (withinR _ _ _) (fun _=>?_) (fun _=>?_) <;> (conv=>whnf)
  case refine_2=>rename_i h; exact ⟨av_int (by rw [he, orL_5 (indE_out h)]), rfl⟩
  rename_i h
  rw [orL_z (indE_in h)] at he
  clear h
  repeat' ((first|refine nI ?_|refine aI ?_|refine tI ?_|refine fI ?_|fail);conv=>whnf)
  refine dC (withinR _ _ _) (fun _=>?_) (fun _=>?_) <;> (conv=>whnf)
  case refine_2=>rename_i h; exact ⟨av_int (by rw [he, orL_5 (indE_out h)]), rfl⟩
  rename_i h
  rw [orL_z (indE_in h)] at he
  clear h
  rw [orL_z rfl, orL_z rfl, orL_z rfl] at he
  repeat' ((first|refine nI ?_|refine aI ?_|refine tI ?_|refine fI ?_|fail);conv=>whnf)
  refine WPc.loopF tt_ok mx_ok (fun j : Nat=>j ≤ r.guards.length ∧ orL (r.guards.map (gE p.messages.length)) = orL ((r.guards.drop j).map (gE p.messages.length))) (fun j=>[(10, .int .i64 (j : Int))]) (fun _=>[(5, .box 143 (encR r))]) (fun j=>r.guards.length - j) 0 ⟨by omega, rfl⟩ ?_; conv=>whnf
  refine ⟨sI, ?_⟩
  rintro j ⟨hj, hjo⟩
  conv=>whnf
  refine cmpI ?_ ?_ <;> (intro h1; conv=>whnf)
  ·refine nI ?_
   rw [tN]
   rw [orL_map_drop _ thr0 (by omega)] at hjo
   generalize r.guards.getD j thr0 = g at hjo
   conv=>whnf
   repeat' ((first|refine nI ?_|refine aI ?_|refine tI ?_|refine fI ?_|fail);conv=>whnf)
   have bad : ∀ x : Int, x ≠ 0 → gE p.messages.length g = x → ruleE p i r = x:=fun x hx hg=>by
    rw [hg, if_pos hx] at hjo
    have hge : guardsE p.messages.length r.guards = x:=by rw [guardsE, hjo, if_pos hx]
    rw [he, orL_nz (by rw [hge]; exact hx), hge]
   refine dC (withinR _ _ _) (fun _=>?_) (fun _=>?_) <;> (conv=>whnf)
   case refine_2=>rename_i h; exact ⟨av_int (bad 5 (by decide) (by rw [gE, orL_5 (indE_out h)])).symm, rfl⟩
   rename_i g1
   refine dC (withinR _ _ _) (fun _=>?_) (fun _=>?_) <;> (conv=>whnf)
   case refine_2=>rename_i h; exact ⟨av_int (bad 1 (by decide) (by rw [gE, orL_z (indE_in g1), coefE, if_pos (by omega), orL_nz (by decide)])).symm, rfl⟩
   rename_i g2
   refine dC (fewR g.bound) (fun _=>?_) (fun _=>?_) <;> (conv=>whnf)
   case refine_2=>rename_i h; exact ⟨av_int (bad 4 (by decide) (by rw [gE, orL_z (indE_in g1), coefE, if_neg (by omega), orL_z rfl, bndE, if_neg h, orL_nz (by decide)])).symm, rfl⟩
   rename_i g3
   rw [if_neg (by rw [gE_of g1 g2 g3]; simp)] at hjo
   repeat' ((first|refine nI ?_|refine aI ?_|refine tI ?_|refine fI ?_|fail);conv=>whnf)
   exact ⟨j + 1, sI, ⟨by omega, hjo⟩, by dsimp only; omega⟩
  obtain rfl : j = r.guards.length:=by omega
  rw [List.drop_length] at hjo
  have hjo : orL (r.guards.map (gE p.messages.length)) = 0:=hjo
  refine cmpI ?_ ?_ <;> (intro hx; conv=>whnf)
  ·exact ⟨av_int (by rw [he, guardsE, hjo, if_neg (by simp), if_pos (by omega), orL_nz (by decide)]), rfl⟩
  rw [guardsE, hjo, if_neg (by simp), if_neg (by omega), orL_z rfl] at he
  repeat' ((first|refine nI ?_|refine aI ?_|refine tI ?_|refine fI ?_|fail);conv=>whnf)
  (refine oP (setR r.some_ _ (by omega) (by omega)) ?_; conv=>whnf)
  refine cmpI ?_ ?_ <;> (intro hx; conv=>whnf)
  ·exact ⟨av_int (by rw [he, orL_nz hx]), rfl⟩
  rw [orL_z (by omega)] at he
  repeat' ((first|refine nI ?_|refine aI ?_|refine tI ?_|refine fI ?_|fail);conv=>whnf)
  (refine oP (setR r.forall_ _ (by omega) (by omega)) ?_; conv=>whnf)
  refine cmpI ?_ ?_ <;> (intro hx; conv=>whnf)
  ·exact ⟨av_int (by rw [he, orL_nz hx]), rfl⟩
  rw [orL_z (by omega)] at he
  rcases val_cases p.values.length r.read (by omega) with ⟨v1, v2⟩ | ⟨v1, v2, v3⟩ | ⟨v1, v2, v3⟩
  ·repeat' ((first|refine nI ?_|refine aI ?_|refine tI ?_|refine fI ?_|fail);conv=>whnf)
   rw [orL_z v2] at he
   rcases val_cases p.values.length r.write (by omega) with ⟨w1, w2⟩ | ⟨w1, w2, w3⟩ | ⟨w1, w2, w3⟩
   ·repeat' ((first|refine nI ?_|refine aI ?_|refine tI ?_|refine fI ?_|fail);conv=>whnf)
    rw [orL_z w2] at he
    repeat' ((first|refine nI ?_|refine aI ?_|refine tI ?_|refine fI ?_|fail);conv=>whnf)
    (refine oP (setR r.send _ (by omega) (by omega)) ?_; conv=>whnf)
    refine cmpI ?_ ?_ <;> (intro hx; conv=>whnf)
    ·exact ⟨av_int (by rw [he, orL_nz hx]), rfl⟩
    rw [orL_z (by omega)] at he
    repeat' ((first|refine nI ?_|refine aI ?_|refine tI ?_|refine fI ?_|fail);conv=>whnf)
    (refine oP (setR r.left _ (by omega) (by omega)) ?_; conv=>whnf)
    refine cmpI ?_ ?_ <;> (intro hx; conv=>whnf)
    ·exact ⟨av_int (by rw [he, orL_nz hx]), rfl⟩
    rw [orL_z (by omega)] at he
    repeat' ((first|refine nI ?_|refine aI ?_|refine tI ?_|refine fI ?_|fail);conv=>whnf)
    (refine oP (setR r.right _ (by omega) (by omega)) ?_; conv=>whnf)
    refine cmpI ?_ ?_ <;> (intro hx; conv=>whnf)
    ·exact ⟨av_int (by rw [he, orL_nz hx]), rfl⟩
    rw [orL_z (by omega)] at he
    repeat' ((first|refine nI ?_|refine aI ?_|refine tI ?_|refine fI ?_|fail);conv=>whnf)
    (refine oP (setR r.parent _ (by omega) (by omega)) ?_; conv=>whnf)
    refine cmpI ?_ ?_ <;> (intro hx; conv=>whnf)
    ·exact ⟨av_int (by rw [he, orL_nz hx]), rfl⟩
    rw [orL_z (by omega)] at he
    repeat' ((first|refine nI ?_|refine aI ?_|refine tI ?_|refine fI ?_|fail);conv=>whnf)
    exact ⟨av_int (by rw [he]; rfl), rfl⟩
   ·repeat' ((first|refine nI ?_|refine aI ?_|refine tI ?_|refine fI ?_|fail);conv=>whnf)
    refine dC (withinR _ _ _) (fun _=>?_) (fun _=>?_) <;> (conv=>whnf)
    case refine_2=>rename_i h; exact absurd w2 h
    rename_i h
    clear h
    rw [orL_z w3] at he
    repeat' ((first|refine nI ?_|refine aI ?_|refine tI ?_|refine fI ?_|fail);conv=>whnf)
    (refine oP (setR r.send _ (by omega) (by omega)) ?_; conv=>whnf)
    refine cmpI ?_ ?_ <;> (intro hx; conv=>whnf)
    ·exact ⟨av_int (by rw [he, orL_nz hx]), rfl⟩
    rw [orL_z (by omega)] at he
    repeat' ((first|refine nI ?_|refine aI ?_|refine tI ?_|refine fI ?_|fail);conv=>whnf)
    (refine oP (setR r.left _ (by omega) (by omega)) ?_; conv=>whnf)
    refine cmpI ?_ ?_ <;> (intro hx; conv=>whnf)
    ·exact ⟨av_int (by rw [he, orL_nz hx]), rfl⟩
    rw [orL_z (by omega)] at he
    repeat' ((first|refine nI ?_|refine aI ?_|refine tI ?_|refine fI ?_|fail);conv=>whnf)
    (refine oP (setR r.right _ (by omega) (by omega)) ?_; conv=>whnf)
    refine cmpI ?_ ?_ <;> (intro hx; conv=>whnf)
    ·exact ⟨av_int (by rw [he, orL_nz hx]), rfl⟩
    rw [orL_z (by omega)] at he
    repeat' ((first|refine nI ?_|refine aI ?_|refine tI ?_|refine fI ?_|fail);conv=>whnf)
    (refine oP (setR r.parent _ (by omega) (by omega)) ?_; conv=>whnf)
    refine cmpI ?_ ?_ <;> (intro hx; conv=>whnf)
    ·exact ⟨av_int (by rw [he, orL_nz hx]), rfl⟩
    rw [orL_z (by omega)] at he
    repeat' ((first|refine nI ?_|refine aI ?_|refine tI ?_|refine fI ?_|fail);conv=>whnf)
    exact ⟨av_int (by rw [he]; rfl), rfl⟩
   ·repeat' ((first|refine nI ?_|refine aI ?_|refine tI ?_|refine fI ?_|fail);conv=>whnf)
    refine dC (withinR _ _ _) (fun _=>?_) (fun _=>?_) <;> (conv=>whnf)
    ·rename_i h; exact absurd h w2
    ·exact ⟨av_int (by rw [he, orL_5 w3]), rfl⟩
  ·repeat' ((first|refine nI ?_|refine aI ?_|refine tI ?_|refine fI ?_|fail);conv=>whnf)
   refine dC (withinR _ _ _) (fun _=>?_) (fun _=>?_) <;> (conv=>whnf)
   case refine_2=>rename_i h; exact absurd v2 h
   rename_i h
   clear h
   rw [orL_z v3] at he
   rcases val_cases p.values.length r.write (by omega) with ⟨w1, w2⟩ | ⟨w1, w2, w3⟩ | ⟨w1, w2, w3⟩
   ·repeat' ((first|refine nI ?_|refine aI ?_|refine tI ?_|refine fI ?_|fail);conv=>whnf)
    rw [orL_z w2] at he
    repeat' ((first|refine nI ?_|refine aI ?_|refine tI ?_|refine fI ?_|fail);conv=>whnf)
    (refine oP (setR r.send _ (by omega) (by omega)) ?_; conv=>whnf)
    refine cmpI ?_ ?_ <;> (intro hx; conv=>whnf)
    ·exact ⟨av_int (by rw [he, orL_nz hx]), rfl⟩
    rw [orL_z (by omega)] at he
    repeat' ((first|refine nI ?_|refine aI ?_|refine tI ?_|refine fI ?_|fail);conv=>whnf)
    (refine oP (setR r.left _ (by omega) (by omega)) ?_; conv=>whnf)
    refine cmpI ?_ ?_ <;> (intro hx; conv=>whnf)
    ·exact ⟨av_int (by rw [he, orL_nz hx]), rfl⟩
    rw [orL_z (by omega)] at he
    repeat' ((first|refine nI ?_|refine aI ?_|refine tI ?_|refine fI ?_|fail);conv=>whnf)
    (refine oP (setR r.right _ (by omega) (by omega)) ?_; conv=>whnf)
    refine cmpI ?_ ?_ <;> (intro hx; conv=>whnf)
    ·exact ⟨av_int (by rw [he, orL_nz hx]), rfl⟩
    rw [orL_z (by omega)] at he
    repeat' ((first|refine nI ?_|refine aI ?_|refine tI ?_|refine fI ?_|fail);conv=>whnf)
    (refine oP (setR r.parent _ (by omega) (by omega)) ?_; conv=>whnf)
    refine cmpI ?_ ?_ <;> (intro hx; conv=>whnf)
    ·exact ⟨av_int (by rw [he, orL_nz hx]), rfl⟩
    rw [orL_z (by omega)] at he
    repeat' ((first|refine nI ?_|refine aI ?_|refine tI ?_|refine fI ?_|fail);conv=>whnf)
    exact ⟨av_int (by rw [he]; rfl), rfl⟩
   ·repeat' ((first|refine nI ?_|refine aI ?_|refine tI ?_|refine fI ?_|fail);conv=>whnf)
    refine dC (withinR _ _ _) (fun _=>?_) (fun _=>?_) <;> (conv=>whnf)
    case refine_2=>rename_i h; exact absurd w2 h
    rename_i h
    clear h
    rw [orL_z w3] at he
    repeat' ((first|refine nI ?_|refine aI ?_|refine tI ?_|refine fI ?_|fail);conv=>whnf)
    (refine oP (setR r.send _ (by omega) (by omega)) ?_; conv=>whnf)
    refine cmpI ?_ ?_ <;> (intro hx; conv=>whnf)
    ·exact ⟨av_int (by rw [he, orL_nz hx]), rfl⟩
    rw [orL_z (by omega)] at he
    repeat' ((first|refine nI ?_|refine aI ?_|refine tI ?_|refine fI ?_|fail);conv=>whnf)
    (refine oP (setR r.left _ (by omega) (by omega)) ?_; conv=>whnf)
    refine cmpI ?_ ?_ <;> (intro hx; conv=>whnf)
    ·exact ⟨av_int (by rw [he, orL_nz hx]), rfl⟩
    rw [orL_z (by omega)] at he
    repeat' ((first|refine nI ?_|refine aI ?_|refine tI ?_|refine fI ?_|fail);conv=>whnf)
    (refine oP (setR r.right _ (by omega) (by omega)) ?_; conv=>whnf)
    refine cmpI ?_ ?_ <;> (intro hx; conv=>whnf)
    ·exact ⟨av_int (by rw [he, orL_nz hx]), rfl⟩
    rw [orL_z (by omega)] at he
    repeat' ((first|refine nI ?_|refine aI ?_|refine tI ?_|refine fI ?_|fail);conv=>whnf)
    (refine oP (setR r.parent _ (by omega) (by omega)) ?_; conv=>whnf)
    refine cmpI ?_ ?_ <;> (intro hx; conv=>whnf)
    ·exact ⟨av_int (by rw [he, orL_nz hx]), rfl⟩
    rw [orL_z (by omega)] at he
    repeat' ((first|refine nI ?_|refine aI ?_|refine tI ?_|refine fI ?_|fail);conv=>whnf)
    exact ⟨av_int (by rw [he]; rfl), rfl⟩
   ·repeat' ((first|refine nI ?_|refine aI ?_|refine tI ?_|refine fI ?_|fail);conv=>whnf)
    refine dC (withinR _ _ _) (fun _=>?_) (fun _=>?_) <;> (conv=>whnf)
    ·rename_i h; exact absurd h w2
    ·exact ⟨av_int (by rw [he, orL_5 w3]), rfl⟩
  ·repeat' ((first|refine nI ?_|refine aI ?_|refine tI ?_|refine fI ?_|fail);conv=>whnf)
   refine dC (withinR _ _ _) (fun _=>?_) (fun _=>?_) <;> (conv=>whnf)
   ·rename_i h; exact absurd h v2
   ·exact ⟨av_int (by rw [he, orL_5 v3]), rfl⟩
 ·rw [if_pos (.inl k), if_pos (.inl k), if_neg (by omega), if_neg (by omega), if_neg (by omega)] at he
  refine dC (withinR _ _ _) (fun _=>?_) (fun _=>?_) <;> (conv=>whnf)
  case refine_2=>rename_i h; omega
  repeat' ((first|refine nI ?_|refine aI ?_|refine tI ?_|refine fI ?_|fail);conv=>whnf)
  refine dC (unusedR p r hf) (fun _=>?_) (fun _=>?_) <;> (conv=>whnf)
  ·rename_i h; exact absurd h hs
  repeat' ((first|refine nI ?_|refine aI ?_|refine tI ?_|refine fI ?_|fail);conv=>whnf)
  refine dC (withinR _ _ _) (fun _=>?_) (fun _=>?_) <;> (conv=>whnf)
  case refine_2=>rename_i h; exact ⟨av_int (by rw [he, orL_5 (indE_out h)]), rfl⟩
  rename_i h
  rw [orL_z (indE_in h)] at he
  clear h
  repeat' ((first|refine nI ?_|refine aI ?_|refine tI ?_|refine fI ?_|fail);conv=>whnf)
  refine dC (withinR _ _ _) (fun _=>?_) (fun _=>?_) <;> (conv=>whnf)
  case refine_2=>rename_i h; exact ⟨av_int (by rw [he, orL_5 (indE_out h)]), rfl⟩
  rename_i h
  rw [orL_z (indE_in h)] at he
  clear h
  repeat' ((first|refine nI ?_|refine aI ?_|refine tI ?_|refine fI ?_|fail);conv=>whnf)
  refine dC (withinR _ _ _) (fun _=>?_) (fun _=>?_) <;> (conv=>whnf)
  case refine_2=>rename_i h; exact ⟨av_int (by rw [he, orL_5 (indE_out h)]), rfl⟩
  rename_i h
  rw [orL_z (indE_in h)] at he
  clear h
  repeat' ((first|refine nI ?_|refine aI ?_|refine tI ?_|refine fI ?_|fail);conv=>whnf)
  refine dC (withinR _ _ _) (fun _=>?_) (fun _=>?_) <;> (conv=>whnf)
  case refine_2=>rename_i h; exact ⟨av_int (by rw [he, orL_5 (indE_out h)]), rfl⟩
  rename_i h
  rw [orL_z (indE_in h)] at he
  clear h
  rw [orL_z rfl] at he
  repeat' ((first|refine nI ?_|refine aI ?_|refine tI ?_|refine fI ?_|fail);conv=>whnf)
  refine WPc.loopF tt_ok mx_ok (fun j : Nat=>j ≤ r.guards.length ∧ orL (r.guards.map (gE p.messages.length)) = orL ((r.guards.drop j).map (gE p.messages.length))) (fun j=>[(10, .int .i64 (j : Int))]) (fun _=>[(5, .box 143 (encR r))]) (fun j=>r.guards.length - j) 0 ⟨by omega, rfl⟩ ?_; conv=>whnf
  refine ⟨sI, ?_⟩
  rintro j ⟨hj, hjo⟩
  conv=>whnf
  refine cmpI ?_ ?_ <;> (intro h1; conv=>whnf)
  ·refine nI ?_
   rw [tN]
   rw [orL_map_drop _ thr0 (by omega)] at hjo
   generalize r.guards.getD j thr0 = g at hjo
   conv=>whnf
   repeat' ((first|refine nI ?_|refine aI ?_|refine tI ?_|refine fI ?_|fail);conv=>whnf)
   have bad : ∀ x : Int, x ≠ 0 → gE p.messages.length g = x → ruleE p i r = x:=fun x hx hg=>by
    rw [hg, if_pos hx] at hjo
    have hge : guardsE p.messages.length r.guards = x:=by rw [guardsE, hjo, if_pos hx]
    rw [he, orL_nz (by rw [hge]; exact hx), hge]
   refine dC (withinR _ _ _) (fun _=>?_) (fun _=>?_) <;> (conv=>whnf)
   case refine_2=>rename_i h; exact ⟨av_int (bad 5 (by decide) (by rw [gE, orL_5 (indE_out h)])).symm, rfl⟩
   rename_i g1
   refine dC (withinR _ _ _) (fun _=>?_) (fun _=>?_) <;> (conv=>whnf)
   case refine_2=>rename_i h; exact ⟨av_int (bad 1 (by decide) (by rw [gE, orL_z (indE_in g1), coefE, if_pos (by omega), orL_nz (by decide)])).symm, rfl⟩
   rename_i g2
   refine dC (fewR g.bound) (fun _=>?_) (fun _=>?_) <;> (conv=>whnf)
   case refine_2=>rename_i h; exact ⟨av_int (bad 4 (by decide) (by rw [gE, orL_z (indE_in g1), coefE, if_neg (by omega), orL_z rfl, bndE, if_neg h, orL_nz (by decide)])).symm, rfl⟩
   rename_i g3
   rw [if_neg (by rw [gE_of g1 g2 g3]; simp)] at hjo
   repeat' ((first|refine nI ?_|refine aI ?_|refine tI ?_|refine fI ?_|fail);conv=>whnf)
   exact ⟨j + 1, sI, ⟨by omega, hjo⟩, by dsimp only; omega⟩
  obtain rfl : j = r.guards.length:=by omega
  rw [List.drop_length] at hjo
  have hjo : orL (r.guards.map (gE p.messages.length)) = 0:=hjo
  refine cmpI ?_ ?_ <;> (intro hx; conv=>whnf)
  ·exact ⟨av_int (by rw [he, guardsE, hjo, if_neg (by simp), if_pos (by omega), orL_nz (by decide)]), rfl⟩
  rw [guardsE, hjo, if_neg (by simp), if_neg (by omega), orL_z rfl] at he
  repeat' ((first|refine nI ?_|refine aI ?_|refine tI ?_|refine fI ?_|fail);conv=>whnf)
  (refine oP (setR r.some_ _ (by omega) (by omega)) ?_; conv=>whnf)
  refine cmpI ?_ ?_ <;> (intro hx; conv=>whnf)
  ·exact ⟨av_int (by rw [he, orL_nz hx]), rfl⟩
  rw [orL_z (by omega)] at he
  repeat' ((first|refine nI ?_|refine aI ?_|refine tI ?_|refine fI ?_|fail);conv=>whnf)
  (refine oP (setR r.forall_ _ (by omega) (by omega)) ?_; conv=>whnf)
  refine cmpI ?_ ?_ <;> (intro hx; conv=>whnf)
  ·exact ⟨av_int (by rw [he, orL_nz hx]), rfl⟩
  rw [orL_z (by omega)] at he
  rcases val_cases p.values.length r.read (by omega) with ⟨v1, v2⟩ | ⟨v1, v2, v3⟩ | ⟨v1, v2, v3⟩
  ·repeat' ((first|refine nI ?_|refine aI ?_|refine tI ?_|refine fI ?_|fail);conv=>whnf)
   rw [orL_z v2] at he
   rcases val_cases p.values.length r.write (by omega) with ⟨w1, w2⟩ | ⟨w1, w2, w3⟩ | ⟨w1, w2, w3⟩
   ·repeat' ((first|refine nI ?_|refine aI ?_|refine tI ?_|refine fI ?_|fail);conv=>whnf)
    rw [orL_z w2] at he
    repeat' ((first|refine nI ?_|refine aI ?_|refine tI ?_|refine fI ?_|fail);conv=>whnf)
    (refine oP (setR r.send _ (by omega) (by omega)) ?_; conv=>whnf)
    refine cmpI ?_ ?_ <;> (intro hx; conv=>whnf)
    ·exact ⟨av_int (by rw [he, orL_nz hx]), rfl⟩
    rw [orL_z (by omega)] at he
    repeat' ((first|refine nI ?_|refine aI ?_|refine tI ?_|refine fI ?_|fail);conv=>whnf)
    (refine oP (setR r.left _ (by omega) (by omega)) ?_; conv=>whnf)
    refine cmpI ?_ ?_ <;> (intro hx; conv=>whnf)
    ·exact ⟨av_int (by rw [he, orL_nz hx]), rfl⟩
    rw [orL_z (by omega)] at he
    repeat' ((first|refine nI ?_|refine aI ?_|refine tI ?_|refine fI ?_|fail);conv=>whnf)
    (refine oP (setR r.right _ (by omega) (by omega)) ?_; conv=>whnf)
    refine cmpI ?_ ?_ <;> (intro hx; conv=>whnf)
    ·exact ⟨av_int (by rw [he, orL_nz hx]), rfl⟩
    rw [orL_z (by omega)] at he
    repeat' ((first|refine nI ?_|refine aI ?_|refine tI ?_|refine fI ?_|fail);conv=>whnf)
    (refine oP (setR r.parent _ (by omega) (by omega)) ?_; conv=>whnf)
    refine cmpI ?_ ?_ <;> (intro hx; conv=>whnf)
    ·exact ⟨av_int (by rw [he, orL_nz hx]), rfl⟩
    rw [orL_z (by omega)] at he
    repeat' ((first|refine nI ?_|refine aI ?_|refine tI ?_|refine fI ?_|fail);conv=>whnf)
    exact ⟨av_int (by rw [he]; rfl), rfl⟩
   ·repeat' ((first|refine nI ?_|refine aI ?_|refine tI ?_|refine fI ?_|fail);conv=>whnf)
    refine dC (withinR _ _ _) (fun _=>?_) (fun _=>?_) <;> (conv=>whnf)
    case refine_2=>rename_i h; exact absurd w2 h
    rename_i h
    clear h
    rw [orL_z w3] at he
    repeat' ((first|refine nI ?_|refine aI ?_|refine tI ?_|refine fI ?_|fail);conv=>whnf)
    (refine oP (setR r.send _ (by omega) (by omega)) ?_; conv=>whnf)
    refine cmpI ?_ ?_ <;> (intro hx; conv=>whnf)
    ·exact ⟨av_int (by rw [he, orL_nz hx]), rfl⟩
    rw [orL_z (by omega)] at he
    repeat' ((first|refine nI ?_|refine aI ?_|refine tI ?_|refine fI ?_|fail);conv=>whnf)
    (refine oP (setR r.left _ (by omega) (by omega)) ?_; conv=>whnf)
    refine cmpI ?_ ?_ <;> (intro hx; conv=>whnf)
    ·exact ⟨av_int (by rw [he, orL_nz hx]), rfl⟩
    rw [orL_z (by omega)] at he
    repeat' ((first|refine nI ?_|refine aI ?_|refine tI ?_|refine fI ?_|fail);conv=>whnf)
    (refine oP (setR r.right _ (by omega) (by omega)) ?_; conv=>whnf)
    refine cmpI ?_ ?_ <;> (intro hx; conv=>whnf)
    ·exact ⟨av_int (by rw [he, orL_nz hx]), rfl⟩
    rw [orL_z (by omega)] at he
    repeat' ((first|refine nI ?_|refine aI ?_|refine tI ?_|refine fI ?_|fail);conv=>whnf)
    (refine oP (setR r.parent _ (by omega) (by omega)) ?_; conv=>whnf)
    refine cmpI ?_ ?_ <;> (intro hx; conv=>whnf)
    ·exact ⟨av_int (by rw [he, orL_nz hx]), rfl⟩
    rw [orL_z (by omega)] at he
    repeat' ((first|refine nI ?_|refine aI ?_|refine tI ?_|refine fI ?_|fail);conv=>whnf)
    exact ⟨av_int (by rw [he]; rfl), rfl⟩
   ·repeat' ((first|refine nI ?_|refine aI ?_|refine tI ?_|refine fI ?_|fail);conv=>whnf)
    refine dC (withinR _ _ _) (fun _=>?_) (fun _=>?_) <;> (conv=>whnf)
    ·rename_i h; exact absurd h w2
    ·exact ⟨av_int (by rw [he, orL_5 w3]), rfl⟩
  ·repeat' ((first|refine nI ?_|refine aI ?_|refine tI ?_|refine fI ?_|fail);conv=>whnf)
   refine dC (withinR _ _ _) (fun _=>?_) (fun _=>?_) <;> (conv=>whnf)
   case refine_2=>rename_i h; exact absurd v2 h
   rename_i h
   clear h
   rw [orL_z v3] at he
   rcases val_cases p.values.length r.write (by omega) with ⟨w1, w2⟩ | ⟨w1, w2, w3⟩ | ⟨w1, w2, w3⟩
   ·repeat' ((first|refine nI ?_|refine aI ?_|refine tI ?_|refine fI ?_|fail);conv=>whnf)
    rw [orL_z w2] at he
    repeat' ((first|refine nI ?_|refine aI ?_|refine tI ?_|refine fI ?_|fail);conv=>whnf)
    (refine oP (setR r.send _ (by omega) (by omega)) ?_; conv=>whnf)
    refine cmpI ?_ ?_ <;> (intro hx; conv=>whnf)
    ·exact ⟨av_int (by rw [he, orL_nz hx]), rfl⟩
    rw [orL_z (by omega)] at he
    repeat' ((first|refine nI ?_|refine aI ?_|refine tI ?_|refine fI ?_|fail);conv=>whnf)
    (refine oP (setR r.left _ (by omega) (by omega)) ?_; conv=>whnf)
    refine cmpI ?_ ?_ <;> (intro hx; conv=>whnf)
    ·exact ⟨av_int (by rw [he, orL_nz hx]), rfl⟩
    rw [orL_z (by omega)] at he
    repeat' ((first|refine nI ?_|refine aI ?_|refine tI ?_|refine fI ?_|fail);conv=>whnf)
    (refine oP (setR r.right _ (by omega) (by omega)) ?_; conv=>whnf)
    refine cmpI ?_ ?_ <;> (intro hx; conv=>whnf)
    ·exact ⟨av_int (by rw [he, orL_nz hx]), rfl⟩
    rw [orL_z (by omega)] at he
    repeat' ((first|refine nI ?_|refine aI ?_|refine tI ?_|refine fI ?_|fail);conv=>whnf)
    (refine oP (setR r.parent _ (by omega) (by omega)) ?_; conv=>whnf)
    refine cmpI ?_ ?_ <;> (intro hx; conv=>whnf)
    ·exact ⟨av_int (by rw [he, orL_nz hx]), rfl⟩
    rw [orL_z (by omega)] at he
    repeat' ((first|refine nI ?_|refine aI ?_|refine tI ?_|refine fI ?_|fail);conv=>whnf)
    exact ⟨av_int (by rw [he]; rfl), rfl⟩
   ·repeat' ((first|refine nI ?_|refine aI ?_|refine tI ?_|refine fI ?_|fail);conv=>whnf)
    refine dC (withinR _ _ _) (fun _=>?_) (fun _=>?_) <;> (conv=>whnf)
    case refine_2=>rename_i h; exact absurd w2 h
    rename_i h
    clear h
    rw [orL_z w3] at he
    repeat' ((first|refine nI ?_|refine aI ?_|refine tI ?_|refine fI ?_|fail);conv=>whnf)
    (refine oP (setR r.send _ (by omega) (by omega)) ?_; conv=>whnf)
    refine cmpI ?_ ?_ <;> (intro hx; conv=>whnf)
    ·exact ⟨av_int (by rw [he, orL_nz hx]), rfl⟩
    rw [orL_z (by omega)] at he
    repeat' ((first|refine nI ?_|refine aI ?_|refine tI ?_|refine fI ?_|fail);conv=>whnf)
    (refine oP (setR r.left _ (by omega) (by omega)) ?_; conv=>whnf)
    refine cmpI ?_ ?_ <;> (intro hx; conv=>whnf)
    ·exact ⟨av_int (by rw [he, orL_nz hx]), rfl⟩
    rw [orL_z (by omega)] at he
    repeat' ((first|refine nI ?_|refine aI ?_|refine tI ?_|refine fI ?_|fail);conv=>whnf)
    (refine oP (setR r.right _ (by omega) (by omega)) ?_; conv=>whnf)
    refine cmpI ?_ ?_ <;> (intro hx; conv=>whnf)
    ·exact ⟨av_int (by rw [he, orL_nz hx]), rfl⟩
    rw [orL_z (by omega)] at he
    repeat' ((first|refine nI ?_|refine aI ?_|refine tI ?_|refine fI ?_|fail);conv=>whnf)
    (refine oP (setR r.parent _ (by omega) (by omega)) ?_; conv=>whnf)
    refine cmpI ?_ ?_ <;> (intro hx; conv=>whnf)
    ·exact ⟨av_int (by rw [he, orL_nz hx]), rfl⟩
    rw [orL_z (by omega)] at he
    repeat' ((first|refine nI ?_|refine aI ?_|refine tI ?_|refine fI ?_|fail);conv=>whnf)
    exact ⟨av_int (by rw [he]; rfl), rfl⟩
   ·repeat' ((first|refine nI ?_|refine aI ?_|refine tI ?_|refine fI ?_|fail);conv=>whnf)
    refine dC (withinR _ _ _) (fun _=>?_) (fun _=>?_) <;> (conv=>whnf)
    ·rename_i h; exact absurd h w2
    ·exact ⟨av_int (by rw [he, orL_5 w3]), rfl⟩
  ·repeat' ((first|refine nI ?_|refine aI ?_|refine tI ?_|refine fI ?_|fail);conv=>whnf)
   refine dC (withinR _ _ _) (fun _=>?_) (fun _=>?_) <;> (conv=>whnf)
   ·rename_i h; exact absurd h v2
   ·exact ⟨av_int (by rw [he, orL_5 v3]), rfl⟩
 ·rw [if_neg (by omega), if_neg (by omega), if_pos k, if_neg (by omega), if_neg (by omega)] at he
  refine dC (withinR _ _ _) (fun _=>?_) (fun _=>?_) <;> (conv=>whnf)
  case refine_2=>rename_i h; omega
  repeat' ((first|refine nI ?_|refine aI ?_|refine tI ?_|refine fI ?_|fail);conv=>whnf)
  refine dC (unusedR p r hf) (fun _=>?_) (fun _=>?_) <;> (conv=>whnf)
  ·rename_i h; exact absurd h hs
  repeat' ((first|refine nI ?_|refine aI ?_|refine tI ?_|refine fI ?_|fail);conv=>whnf)
  refine dC (withinR _ _ _) (fun _=>?_) (fun _=>?_) <;> (conv=>whnf)
  case refine_2=>rename_i h; exact ⟨av_int (by rw [he, orL_5 (indE_out h)]), rfl⟩
  rename_i h
  rw [orL_z (indE_in h)] at he
  clear h
  repeat' ((first|refine nI ?_|refine aI ?_|refine tI ?_|refine fI ?_|fail);conv=>whnf)
  refine dC (withinR _ _ _) (fun _=>?_) (fun _=>?_) <;> (conv=>whnf)
  case refine_2=>rename_i h; exact ⟨av_int (by rw [he, orL_5 (indE_out h)]), rfl⟩
  rename_i h
  rw [orL_z (indE_in h)] at he
  clear h
  rw [orL_z rfl, orL_z rfl] at he
  refine cmpT k ?_
  conv=>whnf
  refine cmpI ?_ ?_ <;> (intro hx; conv=>whnf)
  ·exact ⟨av_int (by rw [he, respE, if_pos hx, orL_nz (by decide)]), rfl⟩
  refine WPc.loopF tt_ok mx_ok (fun j : Nat=>j ≤ r.response.length ∧ ∀ q, q < j → 0 ≤ r.response.getD q 0 ∧ r.response.getD q 0 < p.states.length) (fun j=>[(9, .int .i64 (j : Int))]) (fun _=>[(5, .box 143 (encR r))]) (fun j=>r.response.length - j) 0 ⟨by omega, fun q hq=>by omega⟩ ?_; conv=>whnf
  refine ⟨sI, ?_⟩
  rintro j ⟨hj, hja⟩
  conv=>whnf
  refine cmpI ?_ ?_ <;> (intro h1; conv=>whnf)
  ·refine nI ?_
   rw [tN]
   conv=>whnf
   repeat' ((first|refine nI ?_|refine aI ?_|refine tI ?_|refine fI ?_|fail);conv=>whnf)
   refine dC (withinR _ _ _) (fun _=>?_) (fun _=>?_) <;> (conv=>whnf)
   ·rename_i h
    repeat' ((first|refine nI ?_|refine aI ?_|refine tI ?_|refine fI ?_|fail);conv=>whnf)
    refine ⟨j + 1, sI, ⟨by omega, fun q hq=>?_⟩, by dsimp only; omega⟩
    by_cases e : q = j
    ·subst e; omega
    ·exact hja q (by omega)
   ·rename_i h
    refine ⟨av_int ?_, rfl⟩
    rw [he, respE, if_neg hx, if_neg (fun hh : inR r.response p.states.length=>by have:=hh j (by omega); omega), orL_nz (by decide)]
  rw [respE, if_neg hx, if_pos (show inR r.response p.states.length from fun q hq=>hja q (by omega)), orL_z rfl] at he
  repeat' ((first|refine nI ?_|refine aI ?_|refine tI ?_|refine fI ?_|fail);conv=>whnf)
  refine WPc.loopF tt_ok mx_ok (fun j : Nat=>j ≤ r.guards.length ∧ orL (r.guards.map (gE p.messages.length)) = orL ((r.guards.drop j).map (gE p.messages.length))) (fun j=>[(10, .int .i64 (j : Int))]) (fun _=>[(5, .box 143 (encR r))]) (fun j=>r.guards.length - j) 0 ⟨by omega, rfl⟩ ?_; conv=>whnf
  refine ⟨sI, ?_⟩
  rintro j ⟨hj, hjo⟩
  conv=>whnf
  refine cmpI ?_ ?_ <;> (intro h1; conv=>whnf)
  ·refine nI ?_
   rw [tN]
   rw [orL_map_drop _ thr0 (by omega)] at hjo
   generalize r.guards.getD j thr0 = g at hjo
   conv=>whnf
   repeat' ((first|refine nI ?_|refine aI ?_|refine tI ?_|refine fI ?_|fail);conv=>whnf)
   have bad : ∀ x : Int, x ≠ 0 → gE p.messages.length g = x → ruleE p i r = x:=fun x hx hg=>by
    rw [hg, if_pos hx] at hjo
    have hge : guardsE p.messages.length r.guards = x:=by rw [guardsE, hjo, if_pos hx]
    rw [he, orL_nz (by rw [hge]; exact hx), hge]
   refine dC (withinR _ _ _) (fun _=>?_) (fun _=>?_) <;> (conv=>whnf)
   case refine_2=>rename_i h; exact ⟨av_int (bad 5 (by decide) (by rw [gE, orL_5 (indE_out h)])).symm, rfl⟩
   rename_i g1
   refine dC (withinR _ _ _) (fun _=>?_) (fun _=>?_) <;> (conv=>whnf)
   case refine_2=>rename_i h; exact ⟨av_int (bad 1 (by decide) (by rw [gE, orL_z (indE_in g1), coefE, if_pos (by omega), orL_nz (by decide)])).symm, rfl⟩
   rename_i g2
   refine dC (fewR g.bound) (fun _=>?_) (fun _=>?_) <;> (conv=>whnf)
   case refine_2=>rename_i h; exact ⟨av_int (bad 4 (by decide) (by rw [gE, orL_z (indE_in g1), coefE, if_neg (by omega), orL_z rfl, bndE, if_neg h, orL_nz (by decide)])).symm, rfl⟩
   rename_i g3
   rw [if_neg (by rw [gE_of g1 g2 g3]; simp)] at hjo
   repeat' ((first|refine nI ?_|refine aI ?_|refine tI ?_|refine fI ?_|fail);conv=>whnf)
   exact ⟨j + 1, sI, ⟨by omega, hjo⟩, by dsimp only; omega⟩
  obtain rfl : j = r.guards.length:=by omega
  rw [List.drop_length] at hjo
  have hjo : orL (r.guards.map (gE p.messages.length)) = 0:=hjo
  refine cmpI ?_ ?_ <;> (intro hx; conv=>whnf)
  ·exact ⟨av_int (by rw [he, guardsE, hjo, if_neg (by simp), if_pos (by omega), orL_nz (by decide)]), rfl⟩
  rw [guardsE, hjo, if_neg (by simp), if_neg (by omega), orL_z rfl] at he
  repeat' ((first|refine nI ?_|refine aI ?_|refine tI ?_|refine fI ?_|fail);conv=>whnf)
  (refine oP (setR r.some_ _ (by omega) (by omega)) ?_; conv=>whnf)
  refine cmpI ?_ ?_ <;> (intro hx; conv=>whnf)
  ·exact ⟨av_int (by rw [he, orL_nz hx]), rfl⟩
  rw [orL_z (by omega)] at he
  repeat' ((first|refine nI ?_|refine aI ?_|refine tI ?_|refine fI ?_|fail);conv=>whnf)
  (refine oP (setR r.forall_ _ (by omega) (by omega)) ?_; conv=>whnf)
  refine cmpI ?_ ?_ <;> (intro hx; conv=>whnf)
  ·exact ⟨av_int (by rw [he, orL_nz hx]), rfl⟩
  rw [orL_z (by omega)] at he
  rcases val_cases p.values.length r.read (by omega) with ⟨v1, v2⟩ | ⟨v1, v2, v3⟩ | ⟨v1, v2, v3⟩
  ·repeat' ((first|refine nI ?_|refine aI ?_|refine tI ?_|refine fI ?_|fail);conv=>whnf)
   rw [orL_z v2] at he
   rcases val_cases p.values.length r.write (by omega) with ⟨w1, w2⟩ | ⟨w1, w2, w3⟩ | ⟨w1, w2, w3⟩
   ·repeat' ((first|refine nI ?_|refine aI ?_|refine tI ?_|refine fI ?_|fail);conv=>whnf)
    rw [orL_z w2] at he
    repeat' ((first|refine nI ?_|refine aI ?_|refine tI ?_|refine fI ?_|fail);conv=>whnf)
    (refine oP (setR r.send _ (by omega) (by omega)) ?_; conv=>whnf)
    refine cmpI ?_ ?_ <;> (intro hx; conv=>whnf)
    ·exact ⟨av_int (by rw [he, orL_nz hx]), rfl⟩
    rw [orL_z (by omega)] at he
    repeat' ((first|refine nI ?_|refine aI ?_|refine tI ?_|refine fI ?_|fail);conv=>whnf)
    (refine oP (setR r.left _ (by omega) (by omega)) ?_; conv=>whnf)
    refine cmpI ?_ ?_ <;> (intro hx; conv=>whnf)
    ·exact ⟨av_int (by rw [he, orL_nz hx]), rfl⟩
    rw [orL_z (by omega)] at he
    repeat' ((first|refine nI ?_|refine aI ?_|refine tI ?_|refine fI ?_|fail);conv=>whnf)
    (refine oP (setR r.right _ (by omega) (by omega)) ?_; conv=>whnf)
    refine cmpI ?_ ?_ <;> (intro hx; conv=>whnf)
    ·exact ⟨av_int (by rw [he, orL_nz hx]), rfl⟩
    rw [orL_z (by omega)] at he
    repeat' ((first|refine nI ?_|refine aI ?_|refine tI ?_|refine fI ?_|fail);conv=>whnf)
    (refine oP (setR r.parent _ (by omega) (by omega)) ?_; conv=>whnf)
    refine cmpI ?_ ?_ <;> (intro hx; conv=>whnf)
    ·exact ⟨av_int (by rw [he, orL_nz hx]), rfl⟩
    rw [orL_z (by omega)] at he
    repeat' ((first|refine nI ?_|refine aI ?_|refine tI ?_|refine fI ?_|fail);conv=>whnf)
    exact ⟨av_int (by rw [he]; rfl), rfl⟩
   ·repeat' ((first|refine nI ?_|refine aI ?_|refine tI ?_|refine fI ?_|fail);conv=>whnf)
    refine dC (withinR _ _ _) (fun _=>?_) (fun _=>?_) <;> (conv=>whnf)
    case refine_2=>rename_i h; exact absurd w2 h
    rename_i h
    clear h
    rw [orL_z w3] at he
    repeat' ((first|refine nI ?_|refine aI ?_|refine tI ?_|refine fI ?_|fail);conv=>whnf)
    (refine oP (setR r.send _ (by omega) (by omega)) ?_; conv=>whnf)
    refine cmpI ?_ ?_ <;> (intro hx; conv=>whnf)
    ·exact ⟨av_int (by rw [he, orL_nz hx]), rfl⟩
    rw [orL_z (by omega)] at he
    repeat' ((first|refine nI ?_|refine aI ?_|refine tI ?_|refine fI ?_|fail);conv=>whnf)
    (refine oP (setR r.left _ (by omega) (by omega)) ?_; conv=>whnf)
    refine cmpI ?_ ?_ <;> (intro hx; conv=>whnf)
    ·exact ⟨av_int (by rw [he, orL_nz hx]), rfl⟩
    rw [orL_z (by omega)] at he
    repeat' ((first|refine nI ?_|refine aI ?_|refine tI ?_|refine fI ?_|fail);conv=>whnf)
    (refine oP (setR r.right _ (by omega) (by omega)) ?_; conv=>whnf)
    refine cmpI ?_ ?_ <;> (intro hx; conv=>whnf)
    ·exact ⟨av_int (by rw [he, orL_nz hx]), rfl⟩
    rw [orL_z (by omega)] at he
    repeat' ((first|refine nI ?_|refine aI ?_|refine tI ?_|refine fI ?_|fail);conv=>whnf)
    (refine oP (setR r.parent _ (by omega) (by omega)) ?_; conv=>whnf)
    refine cmpI ?_ ?_ <;> (intro hx; conv=>whnf)
    ·exact ⟨av_int (by rw [he, orL_nz hx]), rfl⟩
    rw [orL_z (by omega)] at he
    repeat' ((first|refine nI ?_|refine aI ?_|refine tI ?_|refine fI ?_|fail);conv=>whnf)
    exact ⟨av_int (by rw [he]; rfl), rfl⟩
   ·repeat' ((first|refine nI ?_|refine aI ?_|refine tI ?_|refine fI ?_|fail);conv=>whnf)
    refine dC (withinR _ _ _) (fun _=>?_) (fun _=>?_) <;> (conv=>whnf)
    ·rename_i h; exact absurd h w2
    ·exact ⟨av_int (by rw [he, orL_5 w3]), rfl⟩
  ·repeat' ((first|refine nI ?_|refine aI ?_|refine tI ?_|refine fI ?_|fail);conv=>whnf)
   refine dC (withinR _ _ _) (fun _=>?_) (fun _=>?_) <;> (conv=>whnf)
   case refine_2=>rename_i h; exact absurd v2 h
   rename_i h
   clear h
   rw [orL_z v3] at he
   rcases val_cases p.values.length r.write (by omega) with ⟨w1, w2⟩ | ⟨w1, w2, w3⟩ | ⟨w1, w2, w3⟩
   ·repeat' ((first|refine nI ?_|refine aI ?_|refine tI ?_|refine fI ?_|fail);conv=>whnf)
    rw [orL_z w2] at he
    repeat' ((first|refine nI ?_|refine aI ?_|refine tI ?_|refine fI ?_|fail);conv=>whnf)
    (refine oP (setR r.send _ (by omega) (by omega)) ?_; conv=>whnf)
    refine cmpI ?_ ?_ <;> (intro hx; conv=>whnf)
    ·exact ⟨av_int (by rw [he, orL_nz hx]), rfl⟩
    rw [orL_z (by omega)] at he
    repeat' ((first|refine nI ?_|refine aI ?_|refine tI ?_|refine fI ?_|fail);conv=>whnf)
    (refine oP (setR r.left _ (by omega) (by omega)) ?_; conv=>whnf)
    refine cmpI ?_ ?_ <;> (intro hx; conv=>whnf)
    ·exact ⟨av_int (by rw [he, orL_nz hx]), rfl⟩
    rw [orL_z (by omega)] at he
    repeat' ((first|refine nI ?_|refine aI ?_|refine tI ?_|refine fI ?_|fail);conv=>whnf)
    (refine oP (setR r.right _ (by omega) (by omega)) ?_; conv=>whnf)
    refine cmpI ?_ ?_ <;> (intro hx; conv=>whnf)
    ·exact ⟨av_int (by rw [he, orL_nz hx]), rfl⟩
    rw [orL_z (by omega)] at he
    repeat' ((first|refine nI ?_|refine aI ?_|refine tI ?_|refine fI ?_|fail);conv=>whnf)
    (refine oP (setR r.parent _ (by omega) (by omega)) ?_; conv=>whnf)
    refine cmpI ?_ ?_ <;> (intro hx; conv=>whnf)
    ·exact ⟨av_int (by rw [he, orL_nz hx]), rfl⟩
    rw [orL_z (by omega)] at he
    repeat' ((first|refine nI ?_|refine aI ?_|refine tI ?_|refine fI ?_|fail);conv=>whnf)
    exact ⟨av_int (by rw [he]; rfl), rfl⟩
   ·repeat' ((first|refine nI ?_|refine aI ?_|refine tI ?_|refine fI ?_|fail);conv=>whnf)
    refine dC (withinR _ _ _) (fun _=>?_) (fun _=>?_) <;> (conv=>whnf)
    case refine_2=>rename_i h; exact absurd w2 h
    rename_i h
    clear h
    rw [orL_z w3] at he
    repeat' ((first|refine nI ?_|refine aI ?_|refine tI ?_|refine fI ?_|fail);conv=>whnf)
    (refine oP (setR r.send _ (by omega) (by omega)) ?_; conv=>whnf)
    refine cmpI ?_ ?_ <;> (intro hx; conv=>whnf)
    ·exact ⟨av_int (by rw [he, orL_nz hx]), rfl⟩
    rw [orL_z (by omega)] at he
    repeat' ((first|refine nI ?_|refine aI ?_|refine tI ?_|refine fI ?_|fail);conv=>whnf)
    (refine oP (setR r.left _ (by omega) (by omega)) ?_; conv=>whnf)
    refine cmpI ?_ ?_ <;> (intro hx; conv=>whnf)
    ·exact ⟨av_int (by rw [he, orL_nz hx]), rfl⟩
    rw [orL_z (by omega)] at he
    repeat' ((first|refine nI ?_|refine aI ?_|refine tI ?_|refine fI ?_|fail);conv=>whnf)
    (refine oP (setR r.right _ (by omega) (by omega)) ?_; conv=>whnf)
    refine cmpI ?_ ?_ <;> (intro hx; conv=>whnf)
    ·exact ⟨av_int (by rw [he, orL_nz hx]), rfl⟩
    rw [orL_z (by omega)] at he
    repeat' ((first|refine nI ?_|refine aI ?_|refine tI ?_|refine fI ?_|fail);conv=>whnf)
    (refine oP (setR r.parent _ (by omega) (by omega)) ?_; conv=>whnf)
    refine cmpI ?_ ?_ <;> (intro hx; conv=>whnf)
    ·exact ⟨av_int (by rw [he, orL_nz hx]), rfl⟩
    rw [orL_z (by omega)] at he
    repeat' ((first|refine nI ?_|refine aI ?_|refine tI ?_|refine fI ?_|fail);conv=>whnf)
    exact ⟨av_int (by rw [he]; rfl), rfl⟩
   ·repeat' ((first|refine nI ?_|refine aI ?_|refine tI ?_|refine fI ?_|fail);conv=>whnf)
    refine dC (withinR _ _ _) (fun _=>?_) (fun _=>?_) <;> (conv=>whnf)
    ·rename_i h; exact absurd h w2
    ·exact ⟨av_int (by rw [he, orL_5 w3]), rfl⟩
  ·repeat' ((first|refine nI ?_|refine aI ?_|refine tI ?_|refine fI ?_|fail);conv=>whnf)
   refine dC (withinR _ _ _) (fun _=>?_) (fun _=>?_) <;> (conv=>whnf)
   ·rename_i h; exact absurd h v2
   ·exact ⟨av_int (by rw [he, orL_5 v3]), rfl⟩
 ·rw [if_neg (by omega), if_neg (by omega), if_neg (by omega), if_pos k, if_neg (by omega)] at he
  refine dC (withinR _ _ _) (fun _=>?_) (fun _=>?_) <;> (conv=>whnf)
  case refine_2=>rename_i h; omega
  repeat' ((first|refine nI ?_|refine aI ?_|refine tI ?_|refine fI ?_|fail);conv=>whnf)
  refine dC (unusedR p r hf) (fun _=>?_) (fun _=>?_) <;> (conv=>whnf)
  ·rename_i h; exact absurd h hs
  repeat' ((first|refine nI ?_|refine aI ?_|refine tI ?_|refine fI ?_|fail);conv=>whnf)
  refine dC (withinR _ _ _) (fun _=>?_) (fun _=>?_) <;> (conv=>whnf)
  case refine_2=>rename_i h; exact ⟨av_int (by rw [he, orL_5 (indE_out h)]), rfl⟩
  rename_i h
  rw [orL_z (indE_in h)] at he
  clear h
  repeat' ((first|refine nI ?_|refine aI ?_|refine tI ?_|refine fI ?_|fail);conv=>whnf)
  refine dC (withinR _ _ _) (fun _=>?_) (fun _=>?_) <;> (conv=>whnf)
  case refine_2=>rename_i h; exact ⟨av_int (by rw [he, orL_5 (indE_out h)]), rfl⟩
  rename_i h
  rw [orL_z (indE_in h)] at he
  clear h
  rw [orL_z rfl, orL_z rfl, orL_z rfl] at he
  repeat' ((first|refine nI ?_|refine aI ?_|refine tI ?_|refine fI ?_|fail);conv=>whnf)
  refine WPc.loopF tt_ok mx_ok (fun j : Nat=>j ≤ r.guards.length ∧ orL (r.guards.map (gE p.messages.length)) = orL ((r.guards.drop j).map (gE p.messages.length))) (fun j=>[(10, .int .i64 (j : Int))]) (fun _=>[(5, .box 143 (encR r))]) (fun j=>r.guards.length - j) 0 ⟨by omega, rfl⟩ ?_; conv=>whnf
  refine ⟨sI, ?_⟩
  rintro j ⟨hj, hjo⟩
  conv=>whnf
  refine cmpI ?_ ?_ <;> (intro h1; conv=>whnf)
  ·refine nI ?_
   rw [tN]
   rw [orL_map_drop _ thr0 (by omega)] at hjo
   generalize r.guards.getD j thr0 = g at hjo
   conv=>whnf
   repeat' ((first|refine nI ?_|refine aI ?_|refine tI ?_|refine fI ?_|fail);conv=>whnf)
   have bad : ∀ x : Int, x ≠ 0 → gE p.messages.length g = x → ruleE p i r = x:=fun x hx hg=>by
    rw [hg, if_pos hx] at hjo
    have hge : guardsE p.messages.length r.guards = x:=by rw [guardsE, hjo, if_pos hx]
    rw [he, orL_nz (by rw [hge]; exact hx), hge]
   refine dC (withinR _ _ _) (fun _=>?_) (fun _=>?_) <;> (conv=>whnf)
   case refine_2=>rename_i h; exact ⟨av_int (bad 5 (by decide) (by rw [gE, orL_5 (indE_out h)])).symm, rfl⟩
   rename_i g1
   refine dC (withinR _ _ _) (fun _=>?_) (fun _=>?_) <;> (conv=>whnf)
   case refine_2=>rename_i h; exact ⟨av_int (bad 1 (by decide) (by rw [gE, orL_z (indE_in g1), coefE, if_pos (by omega), orL_nz (by decide)])).symm, rfl⟩
   rename_i g2
   refine dC (fewR g.bound) (fun _=>?_) (fun _=>?_) <;> (conv=>whnf)
   case refine_2=>rename_i h; exact ⟨av_int (bad 4 (by decide) (by rw [gE, orL_z (indE_in g1), coefE, if_neg (by omega), orL_z rfl, bndE, if_neg h, orL_nz (by decide)])).symm, rfl⟩
   rename_i g3
   rw [if_neg (by rw [gE_of g1 g2 g3]; simp)] at hjo
   repeat' ((first|refine nI ?_|refine aI ?_|refine tI ?_|refine fI ?_|fail);conv=>whnf)
   exact ⟨j + 1, sI, ⟨by omega, hjo⟩, by dsimp only; omega⟩
  obtain rfl : j = r.guards.length:=by omega
  rw [List.drop_length] at hjo
  have hjo : orL (r.guards.map (gE p.messages.length)) = 0:=hjo
  refine cmpI ?_ ?_ <;> (intro hx; conv=>whnf)
  ·exact ⟨av_int (by rw [he, guardsE, hjo, if_neg (by simp), if_pos (by omega), orL_nz (by decide)]), rfl⟩
  rw [guardsE, hjo, if_neg (by simp), if_neg (by omega), orL_z rfl] at he
  repeat' ((first|refine nI ?_|refine aI ?_|refine tI ?_|refine fI ?_|fail);conv=>whnf)
  (refine oP (setR r.some_ _ (by omega) (by omega)) ?_; conv=>whnf)
  refine cmpI ?_ ?_ <;> (intro hx; conv=>whnf)
  ·exact ⟨av_int (by rw [he, orL_nz hx]), rfl⟩
  rw [orL_z (by omega)] at he
  repeat' ((first|refine nI ?_|refine aI ?_|refine tI ?_|refine fI ?_|fail);conv=>whnf)
  (refine oP (setR r.forall_ _ (by omega) (by omega)) ?_; conv=>whnf)
  refine cmpI ?_ ?_ <;> (intro hx; conv=>whnf)
  ·exact ⟨av_int (by rw [he, orL_nz hx]), rfl⟩
  rw [orL_z (by omega)] at he
  have v1 : r.read = -1:=by omega
  repeat' ((first|refine nI ?_|refine aI ?_|refine tI ?_|refine fI ?_|fail);conv=>whnf)
  rw [orL_z (show valE p.values.length r.read = 0 by rw [valE, if_neg (by omega)])] at he
  have w1 : r.write = -1:=by omega
  repeat' ((first|refine nI ?_|refine aI ?_|refine tI ?_|refine fI ?_|fail);conv=>whnf)
  rw [orL_z (show valE p.values.length r.write = 0 by rw [valE, if_neg (by omega)])] at he
  repeat' ((first|refine nI ?_|refine aI ?_|refine tI ?_|refine fI ?_|fail);conv=>whnf)
  (refine oP (setR r.send _ (by omega) (by omega)) ?_; conv=>whnf)
  refine cmpI ?_ ?_ <;> (intro hx; conv=>whnf)
  ·exact ⟨av_int (by rw [he, orL_nz hx]), rfl⟩
  rw [orL_z (by omega)] at he
  repeat' ((first|refine nI ?_|refine aI ?_|refine tI ?_|refine fI ?_|fail);conv=>whnf)
  (refine oP (setR r.left _ (by omega) (by omega)) ?_; conv=>whnf)
  refine cmpI ?_ ?_ <;> (intro hx; conv=>whnf)
  ·exact ⟨av_int (by rw [he, orL_nz hx]), rfl⟩
  rw [orL_z (by omega)] at he
  repeat' ((first|refine nI ?_|refine aI ?_|refine tI ?_|refine fI ?_|fail);conv=>whnf)
  (refine oP (setR r.right _ (by omega) (by omega)) ?_; conv=>whnf)
  refine cmpI ?_ ?_ <;> (intro hx; conv=>whnf)
  ·exact ⟨av_int (by rw [he, orL_nz hx]), rfl⟩
  rw [orL_z (by omega)] at he
  repeat' ((first|refine nI ?_|refine aI ?_|refine tI ?_|refine fI ?_|fail);conv=>whnf)
  (refine oP (setR r.parent _ (by omega) (by omega)) ?_; conv=>whnf)
  refine cmpI ?_ ?_ <;> (intro hx; conv=>whnf)
  ·exact ⟨av_int (by rw [he, orL_nz hx]), rfl⟩
  rw [orL_z (by omega)] at he
  refine cmpT k ?_
  conv=>whnf
  refine dC (withinR _ _ _) (fun _=>?_) (fun _=>?_) <;> (conv=>whnf)
  ·rename_i h
   repeat' ((first|refine nI ?_|refine aI ?_|refine arU trivial (by omega) ?_|refine arB trivial (by omega) ?_|refine dI ?_|refine dR ?_|refine dP ?_|refine boxP rfl ?_|refine pI _ rfl ?_|refine rowSetI _ rfl ?_|refine tI ?_|refine fI ?_|refine cmpI (fun _=>?_) (fun _=>?_)) <;> conv=>whnf)
   all_goals first
    | exact ⟨av_int (by rw [he, atE, if_pos (by omega)]; rfl), rfl⟩
    | exact ⟨av_int (by rw [he, atE, if_neg (by omega)]; rfl), rfl⟩
  ·rename_i h
   exact ⟨av_int (by rw [he, atE, if_pos (by omega)]; rfl), rfl⟩
 ·rw [if_pos (.inr k), if_pos (.inr k), if_neg (by omega), if_neg (by omega), if_pos k] at he
  refine dC (withinR _ _ _) (fun _=>?_) (fun _=>?_) <;> (conv=>whnf)
  case refine_2=>rename_i h; omega
  repeat' ((first|refine nI ?_|refine aI ?_|refine tI ?_|refine fI ?_|fail);conv=>whnf)
  refine dC (unusedR p r hf) (fun _=>?_) (fun _=>?_) <;> (conv=>whnf)
  ·rename_i h; exact absurd h hs
  repeat' ((first|refine nI ?_|refine aI ?_|refine tI ?_|refine fI ?_|fail);conv=>whnf)
  refine dC (withinR _ _ _) (fun _=>?_) (fun _=>?_) <;> (conv=>whnf)
  case refine_2=>rename_i h; exact ⟨av_int (by rw [he, orL_5 (indE_out h)]), rfl⟩
  rename_i h
  rw [orL_z (indE_in h)] at he
  clear h
  repeat' ((first|refine nI ?_|refine aI ?_|refine tI ?_|refine fI ?_|fail);conv=>whnf)
  refine dC (withinR _ _ _) (fun _=>?_) (fun _=>?_) <;> (conv=>whnf)
  case refine_2=>rename_i h; exact ⟨av_int (by rw [he, orL_5 (indE_out h)]), rfl⟩
  rename_i h
  rw [orL_z (indE_in h)] at he
  clear h
  repeat' ((first|refine nI ?_|refine aI ?_|refine tI ?_|refine fI ?_|fail);conv=>whnf)
  refine dC (withinR _ _ _) (fun _=>?_) (fun _=>?_) <;> (conv=>whnf)
  case refine_2=>rename_i h; exact ⟨av_int (by rw [he, orL_5 (indE_out h)]), rfl⟩
  rename_i h
  rw [orL_z (indE_in h)] at he
  clear h
  repeat' ((first|refine nI ?_|refine aI ?_|refine tI ?_|refine fI ?_|fail);conv=>whnf)
  refine dC (withinR _ _ _) (fun _=>?_) (fun _=>?_) <;> (conv=>whnf)
  case refine_2=>rename_i h; exact ⟨av_int (by rw [he, orL_5 (indE_out h)]), rfl⟩
  rename_i h
  rw [orL_z (indE_in h)] at he
  clear h
  rw [orL_z rfl] at he
  repeat' ((first|refine nI ?_|refine aI ?_|refine tI ?_|refine fI ?_|fail);conv=>whnf)
  refine WPc.loopF tt_ok mx_ok (fun j : Nat=>j ≤ r.guards.length ∧ orL (r.guards.map (gE p.messages.length)) = orL ((r.guards.drop j).map (gE p.messages.length))) (fun j=>[(10, .int .i64 (j : Int))]) (fun _=>[(5, .box 143 (encR r))]) (fun j=>r.guards.length - j) 0 ⟨by omega, rfl⟩ ?_; conv=>whnf
  refine ⟨sI, ?_⟩
  rintro j ⟨hj, hjo⟩
  conv=>whnf
  refine cmpI ?_ ?_ <;> (intro h1; conv=>whnf)
  ·refine nI ?_
   rw [tN]
   rw [orL_map_drop _ thr0 (by omega)] at hjo
   generalize r.guards.getD j thr0 = g at hjo
   conv=>whnf
   repeat' ((first|refine nI ?_|refine aI ?_|refine tI ?_|refine fI ?_|fail);conv=>whnf)
   have bad : ∀ x : Int, x ≠ 0 → gE p.messages.length g = x → ruleE p i r = x:=fun x hx hg=>by
    rw [hg, if_pos hx] at hjo
    have hge : guardsE p.messages.length r.guards = x:=by rw [guardsE, hjo, if_pos hx]
    rw [he, orL_nz (by rw [hge]; exact hx), hge]
   refine dC (withinR _ _ _) (fun _=>?_) (fun _=>?_) <;> (conv=>whnf)
   case refine_2=>rename_i h; exact ⟨av_int (bad 5 (by decide) (by rw [gE, orL_5 (indE_out h)])).symm, rfl⟩
   rename_i g1
   refine dC (withinR _ _ _) (fun _=>?_) (fun _=>?_) <;> (conv=>whnf)
   case refine_2=>rename_i h; exact ⟨av_int (bad 1 (by decide) (by rw [gE, orL_z (indE_in g1), coefE, if_pos (by omega), orL_nz (by decide)])).symm, rfl⟩
   rename_i g2
   refine dC (fewR g.bound) (fun _=>?_) (fun _=>?_) <;> (conv=>whnf)
   case refine_2=>rename_i h; exact ⟨av_int (bad 4 (by decide) (by rw [gE, orL_z (indE_in g1), coefE, if_neg (by omega), orL_z rfl, bndE, if_neg h, orL_nz (by decide)])).symm, rfl⟩
   rename_i g3
   rw [if_neg (by rw [gE_of g1 g2 g3]; simp)] at hjo
   repeat' ((first|refine nI ?_|refine aI ?_|refine tI ?_|refine fI ?_|fail);conv=>whnf)
   exact ⟨j + 1, sI, ⟨by omega, hjo⟩, by dsimp only; omega⟩
  obtain rfl : j = r.guards.length:=by omega
  rw [List.drop_length] at hjo
  have hjo : orL (r.guards.map (gE p.messages.length)) = 0:=hjo
  refine cmpI ?_ ?_ <;> (intro hx; conv=>whnf)
  ·exact ⟨av_int (by rw [he, guardsE, hjo, if_neg (by simp), if_pos (by omega), orL_nz (by decide)]), rfl⟩
  rw [guardsE, hjo, if_neg (by simp), if_neg (by omega), orL_z rfl] at he
  repeat' ((first|refine nI ?_|refine aI ?_|refine tI ?_|refine fI ?_|fail);conv=>whnf)
  (refine oP (setR r.some_ _ (by omega) (by omega)) ?_; conv=>whnf)
  refine cmpI ?_ ?_ <;> (intro hx; conv=>whnf)
  ·exact ⟨av_int (by rw [he, orL_nz hx]), rfl⟩
  rw [orL_z (by omega)] at he
  repeat' ((first|refine nI ?_|refine aI ?_|refine tI ?_|refine fI ?_|fail);conv=>whnf)
  (refine oP (setR r.forall_ _ (by omega) (by omega)) ?_; conv=>whnf)
  refine cmpI ?_ ?_ <;> (intro hx; conv=>whnf)
  ·exact ⟨av_int (by rw [he, orL_nz hx]), rfl⟩
  rw [orL_z (by omega)] at he
  have v1 : r.read = -1:=by omega
  repeat' ((first|refine nI ?_|refine aI ?_|refine tI ?_|refine fI ?_|fail);conv=>whnf)
  rw [orL_z (show valE p.values.length r.read = 0 by rw [valE, if_neg (by omega)])] at he
  have w1 : r.write = -1:=by omega
  repeat' ((first|refine nI ?_|refine aI ?_|refine tI ?_|refine fI ?_|fail);conv=>whnf)
  rw [orL_z (show valE p.values.length r.write = 0 by rw [valE, if_neg (by omega)])] at he
  repeat' ((first|refine nI ?_|refine aI ?_|refine tI ?_|refine fI ?_|fail);conv=>whnf)
  (refine oP (setR r.send _ (by omega) (by omega)) ?_; conv=>whnf)
  refine cmpI ?_ ?_ <;> (intro hx; conv=>whnf)
  ·exact ⟨av_int (by rw [he, orL_nz hx]), rfl⟩
  rw [orL_z (by omega)] at he
  repeat' ((first|refine nI ?_|refine aI ?_|refine tI ?_|refine fI ?_|fail);conv=>whnf)
  (refine oP (setR r.left _ (by omega) (by omega)) ?_; conv=>whnf)
  refine cmpI ?_ ?_ <;> (intro hx; conv=>whnf)
  ·exact ⟨av_int (by rw [he, orL_nz hx]), rfl⟩
  rw [orL_z (by omega)] at he
  repeat' ((first|refine nI ?_|refine aI ?_|refine tI ?_|refine fI ?_|fail);conv=>whnf)
  (refine oP (setR r.right _ (by omega) (by omega)) ?_; conv=>whnf)
  refine cmpI ?_ ?_ <;> (intro hx; conv=>whnf)
  ·exact ⟨av_int (by rw [he, orL_nz hx]), rfl⟩
  rw [orL_z (by omega)] at he
  repeat' ((first|refine nI ?_|refine aI ?_|refine tI ?_|refine fI ?_|fail);conv=>whnf)
  (refine oP (setR r.parent _ (by omega) (by omega)) ?_; conv=>whnf)
  refine cmpI ?_ ?_ <;> (intro hx; conv=>whnf)
  ·exact ⟨av_int (by rw [he, orL_nz hx]), rfl⟩
  rw [orL_z (by omega)] at he
  rw [orL_z rfl] at he
  by_cases h4 : p.topology = 4
  ·repeat' ((first|refine nI ?_|refine aI ?_|refine tI ?_|refine fI ?_|fail);conv=>whnf)
   refine dC (withinR _ _ _) (fun _=>?_) (fun _=>?_) <;> (conv=>whnf)
   ·rename_i h
    repeat' ((first|refine nI ?_|refine aI ?_|refine tI ?_|refine fI ?_|fail);conv=>whnf)
    exact ⟨av_int (by rw [he, dirE, if_neg (by omega)]; rfl), rfl⟩
   ·rename_i h
    exact ⟨av_int (by rw [he, dirE, if_pos (by omega)]; rfl), rfl⟩
  ·repeat' ((first|refine nI ?_|refine aI ?_|refine tI ?_|refine fI ?_|fail);conv=>whnf)
   refine dC (withinR _ _ _) (fun _=>?_) (fun _=>?_) <;> (conv=>whnf)
   ·rename_i h
    repeat' ((first|refine nI ?_|refine aI ?_|refine tI ?_|refine fI ?_|fail);conv=>whnf)
    exact ⟨av_int (by rw [he, dirE, if_neg (by omega)]; rfl), rfl⟩
   ·rename_i h
    exact ⟨av_int (by rw [he, dirE, if_pos (by omega)]; rfl), rfl⟩
end Go.Proofs.YtnjggjhkfncnlaaGreatDoor
