import Derived.Test.YtfoplfpbjajljaaDoorFwC
set_option linter.unusedVariables false
set_option linter.unusedSimpArgs false
namespace Go.Proofs.YtfoplfpbjajljaaDoor
set_option maxRecDepth 100000
set_option maxHeartbeats 16000000
def thI : List Thr → Thr → Int
 |[], _ => -1
 |a :: l, g => if a = g then 0 else if thI l g < 0 then -1 else thI l g + 1
theorem thI_none {g : Thr} : ∀ {l : List Thr}, g ∉ l → thI l g = -1
 |[], _ => rfl
 |a :: l, h => by
  rw [List.mem_cons, not_or] at h
  rw [thI, if_neg (fun e => h.1 e.symm), thI_none h.2, if_pos (by omega)]
theorem thI_at {g : Thr} : ∀ {l : List Thr} {k : Nat}, k < l.length → g ∉ l.take k → l.getD k thr0 = g → thI l g = (k : Int)
 |[], k, h, _, _ => by simp at h
 |a :: l, 0, _, _, h => by rw [thI, if_pos (show a = g from h)]; rfl
 |a :: l, k + 1, h, h1, h2 => by
  rw [List.take_succ_cons, List.mem_cons, not_or] at h1
  have := thI_at (l := l) (k := k) (by simpa using h) h1.2 h2
  rw [thI, if_neg (fun e => h1.1 e.symm), this, if_neg (by omega)]
  omega
theorem thI_rng (g : Thr) : ∀ l : List Thr, -1 ≤ thI l g ∧ thI l g < l.length
 |[] => by simp [thI]
 |a :: l => by
  have := thI_rng g l
  rw [thI]
  simp only [List.length_cons]
  split
  ·omega
  ·split <;> omega
theorem thI_get {g : Thr} : ∀ {l : List Thr}, g ∈ l → 0 ≤ thI l g ∧ l.getD (thI l g).toNat thr0 = g
 |a :: l, h => by
  rw [thI]
  by_cases e : a = g
  ·rw [if_pos e]; exact ⟨by omega, e⟩
  ·rw [if_neg e]
   obtain ⟨h1, h2⟩ := thI_get (l := l) (by rcases List.mem_cons.1 h with h | h; exact absurd h.symm e; exact h)
   rw [if_neg (by omega)]
   refine ⟨by omega, ?_⟩
   rw [show (thI l g + 1).toNat = (thI l g).toNat + 1 by omega]
   exact h2
theorem addT_nodup {acc : List Thr} {g : Thr} (h : acc.Nodup) : (addT acc g).Nodup := by
 unfold addT
 split
 ·exact h
 ·rename_i hm
  rw [List.nodup_append]
  exact ⟨h, by simp, fun a ha b hb e => by rw [List.mem_singleton] at hb; subst hb; subst e; exact hm ha⟩
theorem foldT_nodup : ∀ (gs acc : List Thr), acc.Nodup → (gs.foldl addT acc).Nodup
 |[], _, h => h
 |g :: gs, acc, h => foldT_nodup gs _ (addT_nodup h)
theorem thrL_nodup (rs : List Rul) : (thrL rs).Nodup := foldT_nodup _ _ (by simp)
theorem addT_acc {acc : List Thr} {g x : Thr} (h : x ∈ acc) : x ∈ addT acc g := by
 unfold addT
 split
 ·exact h
 ·exact List.mem_append_left _ h
theorem addT_self (acc : List Thr) (g : Thr) : g ∈ addT acc g := by
 unfold addT
 split
 ·assumption
 ·exact List.mem_append_right _ (List.mem_singleton.2 rfl)
theorem foldT_all : ∀ (gs acc : List Thr) (x : Thr), x ∈ acc ∨ x ∈ gs → x ∈ gs.foldl addT acc
 |[], _, x, h => by rcases h with h | h; exact h; cases h
 |g :: gs, acc, x, h => by
  rw [List.foldl_cons]
  refine foldT_all gs _ x ?_
  rcases h with h | h
  ·exact .inl (addT_acc h)
  ·rcases List.mem_cons.1 h with rfl | h
   ·exact .inl (addT_self acc x)
   ·exact .inr h
theorem thrL_all {rs : List Rul} {j : Nat} (hj : j < rs.length) {g : Thr} (h : g ∈ (rs.getD j rul0).guards) : g ∈ thrL rs := by
 refine foldT_all _ _ g (.inr (List.mem_flatMap.2 ⟨rs.getD j rul0, mem_getD _ hj, h⟩))
theorem open_iff {T : List Thr} (hn : T.Nodup) {g : Thr} (hg : g ∈ T) {sch : List Int} (hs : schB T.length sch) {j : Nat} (hj : j ≤ sch.length) : thI T g ∈ sch.take j ↔ ∃ i, i < j ∧ T.getD (sch.getD i 0).toNat thr0 = g := by
 obtain ⟨h0, h1⟩ := thI_get hg
 have hr := thI_rng g T
 constructor
 ·intro h
  obtain ⟨i, hi, e⟩ := List.mem_take_iff_getElem.1 h
  refine ⟨i, by omega, ?_⟩
  rw [getD_elem 0 (by omega), e]
  exact h1
 ·rintro ⟨i, hi, e⟩
  have hb := (hs i (by omega)).1
  have e2 : sch.getD i 0 = thI T g := by
   have a : (sch.getD i 0).toNat < T.length := by omega
   have b : (thI T g).toNat < T.length := by omega
   rw [getD_elem thr0 a] at e
   rw [getD_elem thr0 b] at h1
   have := (List.getElem_inj hn).1 (e.trans h1.symm)
   omega
  exact List.mem_take_iff_getElem.2 ⟨i, by omega, by rw [← e2, getD_elem 0 (by omega)]⟩
theorem thrIndexX (l : List Thr) (g : Thr) (hl : l.length ≤ 4503599627370496) : PSpec Tryd.prog 63 [.sl thr0 encThr l, .agg (encThr g)] (fun u => u = .int .i64 (thI l g)) := by
 refine PSpec.intro tt_ok mx_ok Tryd.func63 rfl (by decide) ?_; (conv => whnf)
 refine boxP rfl ?_
 conv => whnf
 refine WPc.loopF tt_ok mx_ok (fun k : Nat => k ≤ l.length ∧ g ∉ l.take k) (fun k => [(8, .int .i64 (k : Int))]) (fun _ => []) (fun k => l.length - k) 0 ⟨by omega, by simp⟩ ?_; conv => whnf
 refine ⟨sI, ?_⟩
 rintro k ⟨hk, ha⟩
 conv => whnf
 repeat' ((first|refine nI ?_|refine aI ?_|refine arU trivial (by omega) ?_|refine arB trivial (by omega) ?_|refine dI ?_|refine dR ?_|refine dP ?_|refine boxP rfl ?_|refine pI _ rfl ?_|refine rowSetI _ rfl ?_|refine tI ?_|refine fI ?_|refine cmpI (fun _ => ?_) (fun _ => ?_)) <;> conv => whnf)
 ·rename_i h1 h2
  rw [tN] at h2
  have h2 : g = l.getD k thr0 := thrN_inj.1 h2
  refine ⟨av_int ?_, rfl⟩
  rw [thI_at (by omega) ha h2.symm]
 ·rename_i h1 h2
  rw [tN] at h2
  refine ⟨k + 1, sI, ⟨by omega, ?_⟩, by dsimp only; omega⟩
  rw [take_succ_getD thr0 (by omega), List.mem_append, List.mem_singleton, not_or]
  exact ⟨ha, fun e => h2 (thrN_inj.2 e)⟩
 ·obtain rfl : k = l.length := by omega
  rw [List.take_length] at ha
  exact ⟨av_int (thI_none ha).symm, rfl⟩
theorem hasFaultyF (p : Pro) (q : Prp) : PSpec Tryd.prog 36 [.pd (famC p q)] (fun u => u = .bool (decide (whB p))) := by
 refine PSpec.intro tt_ok mx_ok Tryd.func36 rfl (by decide) ?_; (conv => whnf)
 refine cmpI ?_ ?_ <;> (intro h; conv => whnf)
 ·exact ⟨dec_t (.inl h), rfl⟩
 ·refine cmpI ?_ ?_ <;> (intro h2; conv => whnf)
  ·exact ⟨dec_t (.inr h2), rfl⟩
  ·exact ⟨dec_f (fun hh => by rcases hh with hh | hh; exact h hh; exact h2 hh), rfl⟩
theorem isSchemaF (p : Pro) (q : Prp) (l : List Int) (hl : l.length ≤ 140737488355328) : PSpec Tryd.prog 18 [.pd (famC p q), .sl 0 encI l] (fun u => u = .bool (decide (schB (thrL p.rules).length l))) := by
 refine PSpec.intro tt_ok mx_ok Tryd.func18 rfl (by decide) ?_; (conv => whnf)
 refine WPc.loopF tt_ok mx_ok (fun k : Nat => k ≤ l.length ∧ ∀ i, i < k → (0 ≤ l.getD i 0 ∧ l.getD i 0 < (thrL p.rules).length) ∧ l.getD i 0 ∉ l.take i) (fun k => [(9, .int .i64 (k : Int))]) (fun _ => []) (fun k => l.length - k) 0 ⟨by omega, fun i hi => by omega⟩ ?_; conv => whnf
 refine ⟨sI, ?_⟩
 rintro k ⟨hk, ha⟩
 conv => whnf
 refine cmpI ?_ ?_ <;> (intro h1; conv => whnf)
 ·have hlt : k < l.length := by omega
  refine nI ?_
  rw [tN]
  conv => whnf
  refine cmpI ?_ ?_ <;> (intro h2; conv => whnf)
  ·exact ⟨dec_f (fun h => by have := (h k hlt).1.1; omega), rfl⟩
  refine cmpI ?_ ?_ <;> (intro h3; conv => whnf)
  ·exact ⟨dec_f (fun h => by have := (h k hlt).1.2; omega), rfl⟩
  refine nI ?_
  rw [tN]
  conv => whnf
  refine dC (iContainsF (l.take k) (l.getD k 0) (by simp; omega)) (fun _ => ?_) (fun _ => ?_) <;> (conv => whnf)
  ·rename_i h4
   exact ⟨dec_f (fun h => (h k hlt).2 h4), rfl⟩
  ·rename_i h4
   repeat' ((first|refine nI ?_|refine aI ?_|refine tI ?_|refine fI ?_|fail);conv => whnf)
   refine ⟨k + 1, sI, ⟨by omega, fun i hi => ?_⟩, by dsimp only; omega⟩
   by_cases e : i = k
   ·subst e; exact ⟨⟨by omega, by omega⟩, h4⟩
   ·exact ha i (by omega)
 ·exact ⟨dec_t (fun i hi => ha i (by omega)), rfl⟩
def chO (p : Pro) (number m : Nat) : List Int := List.replicate (p.rules.length - m) 0 ++ (chL p number).drop (p.rules.length - m)
theorem chO_zero (p : Pro) (number : Nat) : chO p number 0 = List.replicate p.rules.length 0 := by
 unfold chO
 rw [Nat.sub_zero, List.drop_of_length_le (by rw [chL_len]; omega), List.append_nil]
theorem chO_all (p : Pro) (number : Nat) : chO p number p.rules.length = chL p number := by
 unfold chO
 rw [Nat.sub_self]
 simp
theorem chO_len (p : Pro) {number m : Nat} (h : m ≤ p.rules.length) : (chO p number m).length = p.rules.length := by
 unfold chO
 rw [List.length_append, List.length_replicate, List.length_drop, chL_len]
 omega
theorem chO_up (p : Pro) {number m : Nat} (h : m < p.rules.length) : (chO p number m).set (p.rules.length - 1 - m) (chD p.rules number (p.rules.length - 1 - m) : Int) = chO p number (m + 1) := by
 unfold chO
 have e1 : p.rules.length - m = (p.rules.length - 1 - m) + 1 := by omega
 have e2 : p.rules.length - (m + 1) = p.rules.length - 1 - m := by omega
 have e3 : (chL p number).drop (p.rules.length - 1 - m) = (chD p.rules number (p.rules.length - 1 - m) : Int) :: (chL p number).drop (p.rules.length - 1 - m + 1) := by
  rw [List.drop_eq_getElem_cons (by rw [chL_len]; omega)]
  congr 1
  rw [← chL_get (by omega), getD_elem 0 (by rw [chL_len]; omega)]
 rw [e1, e2, e3, List.replicate_succ', List.append_assoc, List.set_append_right _ _ (by simp)]
 simp
theorem choiceF (p : Pro) (q : Prp) (hv : validE p = 0) (number : Nat) (hn : number ≤ 1000000) : PSpec Tryd.prog 61 [.pd (famC p q), .int .i64 (number : Int)] (fun u => u = if q.kind = 1 then .nilsl else .sl 0 encI (chL p number)) := by
 have hl := (vld_of hv).len
 refine PSpec.intro tt_ok mx_ok Tryd.func61 rfl (by decide) ?_; (conv => whnf)
 refine cmpI ?_ ?_ <;> (intro hk; conv => whnf)
 ·exact ⟨by rw [if_pos hk]; rfl, rfl⟩
 rw [if_neg hk]
 refine mkI 0 encI 0 rfl (by dsimp only; omega) ?_
 rw [tN]
 conv => whnf
 refine aI ?_
 conv => whnf
 have hch : ∀ m, chN p.rules number m ≤ number := by
  intro m
  induction m with
  |zero => exact Nat.le_refl _
  |succ m ih => rw [chN]; exact Nat.le_trans (Nat.div_le_self _ _) ih
 refine WPc.loopF tt_ok mx_ok (fun m : Nat => m ≤ p.rules.length) (fun m => [(6, .int .i64 ((p.rules.length : Int) - 1 - (m : Int))), (1, .int .i64 (chN p.rules number m : Int))]) (fun m => [(20, rowN (chO p number m))]) (fun m => p.rules.length - m) 0 (Nat.zero_le _) ?_; conv => whnf
 refine ⟨by rw [chO_zero]; exact sI, ?_⟩
 rintro m hm
 conv => whnf
 refine cmpI ?_ ?_ <;> (intro h1; conv => whnf)
 ·have hlt : m < p.rules.length := by omega
  have ei : ((p.rules.length : Int) - 1 - (m : Int)).toNat = p.rules.length - 1 - m := by omega
  refine nI ?_
  rw [ei]
  conv => whnf
  have hg := guards_2' hv (p.rules.length - 1 - m) (by omega)
  have hc := hch m
  have hup := chO_up p (number := number) hlt
  have ed : chD p.rules number (p.rules.length - 1 - m) = chN p.rules number m % (1 + (p.rules.getD (p.rules.length - 1 - m) rul0).guards.length) := by unfold chD; rw [show p.rules.length - 1 - (p.rules.length - 1 - m) = m by omega]
  have eq : chN p.rules number (m + 1) = chN p.rules number m / (1 + (p.rules.getD (p.rules.length - 1 - m) rul0).guards.length) := rfl
  have hlen := chO_len p (number := number) (m := m) (by omega)
  generalize (p.rules.getD (p.rules.length - 1 - m) rul0).guards.length = g at hg ed eq
  have e1g : (1 + (g : Int)) = ((1 + g : Nat) : Int) := by push_cast; rfl
  have et : ((chN p.rules number m : Nat) : Int).tdiv (1 + (g : Int)) = ((chN p.rules number (m + 1) : Nat) : Int) := by rw [e1g, eq, Int.ofNat_tdiv]
  have er : ((chN p.rules number m : Nat) : Int).tmod (1 + (g : Int)) = ((chD p.rules number (p.rules.length - 1 - m) : Nat) : Int) := by rw [e1g, ed, Int.ofNat_tmod]
  have hc1 := hch (m + 1)
  refine aI ?_
  conv => whnf
  first | refine dI ?_ | refine drawO (by decide +kernel) ?_
  conv => whnf
  repeat' ((first|refine nI ?_|refine aI ?_|refine tI ?_|refine fI ?_|fail);conv => whnf)
  rw [et]
  refine arI (by omega) (by omega) ?_
  conv => whnf
  repeat' ((first|refine nI ?_|refine aI ?_|refine tI ?_|refine fI ?_|fail);conv => whnf)
  rw [er, ei]
  refine rowSetI ((chD p.rules number (p.rules.length - 1 - m) : Nat) : Int) rfl ?_
  conv => whnf
  repeat' ((first|refine nI ?_|refine aI ?_|refine tI ?_|refine fI ?_|fail);conv => whnf)
  refine ⟨m + 1, ?_, by omega, by dsimp only; omega⟩
  dsimp only
  rw [← hup]
  exact sI
 ·obtain rfl : m = p.rules.length := by omega
  rw [chO_all]
  exact ⟨rfl, rfl⟩
theorem allowedF (p : Pro) (q : Prp) (hv : validE p = 0) (sch : List Int) (hs : schB (thrL p.rules).length sch) (r j : Nat) (hr : r < p.rules.length) (hj : j ≤ sch.length) : PSpec Tryd.prog 39 [.pd (famC p q), .int .i64 (r : Int), .sl 0 encI sch, .int .i64 (j : Int)] (fun u => u = .bool (decide (allB (thrL p.rules) sch j (p.rules.getD r rul0)))) := by
 have hT := (vld_of hv).thr
 have hsl := sch_len hs
 have hg2 := guards_2' hv r hr
 have hin : ∀ g ∈ (p.rules.getD r rul0).guards, (thI (thrL p.rules) g ∈ sch.take j ↔ ∃ i, i < j ∧ (thrL p.rules).getD (sch.getD i 0).toNat thr0 = g) := fun g hg => open_iff (thrL_nodup _) (thrL_all hr hg) hs hj
 refine PSpec.intro tt_ok mx_ok Tryd.func39 rfl (by decide) ?_; (conv => whnf)
 refine nI ?_
 rw [tN]
 generalize p.rules.getD r rul0 = x at hin hg2
 conv => whnf
 refine WPc.loopF tt_ok mx_ok (fun k : Nat => k ≤ x.guards.length ∧ ∀ i, i < k → ∃ m, m < j ∧ (thrL p.rules).getD (sch.getD m 0).toNat thr0 = x.guards.getD i thr0) (fun k => [(21, .int .i64 (k : Int))]) (fun _ => []) (fun k => x.guards.length - k) 0 ⟨by omega, fun i hi => by omega⟩ ?_; conv => whnf
 refine ⟨sI, ?_⟩
 rintro k ⟨hk, ha⟩
 conv => whnf
 refine cmpI ?_ ?_ <;> (intro h1; conv => whnf)
 ·have hlt : k < x.guards.length := by omega
  refine nI ?_
  rw [tN]
  have hgm := hin _ (mem_getD (l := x.guards) thr0 hlt)
  conv => whnf
  refine dI ?_
  conv => whnf
  refine nI ?_
  rw [tN]
  conv => whnf
  (refine oC (thrIndexX (thrL p.rules) (x.guards.getD k thr0) (by omega)) ?_; conv => whnf)
  refine dD (iContainsF (sch.take j) (thI (thrL p.rules) (x.guards.getD k thr0)) (by simp; omega)) (fun _ => ?_) (fun _ => ?_) <;> (conv => whnf)
  ·rename_i h2
   repeat' ((first|refine nI ?_|refine aI ?_|refine tI ?_|refine fI ?_|fail);conv => whnf)
   refine ⟨k + 1, sI, ⟨by omega, fun i hi => ?_⟩, by dsimp only; omega⟩
   by_cases e : i = k
   ·subst e; exact hgm.1 h2
   ·exact ha i (by omega)
  ·rename_i h2
   exact ⟨dec_f (fun h => h2 (hgm.2 (h _ (mem_getD (l := x.guards) thr0 hlt)))), rfl⟩
 ·refine ⟨dec_t (fun g hg => ?_), rfl⟩
  obtain ⟨i, hi, e⟩ := List.getElem_of_mem hg
  have := ha i (by omega)
  rwa [getD_elem thr0 hi, e] at this
def rowVb (l : List Vb) : Blk := .row 48 vb0 encVb l
def vaA (p : Pro) (q : Prp) (k : Nat) : List Vb := [⟨0, 0, 0⟩, ⟨1, 0, 0⟩, ⟨2, 0, 0⟩] ++ ((stL' p q).take k).map (fun x => ⟨3, 0, x⟩)
def vaB (p : Pro) (q : Prp) (k : Nat) : List Vb := vaA p q (stL' p q).length ++ (p.initial.take k).map (fun x => (⟨4, 0, x⟩ : Vb))
def vaC (p : Pro) (q : Prp) : List Vb := if whB p then vaB p q p.initial.length else vaA p q (stL' p q).length
def vaD (p : Pro) (q : Prp) (sch : List Int) (j : Nat) : List Vb := vaC p q ++ (List.range j).flatMap fun j => segV p sch j p.rules.length
theorem vaA_up (p : Pro) (q : Prp) {k : Nat} (h : k < (stL' p q).length) : vaA p q (k + 1) = vaA p q k ++ [⟨3, 0, (stL' p q).getD k 0⟩] := by
 unfold vaA; rw [take_succ_getD 0 h, List.map_append, List.append_assoc]; rfl
theorem vaB_up (p : Pro) (q : Prp) {k : Nat} (h : k < p.initial.length) : vaB p q (k + 1) = vaB p q k ++ [⟨4, 0, p.initial.getD k 0⟩] := by
 unfold vaB; rw [take_succ_getD 0 h, List.map_append, List.append_assoc]; rfl
theorem vaC_eq (p : Pro) (q : Prp) : vaC p q = [⟨0, 0, 0⟩, ⟨1, 0, 0⟩, ⟨2, 0, 0⟩] ++ stV p q := by
 unfold vaC vaB vaA stV
 split
 ·rw [List.take_length, List.take_length, List.append_assoc]
 ·rw [List.take_length, List.append_nil]
theorem vaD_all (p : Pro) (q : Prp) (sch : List Int) : vaD p q sch (sch.length + 1) = varL p q sch := by
 unfold vaD varL; rw [vaC_eq]
theorem vaD_up (p : Pro) (q : Prp) (sch : List Int) (j : Nat) : vaD p q sch (j + 1) = vaD p q sch j ++ segV p sch j p.rules.length := by
 unfold vaD; rw [List.range_succ, List.flatMap_append, List.append_assoc]; simp
end Go.Proofs.YtfoplfpbjajljaaDoor
