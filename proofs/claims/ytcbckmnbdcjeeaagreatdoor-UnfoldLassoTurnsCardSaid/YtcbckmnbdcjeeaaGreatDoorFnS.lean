
/-
  The error of a rule: what the program computes.
-/
import Derived.Test.YtcbckmnbdcjeeaaGreatDoorFnR
set_option linter.unusedVariables false
set_option linter.unusedSimpArgs false
namespace Go.Proofs.YtcbckmnbdcjeeaaGreatDoor
set_option maxRecDepth 100000
set_option maxHeartbeats 4000000

theorem sameThrR (a b : Thr) : PSpec Tryz.prog 147 [.agg (encThr a), .agg (encThr b)] (fun u => u = .bool (decide (a = b))) := by
  refine PSpec.intro tt_ok mx_ok Tryz.func147 rfl (by decide) ?_; (conv => whnf)
  refine boxP rfl ?_
  conv => whnf
  refine boxP rfl ?_
  conv => whnf
  refine cmpI (fun h1 => ?_) (fun h1 => ?_) <;> conv => whnf
  · refine cmpI (fun h2 => ?_) (fun h2 => ?_) <;> conv => whnf
    · refine cmpI (fun h3 => ?_) (fun h3 => ?_) <;> conv => whnf
      · refine ⟨dec_t (thrN_inj.1 ?_), rfl⟩
        simp only [List.cons.injEq, and_true] at h3
        simp only [thrN, h1, h2, h3]
      · exact ⟨dec_f (fun h => h3 (by rw [h])), rfl⟩
    · exact ⟨dec_f (fun h => h2 (by rw [h])), rfl⟩
  · exact ⟨dec_f (fun h => h1 (by rw [h])), rfl⟩
theorem thrIdxR (l : List Thr) (g : Thr) (hl : l.length ≤ 10000) : PSpec Tryz.prog 114 [.sl thr0 encThr l, .agg (encThr g)] (fun u => ∃ n : Int, u = .int .i64 n ∧ (n < 0 ↔ g ∉ l)) := by
  refine PSpec.intro tt_ok mx_ok Tryz.func114 rfl (by decide) ?_; (conv => whnf)
  refine boxP rfl ?_
  conv => whnf
  refine WPc.loopF tt_ok mx_ok (fun k : Nat => k ≤ l.length ∧ g ∉ l.take k) (fun k => [(5, .int .i64 (k : Int))]) (fun _ => []) (fun k => l.length - k) 0 ⟨by omega, by simp⟩ ?_; conv => whnf
  refine ⟨(Sub.id_ 400 rfl auto_ auto_), ?_⟩
  rintro k ⟨hk, ha⟩
  conv => whnf
  refine cmpI (fun h1 => ?_) (fun h1 => ?_) <;> conv => whnf
  · refine drawI (by decide +kernel) ?_
    conv => whnf
    refine needI (by omega) ?_
    rw [Int.toNat_natCast]
    conv => whnf
    refine callD 5 (sameThrR (l.getD k thr0) g) rfl (fun _ => ?_) (fun _ => ?_) <;> (conv => whnf)
    · rename_i h2
      refine ⟨⟨k, rfl, fun h => by omega, fun h => absurd ?_ h⟩, rfl⟩
      rw [← h2]; exact mem_getD _ (by omega)
    · rename_i h2
      repeat' (first
          | (refine needI (by first | omega | (dsimp only; omega)) ?_; conv => whnf)
          | (refine arI trivial (by omega) ?_; conv => whnf)
          | (refine arU trivial (by omega) ?_; conv => whnf)
          | (refine arB trivial (by omega) ?_; conv => whnf)
          | (refine drawI (by decide +kernel) ?_; conv => whnf)
          | (refine drawR (by decide +kernel) ?_; conv => whnf)
          | (refine drawP (by decide +kernel) ?_; conv => whnf)
          | (refine boxP rfl ?_; conv => whnf)
          | (refine appI _ rfl (by first | omega | (dsimp only; omega) | (simp only [List.length_cons, List.length_nil, List.length_append]; omega)) ?_; conv => whnf)
          | (refine rowSetI _ rfl ?_; conv => whnf)
          | (refine cmpT (by omega) ?_; conv => whnf)
          | (refine cmpF (by omega) ?_; conv => whnf)
          | (refine cmpI (fun _ => ?_) (fun _ => ?_) <;> conv => whnf))
      refine ⟨k + 1, (Sub.id_ 400 rfl auto_ auto_), ⟨by omega, ?_⟩, by dsimp only; omega⟩
      rw [take_succ_getD thr0 (by omega), List.mem_append, List.mem_singleton, not_or]
      exact ⟨ha, fun e => h2 e.symm⟩
  · obtain rfl : k = l.length := by omega
    rw [List.take_length] at ha
    exact ⟨⟨-1, rfl, fun _ => ha, fun _ => by omega⟩, rfl⟩
theorem distinctR (p : Pro) (hp : ¬ bigP p) : PSpec Tryz.prog 67 [.agg (encP p)] (fun u => u = .sl thr0 encThr (thrL p.rules)) := by
  have hle := bigP_le hp
  refine PSpec.intro tt_ok mx_ok Tryz.func67 rfl (by decide) ?_; (conv => whnf)
  refine boxP rfl ?_
  conv => whnf
  refine WPc.loopF tt_ok mx_ok (fun i : Nat => i ≤ p.rules.length) (fun i => [(4, .int .i64 (i : Int)), (3, .row 1000 (thrL (p.rules.take i)).length 6)]) (fun i => [(1000, rowT (thrL (p.rules.take i)))]) (fun i => p.rules.length - i) 0 (by omega) ?_; conv => whnf
  refine ⟨Sub.by_ [(1000, .nil 6)] _ 400 rfl (auto_) (auto_), ?_⟩
  intro i hi
  conv => whnf
  refine cmpI (fun h1 => ?_) (fun h1 => ?_) <;> conv => whnf
  · have hil : i < p.rules.length := by omega
    have hgl := (bigR_le (bigP_rule hp hil)).2.2.1
    have hpl := outT_len hp i
    have hall := outT_all p.rules hil
    have hzero := outT_zero p.rules i (p.rules.getD i rul0)
    have hsucc := fun j => outT_succ p.rules i (p.rules.getD i rul0) (j := j)
    rw [← hzero]
    generalize ho : outT p.rules i (p.rules.getD i rul0) = out at hpl hall hsucc
    refine WPc.loopF tt_ok mx_ok (fun j : Nat => j ≤ (p.rules.getD i rul0).guards.length) (fun j => [(5, .int .i64 (j : Int)), (3, .row 1000 (out j).length 6)]) (fun j => [(1000, rowT (out j))]) (fun j => (p.rules.getD i rul0).guards.length - j) 0 (by omega) ?_; conv => whnf
    refine ⟨(Sub.id_ 400 rfl auto_ auto_), ?_⟩
    intro j hj
    conv => whnf
    refine needI (by omega) ?_
    rw [Int.toNat_natCast]
    conv => whnf
    refine cmpI (fun h2 => ?_) (fun h2 => ?_) <;> conv => whnf
    · refine needI (by omega) ?_
      rw [Int.toNat_natCast]
      conv => whnf
      refine needI (by omega) ?_
      rw [Int.toNat_natCast]
      have hs := hsucc j (by omega)
      have hlj := hpl j
      generalize (p.rules.getD i rul0).guards.getD j thr0 = g at hs
      conv => whnf
      refine Spec.borrow (n := 5) (thrIdxR (out j) g (by omega)) rfl (by rintro _ ⟨n, rfl, _⟩; rfl) ?_
      rintro _ ⟨n, rfl, hn⟩
      conv => whnf
      refine cmpI (fun h3 => ?_) (fun h3 => ?_) <;> conv => whnf
      · have hm := hn.1 h3
        refine bldI thr0 encThr [g] rfl ?_
        conv => whnf
        repeat' (first
            | (refine needI (by first | omega | (dsimp only; omega)) ?_; conv => whnf)
            | (refine arI trivial (by omega) ?_; conv => whnf)
            | (refine arU trivial (by omega) ?_; conv => whnf)
            | (refine arB trivial (by omega) ?_; conv => whnf)
            | (refine drawI (by decide +kernel) ?_; conv => whnf)
            | (refine drawR (by decide +kernel) ?_; conv => whnf)
            | (refine drawP (by decide +kernel) ?_; conv => whnf)
            | (refine boxP rfl ?_; conv => whnf)
            | (refine appI _ rfl (by first | omega | (dsimp only; omega) | (simp only [List.length_cons, List.length_nil, List.length_append]; omega)) ?_; conv => whnf)
            | (refine rowSetI _ rfl ?_; conv => whnf)
            | (refine cmpT (by omega) ?_; conv => whnf)
            | (refine cmpF (by omega) ?_; conv => whnf)
            | (refine cmpI (fun _ => ?_) (fun _ => ?_) <;> conv => whnf))
        have e : out (j + 1) = out j ++ [g] := by rw [hs, addT, if_neg hm]
        refine ⟨j + 1, ?_, by omega, by dsimp only; omega⟩
        dsimp only
        rw [e]
        exact Sub.by_ [(1000, .old 41)] _ 400 rfl (auto_) (auto_)
      · have hm : g ∈ out j := Classical.byContradiction fun h => h3 (hn.2 h)
        repeat' (first
            | (refine needI (by first | omega | (dsimp only; omega)) ?_; conv => whnf)
            | (refine arI trivial (by omega) ?_; conv => whnf)
            | (refine arU trivial (by omega) ?_; conv => whnf)
            | (refine arB trivial (by omega) ?_; conv => whnf)
            | (refine drawI (by decide +kernel) ?_; conv => whnf)
            | (refine drawR (by decide +kernel) ?_; conv => whnf)
            | (refine drawP (by decide +kernel) ?_; conv => whnf)
            | (refine boxP rfl ?_; conv => whnf)
            | (refine appI _ rfl (by first | omega | (dsimp only; omega) | (simp only [List.length_cons, List.length_nil, List.length_append]; omega)) ?_; conv => whnf)
            | (refine rowSetI _ rfl ?_; conv => whnf)
            | (refine cmpT (by omega) ?_; conv => whnf)
            | (refine cmpF (by omega) ?_; conv => whnf)
            | (refine cmpI (fun _ => ?_) (fun _ => ?_) <;> conv => whnf))
        have e : out (j + 1) = out j := by rw [hs, addT, if_pos hm]
        refine ⟨j + 1, ?_, by omega, by dsimp only; omega⟩
        dsimp only
        rw [e]
        exact (Sub.id_ 400 rfl auto_ auto_)
    · obtain rfl : j = (p.rules.getD i rul0).guards.length := by omega
      repeat' (first
          | (refine needI (by first | omega | (dsimp only; omega)) ?_; conv => whnf)
          | (refine arI trivial (by omega) ?_; conv => whnf)
          | (refine arU trivial (by omega) ?_; conv => whnf)
          | (refine arB trivial (by omega) ?_; conv => whnf)
          | (refine drawI (by decide +kernel) ?_; conv => whnf)
          | (refine drawR (by decide +kernel) ?_; conv => whnf)
          | (refine drawP (by decide +kernel) ?_; conv => whnf)
          | (refine boxP rfl ?_; conv => whnf)
          | (refine appI _ rfl (by first | omega | (dsimp only; omega) | (simp only [List.length_cons, List.length_nil, List.length_append]; omega)) ?_; conv => whnf)
          | (refine rowSetI _ rfl ?_; conv => whnf)
          | (refine cmpT (by omega) ?_; conv => whnf)
          | (refine cmpF (by omega) ?_; conv => whnf)
          | (refine cmpI (fun _ => ?_) (fun _ => ?_) <;> conv => whnf))
      refine ⟨i + 1, ?_, by omega, by dsimp only; omega⟩
      dsimp only
      rw [← hall]
      exact (Sub.id_ 400 rfl auto_ auto_)
  · obtain rfl : i = p.rules.length := by omega
    rw [List.take_length]
    exact ⟨rfl, rfl⟩

/-! ### ruleError -/
theorem ruleClosF (x r : Rul) : PSpec Tryz.prog 103 [.agg (encR x), .pd (encR r)] (fun u => u = .bool (decide (x.name = r.name))) := by
  refine PSpec.intro tt_ok mx_ok Tryz.func103 rfl (by decide) ?_; (conv => whnf)
  refine boxP rfl ?_
  conv => whnf
  refine cmpI (fun h => ?_) (fun h => ?_) <;> conv => whnf
  · exact ⟨dec_t h, rfl⟩
  · exact ⟨dec_f h, rfl⟩
def takenB (rs : List Rul) (i : Nat) (r : Rul) : Prop := ∃ j, j < (rs.take i).length ∧ ((rs.take i).getD j rul0).name = r.name
instance (rs : List Rul) (i : Nat) (r : Rul) : Decidable (takenB rs i r) := inferInstanceAs (Decidable (∃ j, j < (rs.take i).length ∧ _))
theorem ruleIdxF (l : List Rul) (r : Rul) (hl : l.length ≤ 1000) : PSpec Tryz.prog 145 [.sl rul0 encR l, .fn 103 [.pd (encR r)]] (fun u => ∃ n : Int, u = .int .i64 n ∧ (0 ≤ n ↔ ∃ j, j < l.length ∧ (l.getD j rul0).name = r.name)) := by
  refine PSpec.intro tt_ok mx_ok Tryz.func145 rfl (by decide) ?_; (conv => whnf)
  refine WPc.loopF tt_ok mx_ok (fun k : Nat => k ≤ l.length ∧ ∀ j, j < k → (l.getD j rul0).name ≠ r.name) (fun k => [(8, .int .i64 (k : Int))]) (fun _ => []) (fun k => l.length - k) 0 ⟨by omega, fun j hj => by omega⟩ ?_; conv => whnf
  refine ⟨(Sub.id_ 400 rfl auto_ auto_), ?_⟩
  rintro k ⟨hk, ha⟩
  conv => whnf
  refine cmpI (fun h1 => ?_) (fun h1 => ?_) <;> conv => whnf
  · refine needI (by omega) ?_
    rw [Int.toNat_natCast]
    conv => whnf
    refine Spec.dcall (n := 5) (ruleClosF (l.getD k rul0) r) rfl (fun _ => ?_) (fun _ => ?_) <;> (conv => whnf)
    · rename_i h2
      exact ⟨⟨k, rfl, fun _ => ⟨k, by omega, h2⟩, fun _ => by omega⟩, rfl⟩
    · rename_i h2
      repeat' (first
          | (refine needI (by first | omega | (dsimp only; omega)) ?_; conv => whnf)
          | (refine arI trivial (by omega) ?_; conv => whnf)
          | (refine arU trivial (by omega) ?_; conv => whnf)
          | (refine arB trivial (by omega) ?_; conv => whnf)
          | (refine drawI (by decide +kernel) ?_; conv => whnf)
          | (refine drawR (by decide +kernel) ?_; conv => whnf)
          | (refine drawP (by decide +kernel) ?_; conv => whnf)
          | (refine boxP rfl ?_; conv => whnf)
          | (refine appI _ rfl (by first | omega | (dsimp only; omega) | (simp only [List.length_cons, List.length_nil, List.length_append]; omega)) ?_; conv => whnf)
          | (refine rowSetI _ rfl ?_; conv => whnf)
          | (refine cmpT (by omega) ?_; conv => whnf)
          | (refine cmpF (by omega) ?_; conv => whnf)
          | (refine cmpI (fun _ => ?_) (fun _ => ?_) <;> conv => whnf))
      refine ⟨k + 1, (Sub.id_ 400 rfl auto_ auto_), ⟨by omega, fun j hj => ?_⟩, by dsimp only; omega⟩
      by_cases e : j = k
      · subst e; exact h2
      · exact ha j (by omega)
  · exact ⟨⟨-1, rfl, fun h => by omega, fun ⟨j, h1, h2⟩ => absurd h2 (ha j (by omega))⟩, rfl⟩
theorem ruleHasF (rs : List Rul) (i : Nat) (r : Rul) (hl : rs.length ≤ 1000) : PSpec Tryz.prog 102 [.sl rul0 encR (rs.take i), .fn 103 [.pd (encR r)]] (fun u => u = .bool (decide (takenB rs i r))) := by
  refine PSpec.intro tt_ok mx_ok Tryz.func102 rfl (by decide) ?_; (conv => whnf)
  refine Spec.of_pure (n := 5) (ruleIdxF (rs.take i) r (by simp; omega)) rfl ?_
  rintro _ ⟨n, rfl, hn⟩
  conv => whnf
  refine cmpI (fun h => ?_) (fun h => ?_) <;> conv => whnf
  · exact ⟨dec_t (hn.1 h), rfl⟩
  · exact ⟨dec_f (fun hh => h (hn.2 hh)), rfl⟩

def atE (a t : Int) : Int := if a < 0 ∨ 2 < a ∨ (a ≠ 0 ∧ t = 3) then 1 else 0
def dirE (d t : Int) : Int := if (t = 4 ∧ (d < 3 ∨ 4 < d)) ∨ (t ≠ 4 ∧ (d < 1 ∨ 2 < d)) then 1 else 0
def kindE (p : Pro) (r : Rul) : Int :=
  if r.kind = 1 then orL [guardsE p.messages.length r.guards, setE r.some_ p.states.length, setE r.forall_ p.states.length, valE p.values.length r.read, valE p.values.length r.write, setE r.send p.messages.length]
  else if r.kind = 2 then orL [indE r.pfrom p.states.length, indE r.pto p.states.length, valE p.values.length r.read, valE p.values.length r.write]
  else if r.kind = 3 then orL [respE r.response p.states.length, valE p.values.length r.read, valE p.values.length r.write]
  else if r.kind = 4 then orL [setE r.left p.states.length, setE r.right p.states.length, setE r.parent p.states.length, atE r.at_ p.topology]
  else orL [indE r.pfrom p.states.length, indE r.pto p.states.length, dirE r.direction p.topology]
def ruleE (p : Pro) (i : Nat) (r : Rul) : Int :=
  if ¬ validN r.name ∨ takenB p.rules i r then 2 else if ¬ fitB r.kind p.topology ∨ surB r p.topology then 6
  else orL [indE r.src p.states.length, indE r.dst p.states.length, kindE p r]
theorem orL_two (a b c : Int) : orL [a, b, c] = if orL [a, b] ≠ 0 then orL [a, b] else c := by
  simp only [orL]
  by_cases h1 : a = 0 <;> by_cases h2 : b = 0 <;> by_cases h3 : c = 0 <;> simp [h1, h2, h3]
theorem ruleErrorF (p : Pro) (i : Nat) (hp : ¬ bigP p) (hi : i < p.rules.length) : PSpec Tryz.prog 58 [.agg (encP p), .int .i64 (i : Int)] (fun u => u = .int .i64 (ruleE p i (p.rules.getD i rul0))) := by
  have hle := bigP_le hp
  have hbr := bigP_rule hp hi
  refine PSpec.intro tt_ok mx_ok Tryz.func58 rfl (by decide) ?_; (conv => whnf)
  refine boxP rfl ?_
  conv => whnf
  refine needI (by omega) ?_
  rw [Int.toNat_natCast]
  generalize p.rules.getD i rul0 = r at hbr
  have hrl := bigR_le hbr
  conv => whnf
  refine needI (by omega) ?_
  rw [Int.toNat_natCast]
  conv => whnf
  refine Spec.borrow (n := 5) (ruleHasF p.rules i r (by omega)) rfl (by rintro _ rfl; rfl) ?_
  rintro _ rfl
  by_cases hv : validN r.name
  · by_cases ht : takenB p.rules i r
    · rw [decide_eq_true ht]
      conv => whnf
      refine Spec.dcall (n := 5) (validNameP r.name (by omega)) rfl (fun _ => ?_) (fun _ => ?_) <;> (conv => whnf)
      · exact ⟨av_int (by rw [ruleE, if_pos (.inr ht)]), rfl⟩
      · exact ⟨av_int (by rw [ruleE, if_pos (.inr ht)]), rfl⟩
    · rw [decide_eq_false ht]
      have e1 : ∀ x, (if ¬ validN r.name ∨ takenB p.rules i r then (2 : Int) else x) = x := fun x => if_neg (by rintro (h | h); exact h hv; exact ht h)
      conv => whnf
      refine Spec.dcall (n := 5) (validNameP r.name (by omega)) rfl (fun _ => ?_) (fun _ => ?_) <;> (conv => whnf)
      · by_cases hf : fitB r.kind p.topology
        · refine Spec.dcall (n := 5) (fitsF r.kind p.topology) rfl (fun _ => ?_) (fun _ => ?_) <;> (conv => whnf)
          · refine Spec.dcall (n := 5) (surplusF r p.topology hbr hf) rfl (fun _ => ?_) (fun _ => ?_) <;> (conv => whnf)
            · rename_i hs
              exact ⟨av_int (by rw [ruleE, e1, if_pos (.inr hs)]), rfl⟩
            · rename_i hs
              have e2 : ruleE p i r = orL [indE r.src p.states.length, indE r.dst p.states.length, kindE p r] := by rw [ruleE, e1, if_neg (by rintro (h | h); exact h hf; exact hs h)]
              rw [orL_two] at e2
              refine drawI (by decide +kernel) ?_
              conv => whnf
              (refine callPI 5 (indexF _ _) rfl ⟨_, rfl⟩ ?_; rintro _ rfl; conv => whnf)
              (refine callPI 5 (indexF _ _) rfl ⟨_, rfl⟩ ?_; rintro _ rfl; conv => whnf)
              refine leakY ?_
              conv => whnf
              (refine callPI 5 (firstF _ (by simp)) rfl ⟨_, rfl⟩ ?_; rintro _ rfl; conv => whnf)
              refine cmpI (fun h3 => ?_) (fun h3 => ?_) <;> conv => whnf
              · rw [if_pos h3] at e2
                exact ⟨av_int e2.symm, rfl⟩
              · rw [if_neg h3] at e2
                have ff := hf
                unfold fitB at ff
                by_cases k1 : r.kind = 1
                · refine cmpT k1 ?_
                  conv => whnf
                  refine drawI (by decide +kernel) ?_
                  conv => whnf
                  (refine callPI 5 (guardsF p r.guards (by omega)) rfl ⟨_, rfl⟩ ?_; rintro _ rfl; conv => whnf)
                  (refine callPI 5 (setP r.some_ _ (by omega)) rfl ⟨_, rfl⟩ ?_; rintro _ rfl; conv => whnf)
                  (refine callPI 5 (setP r.forall_ _ (by omega)) rfl ⟨_, rfl⟩ ?_; rintro _ rfl; conv => whnf)
                  (refine callPI 5 (valueF p r.read) rfl ⟨_, rfl⟩ ?_; rintro _ rfl; conv => whnf)
                  (refine callPI 5 (valueF p r.write) rfl ⟨_, rfl⟩ ?_; rintro _ rfl; conv => whnf)
                  (refine callPI 5 (setP r.send _ (by omega)) rfl ⟨_, rfl⟩ ?_; rintro _ rfl; conv => whnf)
                  refine leakY ?_
                  conv => whnf
                  (refine callPI 5 (firstF _ (by simp)) rfl ⟨_, rfl⟩ ?_; rintro _ rfl; conv => whnf)
                  exact ⟨av_int (by rw [e2, kindE, if_pos k1]), rfl⟩
                refine cmpF k1 ?_
                conv => whnf
                by_cases k2 : r.kind = 2
                · refine cmpT k2 ?_
                  conv => whnf
                  refine drawI (by decide +kernel) ?_
                  conv => whnf
                  (refine callPI 5 (indexF _ _) rfl ⟨_, rfl⟩ ?_; rintro _ rfl; conv => whnf)
                  (refine callPI 5 (indexF _ _) rfl ⟨_, rfl⟩ ?_; rintro _ rfl; conv => whnf)
                  (refine callPI 5 (valueF p r.read) rfl ⟨_, rfl⟩ ?_; rintro _ rfl; conv => whnf)
                  (refine callPI 5 (valueF p r.write) rfl ⟨_, rfl⟩ ?_; rintro _ rfl; conv => whnf)
                  refine leakY ?_
                  conv => whnf
                  (refine callPI 5 (firstF _ (by simp)) rfl ⟨_, rfl⟩ ?_; rintro _ rfl; conv => whnf)
                  exact ⟨av_int (by rw [e2, kindE, if_neg k1, if_pos k2]), rfl⟩
                refine cmpF k2 ?_
                conv => whnf
                by_cases k3 : r.kind = 3
                · refine cmpT k3 ?_
                  conv => whnf
                  refine drawI (by decide +kernel) ?_
                  conv => whnf
                  (refine callPI 5 (responsesF r.response _ (by omega)) rfl ⟨_, rfl⟩ ?_; rintro _ rfl; conv => whnf)
                  (refine callPI 5 (valueF p r.read) rfl ⟨_, rfl⟩ ?_; rintro _ rfl; conv => whnf)
                  (refine callPI 5 (valueF p r.write) rfl ⟨_, rfl⟩ ?_; rintro _ rfl; conv => whnf)
                  refine leakY ?_
                  conv => whnf
                  (refine callPI 5 (firstF _ (by simp)) rfl ⟨_, rfl⟩ ?_; rintro _ rfl; conv => whnf)
                  exact ⟨av_int (by rw [e2, kindE, if_neg k1, if_neg k2, if_pos k3]), rfl⟩
                refine cmpF k3 ?_
                conv => whnf
                by_cases k4 : r.kind = 4
                · refine cmpT k4 ?_
                  conv => whnf
                  by_cases hm : r.at_ < 0 ∨ 2 < r.at_ ∨ (r.at_ ≠ 0 ∧ p.topology = 3)
                  · have ea : (1 : Int) = atE r.at_ p.topology := by rw [atE, if_pos hm]
                    repeat' (first | (refine cmpT (by omega) ?_; conv => whnf) | (refine cmpF (by omega) ?_; conv => whnf) | (refine cmpI (fun _ => ?_) (fun _ => ?_) <;> conv => whnf))
                    all_goals
                      refine drawI (by decide +kernel) ?_
                      conv => whnf
                      (refine callPI 5 (setP r.left _ (by omega)) rfl ⟨_, rfl⟩ ?_; rintro _ rfl; conv => whnf)
                      (refine callPI 5 (setP r.right _ (by omega)) rfl ⟨_, rfl⟩ ?_; rintro _ rfl; conv => whnf)
                      (refine callPI 5 (setP r.parent _ (by omega)) rfl ⟨_, rfl⟩ ?_; rintro _ rfl; conv => whnf)
                      (refine callPI 5 (whenT 1) rfl ⟨_, rfl⟩ ?_; rintro _ rfl; conv => whnf)
                      refine leakY ?_
                      conv => whnf
                      (refine callPI 5 (firstF _ (by simp)) rfl ⟨_, rfl⟩ ?_; rintro _ rfl; conv => whnf)
                      exact ⟨av_int (by rw [e2, kindE, if_neg k1, if_neg k2, if_neg k3, if_pos k4, ← ea]), rfl⟩
                  · have ea : (0 : Int) = atE r.at_ p.topology := by rw [atE, if_neg hm]
                    repeat' (first | (refine cmpT (by omega) ?_; conv => whnf) | (refine cmpF (by omega) ?_; conv => whnf) | (refine cmpI (fun _ => ?_) (fun _ => ?_) <;> conv => whnf))
                    all_goals
                      refine drawI (by decide +kernel) ?_
                      conv => whnf
                      (refine callPI 5 (setP r.left _ (by omega)) rfl ⟨_, rfl⟩ ?_; rintro _ rfl; conv => whnf)
                      (refine callPI 5 (setP r.right _ (by omega)) rfl ⟨_, rfl⟩ ?_; rintro _ rfl; conv => whnf)
                      (refine callPI 5 (setP r.parent _ (by omega)) rfl ⟨_, rfl⟩ ?_; rintro _ rfl; conv => whnf)
                      (refine callPI 5 (whenF 1) rfl ⟨_, rfl⟩ ?_; rintro _ rfl; conv => whnf)
                      refine leakY ?_
                      conv => whnf
                      (refine callPI 5 (firstF _ (by simp)) rfl ⟨_, rfl⟩ ?_; rintro _ rfl; conv => whnf)
                      exact ⟨av_int (by rw [e2, kindE, if_neg k1, if_neg k2, if_neg k3, if_pos k4, ← ea]), rfl⟩
                refine cmpF k4 ?_
                conv => whnf
                by_cases hd : (p.topology = 4 ∧ (r.direction < 3 ∨ 4 < r.direction)) ∨ (p.topology ≠ 4 ∧ (r.direction < 1 ∨ 2 < r.direction))
                · have ea : (1 : Int) = dirE r.direction p.topology := by rw [dirE, if_pos hd]
                  refine cmpI (fun h4 => ?_) (fun h4 => ?_) <;> conv => whnf
                  all_goals
                    refine drawI (by decide +kernel) ?_
                    conv => whnf
                    (refine callPI 5 (indexF _ _) rfl ⟨_, rfl⟩ ?_; rintro _ rfl; conv => whnf)
                    (refine callPI 5 (indexF _ _) rfl ⟨_, rfl⟩ ?_; rintro _ rfl; conv => whnf)
                    repeat' (first | (refine cmpT (by omega) ?_; conv => whnf) | (refine cmpF (by omega) ?_; conv => whnf) | (refine cmpI (fun _ => ?_) (fun _ => ?_) <;> conv => whnf))
                    all_goals
                      (refine callPI 5 (whenT 1) rfl ⟨_, rfl⟩ ?_; rintro _ rfl; conv => whnf)
                      refine leakY ?_
                      conv => whnf
                      (refine callPI 5 (firstF _ (by simp)) rfl ⟨_, rfl⟩ ?_; rintro _ rfl; conv => whnf)
                      exact ⟨av_int (by rw [e2, kindE, if_neg k1, if_neg k2, if_neg k3, if_neg k4, ← ea]), rfl⟩
                · have ea : (0 : Int) = dirE r.direction p.topology := by rw [dirE, if_neg hd]
                  refine cmpI (fun h4 => ?_) (fun h4 => ?_) <;> conv => whnf
                  all_goals
                    refine drawI (by decide +kernel) ?_
                    conv => whnf
                    (refine callPI 5 (indexF _ _) rfl ⟨_, rfl⟩ ?_; rintro _ rfl; conv => whnf)
                    (refine callPI 5 (indexF _ _) rfl ⟨_, rfl⟩ ?_; rintro _ rfl; conv => whnf)
                    repeat' (first | (refine cmpT (by omega) ?_; conv => whnf) | (refine cmpF (by omega) ?_; conv => whnf) | (refine cmpI (fun _ => ?_) (fun _ => ?_) <;> conv => whnf))
                    all_goals
                      (refine callPI 5 (whenF 1) rfl ⟨_, rfl⟩ ?_; rintro _ rfl; conv => whnf)
                      refine leakY ?_
                      conv => whnf
                      (refine callPI 5 (firstF _ (by simp)) rfl ⟨_, rfl⟩ ?_; rintro _ rfl; conv => whnf)
                      exact ⟨av_int (by rw [e2, kindE, if_neg k1, if_neg k2, if_neg k3, if_neg k4, ← ea]), rfl⟩
          · rename_i h; exact absurd hf h
        · refine Spec.dcall (n := 5) (fitsF r.kind p.topology) rfl (fun _ => ?_) (fun _ => ?_) <;> (conv => whnf)
          · rename_i h; exact absurd h hf
          · exact ⟨av_int (by rw [ruleE, e1, if_pos (.inl hf)]), rfl⟩
      · rename_i h; exact absurd hv h
  · by_cases ht : takenB p.rules i r
    · rw [decide_eq_true ht]
      conv => whnf
      refine Spec.dcall (n := 5) (validNameP r.name (by omega)) rfl (fun _ => ?_) (fun _ => ?_) <;> (conv => whnf)
      · exact ⟨av_int (by rw [ruleE, if_pos (.inl hv)]), rfl⟩
      · exact ⟨av_int (by rw [ruleE, if_pos (.inl hv)]), rfl⟩
    · rw [decide_eq_false ht]
      conv => whnf
      refine Spec.dcall (n := 5) (validNameP r.name (by omega)) rfl (fun _ => ?_) (fun _ => ?_) <;> (conv => whnf)
      · rename_i h; exact absurd h hv
      · exact ⟨av_int (by rw [ruleE, if_pos (.inl hv)]), rfl⟩
end Go.Proofs.YtcbckmnbdcjeeaaGreatDoor
