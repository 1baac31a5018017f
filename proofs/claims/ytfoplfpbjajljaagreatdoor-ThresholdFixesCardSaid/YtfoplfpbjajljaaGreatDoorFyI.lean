import Derived.Test.YtfoplfpbjajljaaGreatDoorFyG
import Derived.Test.YtfoplfpbjajljaaGreatDoorY3
import Derived.Test.YtfoplfpbjajljaaGreatDoorW3
import Derived.Test.YtfoplfpbjajljaaGreatDoorFwI
set_option linter.unusedVariables false
set_option linter.unusedSimpArgs false
namespace Go.Proofs.YtfoplfpbjajljaaGreatDoor
set_option maxRecDepth 100000
set_option maxHeartbeats 16000000
theorem parD_len {p : Pro} (h : validE p = 0) : (parD p).length ≤ 13 := by
 have wl := (vld_of h).len
 have hpl : (parL p).length ≤ 9 := by unfold parL; rw [List.length_append, List.length_append]; split <;> simp <;> omega
 unfold parD
 rw [List.length_append, List.length_append, List.length_map]
 split <;> simp <;> omega
theorem dendP (p : Pro) (q : Prp) (sch : List Int) (rows : List Row) (hq : propE p q = 0) (hs : schB (thrL p.rules).length sch) (hr : rows.length ≤ 2000) (number : Nat) (C : List Int) (hC : q.kind = 1 ∨ C = chL p number) :
  Spec Tryz.prog 50 [.ptr 200 0, .agg (encQ q), .int .i64 (sch.length : Int), .sl 0 encI C] (Mem.ofL (dbL p (varL p q sch) rows)) (fun u M => u = .tup [] ∧ M = Mem.ofL (dbN p (varL p q sch) (rows ++ (endD p q sch.length (chL p number)).map (rwL (varL p q sch))))) := by
 have vq := vlq_of hq
 have hV := vq.vld
 have w := vld_of hV
 have wl := w.len
 have wT := w.thr
 have hsl := sch_len hs
 have hv := varL_len hq hs
 have hru := rulB_var (sch := sch) hq
 by_cases hk : q.kind = 1
 ·have e : endD p q sch.length (chL p number) = endD p q sch.length C := by unfold endD; rw [if_pos hk, if_pos hk]
  rw [e]
  refine dendN p q (varL p q sch) rows (by omega) (by omega) hru hr hk (by have := (vq.bad hk).1; omega) (fun i hi => ?_) sch.length C
  have c := cnt_parts vq hk hi
  have := set_len c.1
  omega
 ·obtain rfl : C = chL p number := by rcases hC with h | h; exact absurd h hk; exact h
  have hk2 : q.kind = 2 := by rcases vq.kind with h | h; exact absurd h hk; exact h
  refine dendE p q (varL p q sch) rows (by omega) (by omega) (by omega) hru (sends_le hV) hr hk (by have := vq.shp; omega) (by have := set_len (vq.goal hk2).1; omega) (fun rows l => dlinP p q sch rows hq hs l) sch.length (by omega) (chL p number) (chL_len p number) (fun i hi => ?_)
  refine ⟨fun g hg => (rule_guard (w.rul i hi) hg).2, by have := guards_2' hV i hi; omega, ?_⟩
  rw [chL_get hi]
  have := chD_le p.rules number i
  omega
theorem BuildR (p : Pro) (q : Prp) (hp : okP p) (hq : okQ q) (sch : List Int) (hl : sch.length ≤ 140737488355328) (number : Int) : PSpec Tryz.prog 23 [.agg (encP p), .agg (encQ q), .sl 0 encI sch, .int .i64 number] (fun u => u = bldA p q sch number) := by
 have he := bldA.eq_1 p q sch number
 refine PSpec.intro tt_ok mx_ok Tryz.func23 rfl (by decide) ?_; (conv => whnf)
 refine boxP rfl ?_
 conv => whnf
 refine boxP rfl ?_
 conv => whnf
 (refine oP (CheckR p q hp hq) ?_; conv => whnf)
 refine cmpI ?_ ?_ <;> (intro h; conv => whnf)
 ·rw [if_pos h] at he
  exact ⟨he.symm, rfl⟩
 have h0 : chkE p q = 0 := Classical.not_not.1 h
 have hq0 := chk_prop h0
 have hV := (vlq_of hq0).vld
 have hcs := chk_cs h0
 have ht := (chk_cls h0).1
 rw [if_neg (by omega)] at he
 refine dC (schematicR p hp hV sch hl) (fun _ => ?_) (fun _ => ?_) <;> (conv => whnf)
 rotate_left
 ·rename_i hs
  rw [if_pos (.inl hs)] at he
  exact ⟨he.symm, rfl⟩
 rename_i hs
 refine cmpI ?_ ?_ <;> (intro h1; conv => whnf)
 ·rw [if_pos (.inr (.inl h1))] at he
  exact ⟨he.symm, rfl⟩
 (refine oP (casesR p q hV) ?_; conv => whnf)
 refine cmpI ?_ ?_ <;> (intro h2; conv => whnf)
 ·rw [if_pos (.inr (.inr (by omega)))] at he
  exact ⟨he.symm, rfl⟩
 rw [if_neg (fun hh => by rcases hh with hh | hh | hh; exact hh hs; omega; omega), ← rows_same hq0 ht number] at he
 have hpl := parD_len hV
 have wl := (vld_of hV).len
 have wT := (vld_of hV).thr
 have hsl := sch_len hs
 have hvs := variablesR p q hp hq hq0 sch hs
 have hpar := dparP p q sch [] hq0 hs (by simp)
 have hsl2 := seD_len (p := p) (by omega) sch (varL p q sch) (sch.length + 1)
 have hseg := dsegP p q sch ((parD p).map (rwL (varL p q sch))) hp hq0 hs (by rw [List.length_map]; omega)
 have hend := fun (number : Nat) C hC => dendP p q sch ((parD p).map (rwL (varL p q sch)) ++ seD p sch (varL p q sch) (sch.length + 1)) hq0 hs (by rw [List.length_append, List.length_map]; omega) number C hC
 have hch := fun (number : Nat) (hn : number ≤ 1000000) => choiceR p q hV number hn
 rw [List.nil_append] at hpar
 generalize varL p q sch = vars at *
 generalize (parD p).map (rwL vars) = PA at *
 generalize seD p sch vars (sch.length + 1) = SA at *
 refine drawP1 [0, 1, 2, 3, 5] (by decide +kernel) ?_
 conv => whnf
 repeat' first
  |exact True.intro
  |(refine And.intro ?_ ?_ <;> conv => whnf)
  |(refine oP hvs ?_; conv => whnf)
  |(refine boxL ?_; conv => whnf)
  |fail
 refine Spec.call [(200, .old 41), (201, .nil 2)] (dbL p vars []) 400 rfl (auto_) (auto_) hpar ?_
 rintro u M' ⟨rfl, rfl⟩
 refine ⟨[(41, .old 200), (202, .old 202)], [(41, .box 98 (dbC p vars 202 PA.length)), (202, .row 102 row0 encRw PA)], .tup [], rfl, (auto_), trivial, ?_⟩
 conv => whnf
 refine Spec.call [(200, .old 41), (201, .old 202)] (dbL p vars PA) 400 rfl (auto_) (auto_) hseg ?_
 rintro u M' ⟨rfl, rfl⟩
 refine ⟨[(41, .old 200), (202, .old 201), (203, .old 202)], [(41, .box 98 (dbC p vars 203 (PA ++ SA).length)), (202, .dead), (203, .row 102 row0 encRw (PA ++ SA))], .tup [], rfl, (auto_), trivial, ?_⟩
 conv => whnf
 refine cmpI ?_ ?_ <;> (intro hz; conv => whnf)
 ·rw [if_pos hz] at he
  obtain ⟨n, rfl⟩ : ∃ n : Nat, number = n := ⟨number.toNat, by omega⟩
  rw [tN] at he
  have hch1 := hch n (by omega)
  have hC : ∃ C, (q.kind = 1 ∨ C = chL p n) ∧ PSpec Tryz.prog 43 [.agg (encP p), .agg (encQ q), .int .i64 (n : Int)] (fun u => u = if q.kind = 1 then .nilsl else .sl 0 encI C) ∧ (q.kind = 1 → C = []) := by
   by_cases hk : q.kind = 1
   ·exact ⟨[], .inl hk, by rw [if_pos hk] at hch1 ⊢; exact hch1, fun _ => rfl⟩
   ·exact ⟨chL p n, .inr rfl, hch1, fun h => absurd h hk⟩
  obtain ⟨C, hC1, hC2, hC3⟩ := hC
  have hend1 := hend n C hC1
  generalize (endD p q sch.length (chL p n)).map (rwL vars) = EA at *
  by_cases hk : q.kind = 1
  ·rw [if_pos hk] at hC2
   obtain rfl := hC3 hk
   refine drawP1 [0, 1, 2, 4, 5, 6] (by decide +kernel) ?_
   conv => whnf
   repeat' first
    |exact True.intro
    |(refine And.intro ?_ ?_ <;> conv => whnf)
    |(refine oP hC2 ?_; conv => whnf)
    |(refine Spec.call [(200, .old 41), (201, .old 203)] (dbL p vars (PA ++ SA)) 400 rfl (auto_) (auto_) hend1 ?_; rintro u M' ⟨rfl, rfl⟩; refine ⟨[(41, .old 200), (203, .old 201), (204, .old 202)], [(41, .box 98 (dbC p vars 204 (PA ++ SA ++ EA).length)), (203, .dead), (204, .row 102 row0 encRw (PA ++ SA ++ EA))], .tup [], rfl, (auto_), trivial, ?_⟩; conv => whnf)
    |fail
   all_goals
    refine drawP1 [0, 1, 2, 5, 6, 7, 9] (by decide +kernel) ?_
    conv => whnf
    repeat' first
     |exact True.intro
     |(refine And.intro ?_ ?_ <;> conv => whnf)
     |exact ⟨he.symm, rfl⟩
     |exact he.symm
     |exact rfl
     |fail
  ·rw [if_neg hk] at hC2
   refine drawP1 [0, 1, 2, 4, 5, 6] (by decide +kernel) ?_
   conv => whnf
   repeat' first
    |exact True.intro
    |(refine And.intro ?_ ?_ <;> conv => whnf)
    |(refine oP hC2 ?_; conv => whnf)
    |(refine Spec.call [(200, .old 41), (201, .old 203)] (dbL p vars (PA ++ SA)) 400 rfl (auto_) (auto_) hend1 ?_; rintro u M' ⟨rfl, rfl⟩; refine ⟨[(41, .old 200), (203, .old 201), (204, .old 202)], [(41, .box 98 (dbC p vars 204 (PA ++ SA ++ EA).length)), (203, .dead), (204, .row 102 row0 encRw (PA ++ SA ++ EA))], .tup [], rfl, (auto_), trivial, ?_⟩; conv => whnf)
    |fail
   all_goals
    refine drawP1 [0, 1, 2, 5, 6, 7, 9] (by decide +kernel) ?_
    conv => whnf
    repeat' first
     |exact True.intro
     |(refine And.intro ?_ ?_ <;> conv => whnf)
     |exact ⟨he.symm, rfl⟩
     |exact he.symm
     |exact rfl
     |fail
 ·rw [if_neg hz, List.append_nil] at he
  refine drawP1 [0, 1, 2, 5, 6, 7, 9] (by decide +kernel) ?_
  conv => whnf
  repeat' first
   |exact True.intro
   |(refine And.intro ?_ ?_ <;> conv => whnf)
   |exact ⟨he.symm, rfl⟩
   |exact he.symm
   |exact rfl
   |fail
end Go.Proofs.YtfoplfpbjajljaaGreatDoor
