import Derived.Test.YtfoplfpbjajljaaGreatDoorY2
set_option linter.unusedVariables false
set_option linter.unusedSimpArgs false
namespace Go.Proofs.YtfoplfpbjajljaaGreatDoor
set_option maxRecDepth 100000
set_option maxHeartbeats 16000000
def segD (p : Pro) (sch : List Int) (j : Nat) : List Rw :=
 (if 0 < j then [(guaD p ((thrL p.rules).getD (sch.getD (j - 1) 0).toNat thr0) j, -((thrL p.rules).getD (sch.getD (j - 1) 0).toNat thr0).bound.c)] else []) ++ ((List.range p.states.length).map fun x : Nat => ((aftD p.rules 3 5 x j, 0) : Rw)) ++ (if whB p then (List.range p.states.length).map fun x : Nat => ((aftD p.rules 4 6 x j, 0) : Rw) else [])
theorem segD_len (p : Pro) (sch : List Int) (j : Nat) : (segD p sch j).length ≤ 1 + 2 * p.states.length := by
 unfold segD
 rw [List.length_append, List.length_append]
 split <;> split <;> simp <;> omega
def seD (p : Pro) (sch : List Int) (vars : List Vb) (n : Nat) : List Row := ((List.range n).flatMap (segD p sch)).map (rwL vars)
theorem seD_snoc (p : Pro) (sch : List Int) (vars : List Vb) (n : Nat) : seD p sch vars (n + 1) = seD p sch vars n ++ (segD p sch n).map (rwL vars) := by
 unfold seD
 rw [List.range_succ, List.flatMap_append, List.map_append]
 simp
theorem seD_len {p : Pro} (h : p.states.length ≤ 6) (sch : List Int) (vars : List Vb) : ∀ n, (seD p sch vars n).length ≤ 13 * n
 |0 => by simp [seD]
 |n + 1 => by
  rw [seD_snoc, List.length_append, List.length_map]
  have a := seD_len h sch vars n
  have b := segD_len p sch n
  omega
theorem dsegP (p : Pro) (q : Prp) (sch : List Int) (rows : List Row) (hp : okP p) (hq : propE p q = 0) (hs : schB (thrL p.rules).length sch) (hr : rows.length ≤ 1000) :
  Spec Tryz.prog 49 [.ptr 200 0, .sl 0 encI sch] (Mem.ofL (dbL p (varL p q sch) rows)) (fun u M => u = .tup [] ∧ M = Mem.ofL (dbN p (varL p q sch) (rows ++ seD p sch (varL p q sch) (sch.length + 1)))) := by
 have hV := (vlq_of hq).vld
 have wl := (vld_of hV).len
 have wT := (vld_of hV).thr
 have hsl := sch_len hs
 have hv := varL_len hq hs
 have hru := rulB_var (sch := sch) hq
 have hgua := fun rows (j : Nat) (hj : 0 < j ∧ j ≤ sch.length) => dguaP p q sch rows hq hs ((thrL p.rules).getD (sch.getD ((j : Int) - 1).toNat 0).toNat thr0)
  ((thr_ok hV (mem_getD (l := thrL p.rules) thr0 (by have := hs ((j : Int) - 1).toNat (by omega); omega))).2.1) ((thr_ok hV (mem_getD (l := thrL p.rules) thr0 (by have := hs ((j : Int) - 1).toNat (by omega); omega))).2.2) j
 have haft := fun rows j (x : Nat) => daftP p (varL p q sch) rows (by omega) (by omega) (fun x hx hk => hru x hx (.inl hk)) j (x : Int)
 have hafq := fun rows j (x : Nat) => daftQ p (varL p q sch) rows (by omega) (by omega) (fun x hx hk => hru x hx (.inr hk)) j (x : Int)
 generalize varL p q sch = vars at *
 obtain ⟨R, hR⟩ : ∃ R : Nat → List Row, R = fun j => rows ++ seD p sch vars j := ⟨_, rfl⟩
 obtain ⟨A, hA⟩ : ∃ A : Nat → Nat → List Row, A = fun j x => R j ++ (if 0 < j then [rwL vars (guaD p ((thrL p.rules).getD (sch.getD (j - 1) 0).toNat thr0) j, -((thrL p.rules).getD (sch.getD (j - 1) 0).toNat thr0).bound.c)] else []) ++ (List.range x).map fun x : Nat => rwL vars (aftD p.rules 3 5 x j, 0) := ⟨_, rfl⟩
 obtain ⟨B, hB⟩ : ∃ B : Nat → Nat → List Row, B = fun j x => A j p.states.length ++ (List.range x).map fun x : Nat => rwL vars (aftD p.rules 4 6 x j, 0) := ⟨_, rfl⟩
 have hR0 : R 0 = rows := by rw [hR]; simp [seD]
 have hA0 : ∀ j : Nat, 0 < j → A j 0 = R j ++ [rwL vars (guaD p ((thrL p.rules).getD (sch.getD ((j : Int) - 1).toNat 0).toNat thr0) j, -((thrL p.rules).getD (sch.getD ((j : Int) - 1).toNat 0).toNat thr0).bound.c)] := fun j h => by
  rw [hA, show ((j : Int) - 1).toNat = j - 1 by omega]; simp only [if_pos h, List.range_zero, List.map_nil, List.append_nil]
 have hAz : ∀ j : Nat, ¬ 0 < j → A j 0 = R j := fun j h => by
  rw [hA]; simp only [if_neg h, List.range_zero, List.map_nil, List.append_nil]
 have hAn : ∀ j x : Nat, A j (x + 1) = A j x ++ [rwL vars (aftD p.rules 3 5 x j, 0)] := fun j x => by
  rw [hA]; simp only [List.range_succ, List.map_append, List.map_cons, List.map_nil, List.append_assoc]
 have hB0 : ∀ j, B j 0 = A j p.states.length := fun j => by rw [hB]; simp
 have hBn : ∀ j x : Nat, B j (x + 1) = B j x ++ [rwL vars (aftD p.rules 4 6 x j, 0)] := fun j x => by
  rw [hB]; simp only [List.range_succ, List.map_append, List.map_cons, List.map_nil, List.append_assoc]
 have hRl : ∀ j, j ≤ sch.length + 1 → (R j).length ≤ 2000 := fun j hj => by
  have := seD_len (p := p) (by omega) sch vars j
  rw [hR]; simp only [List.length_append]; omega
 have hAl : ∀ j x, j ≤ sch.length + 1 → x ≤ p.states.length → (A j x).length ≤ 3000 := fun j x hj hx => by
  have a := hRl j hj
  have : (if 0 < j then [rwL vars (guaD p ((thrL p.rules).getD (sch.getD (j - 1) 0).toNat thr0) j, -((thrL p.rules).getD (sch.getD (j - 1) 0).toNat thr0).bound.c)] else []).length ≤ 1 := by split <;> simp
  rw [hA]; simp only [List.length_append, List.length_map, List.length_range]; omega
 have hBl : ∀ j x, j ≤ sch.length + 1 → x ≤ p.states.length → (B j x).length ≤ 4000 := fun j x hj hx => by
  have a := hAl j p.states.length hj (Nat.le_refl _)
  rw [hB]; simp only [List.length_append, List.length_map, List.length_range]; omega
 have hRn : ∀ j, R (j + 1) = if whB p then B j p.states.length else B j 0 := fun j => by
  by_cases h1 : 0 < j <;> by_cases h2 : whB p <;> simp [hR, hA, hB, seD_snoc, segD, h1, h2, List.map_map, Function.comp_def]
 rw [show rows ++ seD p sch vars (sch.length + 1) = R (sch.length + 1) by rw [hR]]
 clear hR hA hB
 refine Spec.renorm 400 (R := fun u M => u = .tup [] ∧ memR idDK 400 M (dbN p vars (R (sch.length + 1)))) ?_ ?_
 case refine_2 =>
  rintro u M ⟨rfl, hM⟩
  exact ⟨idDK, _, .tup [], rfl, hM, trivial, rfl, rfl⟩
 refine Spec.intro tt_ok mx_ok (dbL p vars rows) Tryz.func49 rfl (by decide) ?_
 conv => whnf
 (refine oP (thresholdsT_R p hp hV) ?_; conv => whnf)
 refine WPc.loopF tt_ok mx_ok (fun j : Nat => j ≤ sch.length + 1) (fun j => [(6, .int .i64 (j : Int))]) (fun j => dbN p vars (R j)) (fun j => sch.length + 1 - j) 0 (Nat.zero_le _) ?_; conv => whnf
 refine ⟨by rw [hR0]; exact Sub.by_ idDE _ 400 rfl (auto_) (auto_), ?_⟩
 rintro j hj
 conv => whnf
 refine cmpI ?_ ?_ <;> (intro h1; conv => whnf)
 ·have hjl : j ≤ sch.length := by omega
  have hRl1 := hRl j hj
  apply once (A := WPc Tryz.prog _ (.loop _) ([.ptr 200 0, .sl 0 encI sch, .top, .top, .sl thr0 encThr (thrL p.rules), .int .i64 0, .int .i64 (j : Int), .int .i64 0, .top, .top, .ptr 200 0, .ptr 200 0, .ptr 200 (0 + 0), .agg (encP p), .top, .sl thr0 encThr (thrL p.rules), .int .i64 0] ++ List.replicate 81 .top) (Mem.ofL (dbN p vars (A j 0))) _)
  case k =>
   intro hs0
   refine cmpI ?_ ?_ <;> (intro h2; conv => whnf)
   rotate_left
   ·exact WPc.sub (by rw [hAz j (by omega)]; exact Sub.by_ idDK _ 400 rfl (auto_) (auto_)) hs0
   ·have hA1 := hA0 j (by omega)
    have hb1 := hs ((j : Int) - 1).toNat (by omega)
    have hc := hgua (R j) j ⟨by omega, hjl⟩
    apply once6
    case k =>
     intro o1 o2 o3 o4 o5 o6
     refine drawC [0, 1, 2, 3, 5, 6, 7, 8, 11, 13, 14, 18, 19] (by decide +kernel) ?_
     conv => whnf
     repeat' first
      |exact True.intro
      |(refine And.intro ?_ ?_ <;> conv => whnf)
      |(refine leakN ?_; conv => whnf)
      |(refine needI (by clear o1 o2 o3 o4 o5 o6; omega) ?_; conv => whnf)
      |(refine arI trivial (by clear o1 o2 o3 o4 o5 o6; omega) ?_; conv => whnf)
      |(refine Spec.call idDW (dbL p vars (R j)) 400 rfl (auto_) (auto_) hc ?_; rintro u M' ⟨rfl, rfl⟩; refine ⟨idDV, dbG 202 p vars (R j), .agg [.sl 0 encI (vars.map (guaD p ((thrL p.rules).getD (sch.getD ((j : Int) - 1).toNat 0).toNat thr0) j)), .int .i64 (-((thrL p.rules).getD (sch.getD ((j : Int) - 1).toNat 0).toNat thr0).bound.c)], rfl, (auto_), (auto_), ?_⟩; conv => whnf)
      |(refine bldI row0 encRw [rwL vars (guaD p ((thrL p.rules).getD (sch.getD ((j : Int) - 1).toNat 0).toNat thr0) j, -((thrL p.rules).getD (sch.getD ((j : Int) - 1).toNat 0).toNat thr0).bound.c)] rfl ?_; conv => whnf)
      |(refine appI [rwL vars (guaD p ((thrL p.rules).getD (sch.getD ((j : Int) - 1).toNat 0).toNat thr0) j, -((thrL p.rules).getD (sch.getD ((j : Int) - 1).toNat 0).toNat thr0).bound.c)] rfl (by clear o1 o2 o3 o4 o5 o6; simp only [List.length_cons, List.length_nil]; omega) ?_; conv => whnf)
      |with_reducible exact o1
      |with_reducible exact o2
      |with_reducible exact o3
      |with_reducible exact o4
      |with_reducible exact o5
      |with_reducible exact o6
      |fail
    all_goals try first
     |exact True.intro
     |exact True
    all_goals
     exact WPc.sub (by rw [hA1]; exact Sub.by_ [(200, .old 200), (201, .old 201), (202, .old 42)] _ 400 rfl (auto_) (auto_)) hs0
  case h =>
   refine WPc.loopF tt_ok mx_ok (fun x : Nat => x ≤ p.states.length) (fun x => [(7, .int .i64 (x : Int))]) (fun x => dbN p vars (A j x)) (fun x => p.states.length - x) 0 (Nat.zero_le _) ?_; conv => whnf
   refine ⟨Sub.by_ idDK _ 400 rfl (auto_) (auto_), ?_⟩
   rintro x hx
   conv => whnf
   refine cmpI ?_ ?_ <;> (intro h3; conv => whnf)
   ·have hl1 := hAl j x hj hx
    have hA1 := hAn j x
    have hc := haft (A j x) j x
    generalize aftD p.rules 3 5 x j = AF at *
    apply once6
    case k =>
     intro o1 o2 o3 o4 o5 o6
     refine drawC [0, 1, 2, 3, 5, 6, 7, 11, 12] (by decide +kernel) ?_
     conv => whnf
     repeat' first
      |exact True.intro
      |(refine And.intro ?_ ?_ <;> conv => whnf)
      |(refine leakN ?_; conv => whnf)
      |(refine needI (by clear o1 o2 o3 o4 o5 o6; omega) ?_; conv => whnf)
      |(refine arI trivial (by clear o1 o2 o3 o4 o5 o6; omega) ?_; conv => whnf)
      |(refine Spec.call idDW (dbL p vars (A j x)) 400 rfl (auto_) (auto_) hc ?_; rintro u M' ⟨rfl, rfl⟩; refine ⟨idDV, dbG 202 p vars (A j x), .agg [.sl 0 encI (vars.map AF), .int .i64 0], rfl, (auto_), (auto_), ?_⟩; conv => whnf)
      |(refine bldI row0 encRw [rwL vars (AF, 0)] rfl ?_; conv => whnf)
      |(refine appI [rwL vars (AF, 0)] rfl (by clear o1 o2 o3 o4 o5 o6; simp only [List.length_cons, List.length_nil]; omega) ?_; conv => whnf)
      |with_reducible exact o1
      |with_reducible exact o2
      |with_reducible exact o3
      |with_reducible exact o4
      |with_reducible exact o5
      |with_reducible exact o6
      |fail
    all_goals try first
     |exact True.intro
     |exact True
    all_goals
     repeat' ((first|refine nI ?_|refine aI ?_|refine tI ?_|refine fI ?_|fail);conv => whnf)
     refine ⟨x + 1, ?_, by omega, by dsimp only; omega⟩
     dsimp only
     rw [hA1]
     exact Sub.by_ [(200, .old 200), (201, .old 201), (202, .old 65)] _ 400 rfl (auto_) (auto_)
   ·obtain rfl : x = p.states.length := by omega
    refine WPc.loopF tt_ok mx_ok (fun x : Nat => x ≤ p.states.length ∧ (¬ whB p → x = 0)) (fun x => [(8, .int .i64 (x : Int))]) (fun x => dbN p vars (B j x)) (fun x => p.states.length - x) 0 ⟨Nat.zero_le _, fun _ => rfl⟩ ?_; conv => whnf
    refine ⟨by rw [hB0]; exact Sub.by_ idDK _ 400 rfl (auto_) (auto_), ?_⟩
    rintro x ⟨hx, hx0⟩
    conv => whnf
    refine cmpI ?_ ?_ <;> (intro h3; conv => whnf)
    ·refine dC (withholdingR p) (fun _ => ?_) (fun _ => ?_) <;> (conv => whnf)
     ·rename_i hw
      have hl1 := hBl j x hj hx
      have hB1 := hBn j x
      have hc := hafq (B j x) j x
      generalize aftD p.rules 4 6 x j = AF at *
      apply once6
      case k =>
       intro o1 o2 o3 o4 o5 o6
       refine drawC [0, 1, 2, 3, 5, 6, 7, 11, 12] (by decide +kernel) ?_
       conv => whnf
       repeat' first
        |exact True.intro
        |(refine And.intro ?_ ?_ <;> conv => whnf)
        |(refine leakN ?_; conv => whnf)
        |(refine needI (by clear o1 o2 o3 o4 o5 o6; omega) ?_; conv => whnf)
        |(refine arI trivial (by clear o1 o2 o3 o4 o5 o6; omega) ?_; conv => whnf)
        |(refine Spec.call idDW (dbL p vars (B j x)) 400 rfl (auto_) (auto_) hc ?_; rintro u M' ⟨rfl, rfl⟩; refine ⟨idDV, dbG 202 p vars (B j x), .agg [.sl 0 encI (vars.map AF), .int .i64 0], rfl, (auto_), (auto_), ?_⟩; conv => whnf)
        |(refine bldI row0 encRw [rwL vars (AF, 0)] rfl ?_; conv => whnf)
        |(refine appI [rwL vars (AF, 0)] rfl (by clear o1 o2 o3 o4 o5 o6; simp only [List.length_cons, List.length_nil]; omega) ?_; conv => whnf)
        |with_reducible exact o1
        |with_reducible exact o2
        |with_reducible exact o3
        |with_reducible exact o4
        |with_reducible exact o5
        |with_reducible exact o6
        |fail
      all_goals try first
       |exact True.intro
       |exact True
      all_goals
       repeat' ((first|refine nI ?_|refine aI ?_|refine tI ?_|refine fI ?_|fail);conv => whnf)
       refine ⟨x + 1, ?_, ⟨by omega, fun h => absurd hw h⟩, by dsimp only; omega⟩
       dsimp only
       rw [hB1]
       exact Sub.by_ [(200, .old 200), (201, .old 201), (202, .old 95)] _ 400 rfl (auto_) (auto_)
     ·rename_i hw
      have hRn1 := hRn j
      rw [if_neg hw, ← hx0 hw] at hRn1
      repeat' ((first|refine nI ?_|refine aI ?_|refine tI ?_|refine fI ?_|fail);conv => whnf)
      refine ⟨j + 1, ?_, by omega, by dsimp only; omega⟩
      dsimp only
      rw [hRn1]
      exact Sub.by_ idDK _ 400 rfl (auto_) (auto_)
    ·have hRn1 := hRn j
     obtain rfl : x = p.states.length := by omega
     have hw : whB p := Classical.byContradiction fun h => by have := hx0 h; omega
     rw [if_pos hw] at hRn1
     repeat' ((first|refine nI ?_|refine aI ?_|refine tI ?_|refine fI ?_|fail);conv => whnf)
     refine ⟨j + 1, ?_, by omega, by dsimp only; omega⟩
     dsimp only
     rw [hRn1]
     exact Sub.by_ idDK _ 400 rfl (auto_) (auto_)
 ·obtain rfl : j = sch.length + 1 := by omega
  exact ⟨rfl, (auto_)⟩
def idlD (p : Pro) (seg : Nat) (r : Rul) (ch : Int) : Rw :=
 if ch = 0 then (scC zC (-1) (aftD p.rules 3 5 r.src seg), 0)
 else
  let g := r.guards.getD (ch - 1).toNat thr0
  (if p.fault = 1 then scC (scC (linC g.bound) (-g.coef) (sntD p.rules 5 g.message (seg + 1))) (-g.coef) (sntD p.rules 6 g.message (seg + 1)) else scC (linC g.bound) (-g.coef) (sntD p.rules 5 g.message (seg + 1)), g.bound.c - 1)
def endD (p : Pro) (q : Prp) (seg : Nat) (C : List Int) : List Rw :=
 if q.kind = 1 then q.bad.map fun c => (amgD p seg c.states, -c.least)
 else (amgD p seg (outL p q), -1) :: (List.range C.length).map fun i => idlD p seg (p.rules.getD i rul0) (C.getD i 0)
theorem dendN (p : Pro) (q : Prp) (vars : List Vb) (rows : List Row) (hv : vars.length ≤ 1000) (hrl : p.rules.length ≤ 1000) (hru : rulB p vars) (hr : rows.length ≤ 2000) (hk : q.kind = 1) (hbl : q.bad.length ≤ 1000)
  (hbad : ∀ i, i < q.bad.length → (q.bad.getD i cnt0).states.length ≤ 1000 ∧ 0 ≤ (q.bad.getD i cnt0).least ∧ (q.bad.getD i cnt0).least ≤ 1000) (seg : Nat) (C : List Int) :
  Spec Tryz.prog 50 [.ptr 200 0, .agg (encQ q), .int .i64 (seg : Int), .sl 0 encI C] (Mem.ofL (dbL p vars rows)) (fun u M => u = .tup [] ∧ M = Mem.ofL (dbN p vars (rows ++ (endD p q seg C).map (rwL vars)))) := by
 obtain ⟨R, hR⟩ : ∃ R : Nat → List Row, R = fun x => rows ++ (q.bad.take x).map fun c => rwL vars (amgD p seg c.states, -c.least) := ⟨_, rfl⟩
 have hR0 : R 0 = rows := by rw [hR]; simp
 have hRn : ∀ x, x < q.bad.length → R (x + 1) = R x ++ [rwL vars (amgD p seg (q.bad.getD (x : Int).toNat cnt0).states, -(q.bad.getD (x : Int).toNat cnt0).least)] := fun x hx => by
  rw [hR, tN]
  dsimp only
  rw [List.take_succ_eq_append_getElem hx, List.map_append, ← List.append_assoc, getD_elem cnt0 hx]
  rfl
 have hRl : ∀ x, x ≤ q.bad.length → (R x).length ≤ 4000 := fun x hx => by
  rw [hR]; simp only [List.length_append, List.length_map, List.length_take]; omega
 have hend : rows ++ (endD p q seg C).map (rwL vars) = R q.bad.length := by
  rw [hR]; dsimp only; rw [List.take_length]; unfold endD; rw [if_pos hk, List.map_map]; rfl
 rw [hend]
 have hg := fun x (hx : x < q.bad.length) => dgatP p vars (R x) (by omega) hrl hru seg (q.bad.getD (x : Int).toNat cnt0).states (by rw [tN]; exact (hbad x hx).1) (q.bad.getD (x : Int).toNat cnt0).least (by rw [tN]; exact (hbad x hx).2)
 clear hR hend
 refine Spec.renorm 400 (R := fun u M => u = .tup [] ∧ memR idDK 400 M (dbN p vars (R q.bad.length))) ?_ ?_
 case refine_2 =>
  rintro u M ⟨rfl, hM⟩
  exact ⟨idDK, _, .tup [], rfl, hM, trivial, rfl, rfl⟩
 refine Spec.intro tt_ok mx_ok (dbL p vars rows) Tryz.func50 rfl (by decide) ?_
 simp only [padK_eq]
 rw [show Tryz.f50.ntmps = 176 from rfl]
 simp only [codeK]
 simp only [opsK]
 rw [stepK_eq]
 simp only [gv, opnds, List.map_cons, List.map_nil, semK]
 conv => whnf
 refine boxP rfl ?_
 conv => whnf
 refine WPc.loopF tt_ok mx_ok (fun x : Nat => x ≤ q.bad.length) (fun x => [(8, .int .i64 (x : Int))]) (fun x => dbN p vars (R x)) (fun x => q.bad.length - x) 0 (Nat.zero_le _) ?_; conv => whnf
 refine ⟨by rw [hR0]; exact Sub.by_ idDE _ 400 rfl (auto_) (auto_), ?_⟩
 rintro x hx
 conv => whnf
 refine cmpI ?_ ?_ <;> (intro h1; conv => whnf)
 ·have hxl : x < q.bad.length := by omega
  refine cmpT hk ?_
  conv => whnf
  have hR1 := hRn x hxl
  have hl1 := hRl x hx
  have hg1 := hg x hxl
  apply once6
  case k =>
   intro o1 o2 o3 o4 o5 o6
   refine drawC [0, 1, 2, 3, 5, 6, 7, 8, 9, 11, 12, 13, 14, 15, 17, 18, 22, 23] (by decide +kernel) ?_
   conv => whnf
   repeat' first
    |exact True.intro
    |(refine And.intro ?_ ?_ <;> conv => whnf)
    |(refine leakN ?_; conv => whnf)
    |(refine needI (by clear o1 o2 o3 o4 o5 o6; omega) ?_; conv => whnf)
    |(refine arI trivial (by clear o1 o2 o3 o4 o5 o6; omega) ?_; conv => whnf)
    |(refine Spec.call idDW (dbL p vars (R x)) 400 rfl (auto_) (auto_) hg1 ?_; rintro u M' ⟨rfl, rfl⟩; refine ⟨idDV, dbG 202 p vars (R x), .agg [.sl 0 encI (vars.map (amgD p seg (q.bad.getD (x : Int).toNat cnt0).states)), .int .i64 (-(q.bad.getD (x : Int).toNat cnt0).least)], rfl, (auto_), (auto_), ?_⟩; conv => whnf)
    |(refine bldI row0 encRw [rwL vars (amgD p seg (q.bad.getD (x : Int).toNat cnt0).states, -(q.bad.getD (x : Int).toNat cnt0).least)] rfl ?_; conv => whnf)
    |(refine appI [rwL vars (amgD p seg (q.bad.getD (x : Int).toNat cnt0).states, -(q.bad.getD (x : Int).toNat cnt0).least)] rfl (by clear o1 o2 o3 o4 o5 o6; simp only [List.length_cons, List.length_nil]; omega) ?_; conv => whnf)
    |with_reducible exact o1
    |with_reducible exact o2
    |with_reducible exact o3
    |with_reducible exact o4
    |with_reducible exact o5
    |with_reducible exact o6
    |fail
  all_goals try first
   |exact True.intro
   |exact True
  all_goals
   repeat' ((first|refine nI ?_|refine aI ?_|refine tI ?_|refine fI ?_|fail);conv => whnf)
   refine ⟨x + 1, ?_, by omega, by dsimp only; omega⟩
   dsimp only
   rw [hR1]
   exact Sub.by_ [(200, .old 200), (201, .old 201), (202, .old 48)] _ 400 rfl (auto_) (auto_)
 ·obtain rfl : x = q.bad.length := by omega
  refine cmpT hk ?_
  conv => whnf
  exact ⟨rfl, (auto_)⟩
theorem rw_congr {V : List Vb} {r s : Rw} (h : ∀ v ∈ V, r.1 v = s.1 v) (h2 : r.2 = s.2) : rwL V r = rwL V s := by
 unfold rwL
 rw [h2, List.map_congr_left h]
theorem rows_congr {α : Type} {V : List Vb} {f g : α → Rw} (l : List α) (h : ∀ a ∈ l, rwL V (f a) = rwL V (g a)) : (l.map f).map (rwL V) = (l.map g).map (rwL V) := by
 rw [List.map_map, List.map_map]
 exact List.map_congr_left h
section
variable {p : Pro} {q : Prp} {sch : List Int} (hq : propE p q = 0) (ht : thrB p)
include hq
theorem stp_same {kind : Int} (hk : kind = 3 ∨ kind = 4) (l : Lin) (hl : l.c = 0) : rwL (varL p q sch) (stpD kind l, 0) = rwL (varL p q sch) (staW kind p.states.length 1 l) := by
 refine rw_congr (fun v hv => ?_) ?_
 ·have := st_same (var_kind hq hv) hk
  show stD kind v + -1 * linC l v = zC v + 1 * stC kind p.states.length v + -1 * linC l v
  rw [this]; unfold zC; omega
 ·show (0 : Int) = -1 * l.c
  rw [hl]; rfl
theorem stm_same {kind : Int} (hk : kind = 3 ∨ kind = 4) (l : Lin) (hl : l.c = 0) : rwL (varL p q sch) (stmD kind l, 0) = rwL (varL p q sch) (staW kind p.states.length (-1) l) := by
 refine rw_congr (fun v hv => ?_) ?_
 ·have := st_same (var_kind hq hv) hk
  show zC v + -1 * (stD kind v + -1 * linC l v) = zC v + -1 * stC kind p.states.length v + (- -1) * linC l v
  rw [this, Int.neg_neg]; unfold zC; omega
 ·show (0 : Int) = - -1 * l.c
  rw [hl]; rfl
theorem par_same : (parD p).map (rwL (varL p q sch)) = ((parL p).map parW ++ staL p).map (rwL (varL p q sch)) := by
 have e1 := stp_same (sch := sch) hq (kind := 3) (.inl rfl) lS rfl
 have e2 := stm_same (sch := sch) hq (kind := 3) (.inl rfl) lS rfl
 have e3 := stp_same (sch := sch) hq (kind := 4) (.inr rfl) lF rfl
 have e4 := stm_same (sch := sch) hq (kind := 4) (.inr rfl) lF rfl
 unfold parD staL
 by_cases h : whB p
 ·rw [if_pos h, if_pos h]
  simp only [List.map_append, List.map_cons, List.map_nil, e1, e2, e3, e4, List.append_assoc]
  rfl
 ·rw [if_neg h, if_neg h]
  simp only [List.map_append, List.map_cons, List.map_nil, e1, e2, List.append_assoc]
  rfl
include ht
theorem aftw_same {start fire : Int} (hs : start = 3 ∧ fire = 5 ∨ start = 4 ∧ fire = 6) (x j : Nat) : rwL (varL p q sch) (aftD p.rules start fire x j, 0) = rwL (varL p q sch) (aftW p start fire x j) := by
 refine rw_congr (fun v hv => ?_) rfl
 have := aft_same ht (var_kind hq hv) (state := x) (seg := j) hs
 show aftD p.rules start fire x j v = zC v + 1 * aftS p.rules start fire x (j + 1) 0 v
 rw [this]; unfold zC; omega
omit ht
theorem snt6_zero (hw : ¬ whB p) {v : Vb} (hv : v ∈ varL p q sch) (message : Int) (j : Nat) : sntS p.rules 6 message j 0 v = 0 := by
 rw [← snt_same (var_kind hq hv) (.inr rfl)]
 unfold sntD
 have := var_kind hq hv
 rw [if_neg]
 rintro ⟨h1, _⟩
 rcases this with (rfl | rfl | rfl) | h | h
 ·dsimp only at h1; omega
 ·dsimp only at h1; omega
 ·dsimp only at h1; omega
 ·omega
 ·rcases h.1 with h | h
  ·omega
  ·exact hw h.2
theorem gua_same (g : Thr) (j : Nat) : rwL (varL p q sch) (guaD p g j, -g.bound.c) = rwL (varL p q sch) (guaW p g j) := by
 refine rw_congr (fun v hv => ?_) rfl
 have h5 := snt_same (var_kind hq hv) (message := g.message) (seg := j) (fire := 5) (.inl rfl)
 have h6 := snt_same (var_kind hq hv) (message := g.message) (seg := j) (fire := 6) (.inr rfl)
 have h0 := fun hw => snt6_zero (sch := sch) hq hw hv g.message j
 show guaD p g j v = (guaW p g j).1 v
 unfold guaD guaW
 dsimp only
 by_cases hw : whB p
 ·have h3 : ¬ p.fault = 3 := by unfold whB at hw; omega
  rw [if_pos hw, if_neg h3]
  unfold scC
  rw [h5, h6]
 ·have h0' := h0 hw
  rw [if_neg hw]
  by_cases h3 : p.fault = 3
  ·rw [if_pos h3, if_pos h3]
   unfold scC addC
   dsimp only
   rw [h5, h0']
   unfold linC lF
   dsimp only
   by_cases e : v = ⟨2, 0, 0⟩
   ·subst e
    simp only [if_true]
    rw [if_neg (by intro h; cases h), if_neg (by intro h; cases h)]
    omega
   ·rw [if_neg e, if_neg e]
    simp
    exact fun h => absurd h e
  ·rw [if_neg h3, if_neg h3]
   unfold scC
   rw [h5, h0']
   simp
include ht
theorem seg_same (j : Nat) : (segD p sch j).map (rwL (varL p q sch)) = (segL p sch j).map (rwL (varL p q sch)) := by
 unfold segD segL
 rw [List.map_append, List.map_append, List.map_append, List.map_append]
 congr 1
 ·congr 1
  ·split
   ·rw [List.map_cons, List.map_cons, gua_same hq, List.map_nil]
   ·rfl
  ·exact rows_congr _ fun x _ => aftw_same hq ht (.inl ⟨rfl, rfl⟩) x j
 ·split
  ·exact rows_congr _ fun x _ => aftw_same hq ht (.inr ⟨rfl, rfl⟩) x j
  ·rfl
theorem amg_same (seg : Nat) (states : List Int) (least : Int) : rwL (varL p q sch) (amgD p seg states, -least) = rwL (varL p q sch) (amgW p seg states least) := by
 refine rw_congr (fun v hv => ?_) rfl
 have key : ∀ (l : List Int) (c d : Co), c v = d v → l.foldl (fun c x => scC c 1 (aftD p.rules 3 5 x seg)) c v = l.foldl (fun c x => scC c 1 (aftS p.rules 3 5 x (seg + 1) 0)) d v := by
  intro l
  induction l with
  |nil => intro c d h; exact h
  |cons x l ih =>
   intro c d h
   rw [List.foldl_cons, List.foldl_cons]
   refine ih _ _ ?_
   unfold scC
   rw [h, aft_same ht (var_kind hq hv) (.inl ⟨rfl, rfl⟩)]
 exact key states zC zC rfl
theorem idl_same (seg : Nat) (r : Rul) (ch : Int) : rwL (varL p q sch) (idlD p seg r ch) = rwL (varL p q sch) (idlW p seg r ch) := by
 unfold idlD idlW
 by_cases h : ch = 0
 ·rw [if_pos h, if_pos h]
  refine rw_congr (fun v hv => ?_) rfl
  show zC v + -1 * aftD p.rules 3 5 r.src seg v = zC v + -1 * aftS p.rules 3 5 r.src (seg + 1) 0 v
  rw [aft_same ht (var_kind hq hv) (.inl ⟨rfl, rfl⟩)]
 ·rw [if_neg h, if_neg h]
  dsimp only
  generalize r.guards.getD (ch - 1).toNat thr0 = g
  refine rw_congr (fun v hv => ?_) rfl
  have h5 := snt_same (var_kind hq hv) (message := g.message) (seg := seg + 1) (fire := 5) (.inl rfl)
  have h6 := snt_same (var_kind hq hv) (message := g.message) (seg := seg + 1) (fire := 6) (.inr rfl)
  dsimp only
  by_cases hf : p.fault = 1
  ·rw [if_pos hf, if_pos hf]
   unfold scC
   rw [h5, h6]
   unfold zC; omega
  ·rw [if_neg hf, if_neg hf]
   unfold scC
   rw [h5]
   unfold zC; omega
theorem end_same (seg number : Nat) : (endD p q seg (chL p number)).map (rwL (varL p q sch)) = (vioL p q seg number).map (rwL (varL p q sch)) := by
 unfold endD vioL
 split
 ·exact rows_congr _ fun c _ => amg_same hq ht seg c.states c.least
 ·rw [List.map_cons, List.map_cons, chL_len]
  congr 1
  ·exact amg_same hq ht seg (outL p q) 1
  ·exact rows_congr _ fun i _ => idl_same hq ht seg _ _
theorem rows_same (number : Int) : (parD p).map (rwL (varL p q sch)) ++ seD p sch (varL p q sch) (sch.length + 1) ++ (if 0 ≤ number then (endD p q sch.length (chL p number.toNat)).map (rwL (varL p q sch)) else []) = rowsB p q sch number := by
 unfold rowsB sysL seD
 rw [par_same hq, List.map_append, List.map_append, List.map_append, List.map_append]
 congr 1
 ·congr 1
  rw [List.map_flatMap, List.map_flatMap]
  congr 1
  funext j
  exact seg_same hq ht j
 ·split
  ·exact end_same hq ht _ _
  ·rfl
end
end Go.Proofs.YtfoplfpbjajljaaGreatDoor
