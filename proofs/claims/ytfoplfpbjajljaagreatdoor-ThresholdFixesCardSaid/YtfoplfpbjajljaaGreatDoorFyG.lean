import Derived.Test.YtfoplfpbjajljaaGreatDoorY3
import Derived.Test.YtfoplfpbjajljaaGreatDoorW3
import Derived.Test.YtfoplfpbjajljaaGreatDoorX0
set_option linter.unusedVariables false
set_option linter.unusedSimpArgs false
namespace Go.Proofs.YtfoplfpbjajljaaGreatDoor
set_option maxRecDepth 100000
set_option maxHeartbeats 16000000
theorem dendE (p : Pro) (q : Prp) (vars : List Vb) (rows : List Row) (hv : vars.length ≤ 1000) (hst : p.states.length ≤ 1000) (hrl : p.rules.length ≤ 1000) (hru : rulB p vars) (hsd : ∀ i, i < p.rules.length → (p.rules.getD i rul0).send.length ≤ 60) (hr : rows.length ≤ 2000) (hk : ¬ q.kind = 1) (hb0 : q.bad.length = 0) (hgo : q.goal.length ≤ 1000)
  (hlin : ∀ rows l, Spec Tryz.prog 85 [.ptr 200 0, .agg (encLin l)] (Mem.ofL (dbL p vars rows)) (fun u M => u = .agg [.sl 0 encI (vars.map (linC l)), .int .i64 l.c] ∧ M = Mem.ofL (dbL p vars rows)))
  (seg : Nat) (hsg : seg ≤ 100) (C : List Int) (hC : C.length = p.rules.length) (hg : ∀ i, i < p.rules.length → (∀ g ∈ (p.rules.getD i rul0).guards, (1 ≤ g.coef ∧ g.coef ≤ 100) ∧ bndB g.bound) ∧ (p.rules.getD i rul0).guards.length ≤ 1000 ∧ 0 ≤ C.getD i 0 ∧ C.getD i 0 ≤ (p.rules.getD i rul0).guards.length) :
  Spec Tryz.prog 50 [.ptr 200 0, .agg (encQ q), .int .i64 (seg : Int), .sl 0 encI C] (Mem.ofL (dbL p vars rows)) (fun u M => u = .tup [] ∧ M = Mem.ofL (dbN p vars (rows ++ (endD p q seg C).map (rwL vars)))) := by
 have hin5 := fun x hx hk => hru x hx (.inl hk)
 have hin6 := fun x hx hk => hru x hx (.inr hk)
 obtain ⟨R, hR⟩ : ∃ R : Nat → List Row, R = fun x => rows ++ ((amgD p seg (outL p q), -1) :: (List.range x).map fun i => idlD p seg (p.rules.getD i rul0) (C.getD i 0)).map (rwL vars) := ⟨_, rfl⟩
 have hR0 : R 0 = rows ++ [rwL vars (amgD p seg (oL q.goal p.states.length), -1)] := by rw [hR]; rfl
 have hRn : ∀ x, R (x + 1) = R x ++ [rwL vars (idlD p seg (p.rules.getD x rul0) (C.getD x 0))] := fun x => by
  rw [hR]
  dsimp only
  rw [List.range_succ]
  simp only [List.map_append, List.map_cons, List.map_nil, List.append_assoc, List.cons_append]
 have hRl : ∀ x, x ≤ p.rules.length → (R x).length ≤ 4000 := fun x hx => by
  rw [hR]; simp only [List.length_append, List.length_map, List.length_cons, List.length_range]; omega
 have hend : rows ++ (endD p q seg C).map (rwL vars) = R C.length := by
  rw [hR]; unfold endD; rw [if_neg hk]
 rw [hend]
 have hol := oL_len q.goal
 have hgat := dgatP p vars rows (by omega) hrl hru seg (oL q.goal p.states.length) (by have := hol p.states.length; omega) 1 (by omega)
 have hO0 := oL_zero q.goal
 have hOn := oL_succ q.goal
 have hrow := fun rows => drowG p vars rows (by omega)
 have haft := fun rows state => daftP p vars rows (by omega) hrl hin5 seg state
 have hs5 := fun rows message => dsntP p vars rows (by omega) hrl hsd hin5 message (seg + 1)
 have hs6 := fun rows message => dsntQ p vars rows (by omega) hrl hsd hin6 message (seg + 1)
 generalize amgD p seg (oL q.goal p.states.length) = AG at *
 clear hR hend hru hin5 hin6
 generalize hO : oL q.goal = O at *
 clear hO
 refine Spec.renorm 400 (R := fun u M => u = .tup [] ∧ memR idDK 400 M (dbN p vars (R C.length))) ?_ ?_
 case refine_2 =>
  rintro u M ⟨rfl, hM⟩
  exact ⟨idDK, _, .tup [], rfl, hM, trivial, rfl, rfl⟩
 refine Spec.intro tt_ok mx_ok (dbL p vars rows) Tryz.func50 rfl (by decide) ?_
 simp only [padK_eq]
 rw [show Tryz.f50.ntmps = 176 from rfl]
 simp only [codeK]
 simp only [opsK]
 rw [stepK_eq]
 simp only [gv, opnds, List.map_cons, List.map_nil, semK]
 conv => whnf
 refine boxP rfl ?_
 conv => whnf
 refine WPc.loopF tt_ok mx_ok (fun x : Nat => x = 0) (fun x => [(8, .int .i64 (x : Int))]) (fun _ => dbL p vars rows) (fun x => x) 0 rfl ?_; conv => whnf
 refine ⟨Sub.by_ idD _ 400 rfl (auto_) (auto_), ?_⟩
 rintro x rfl
 conv => whnf
 refine fI ?_
 conv => whnf
 refine cmpF hk ?_
 conv => whnf
 refine WPc.loopF tt_ok mx_ok (fun x : Nat => x ≤ p.states.length) (fun x => [(9, .row 230 (O x).length 1), (10, .int .i64 (x : Int))]) (fun x => dbL p vars rows ++ [(230, .row 3 0 encI (O x))]) (fun x => p.states.length - x) 0 (Nat.zero_le _) ?_; conv => whnf
 refine ⟨by rw [hO0]; exact Sub.by_ (idD ++ [(230, .nil 1)]) _ 400 rfl (auto_) (auto_), ?_⟩
 rintro x hx
 conv => whnf
 refine cmpI ?_ ?_ <;> (intro h1; conv => whnf)
 ·have hO1 := hOn x
  have hl1 := hol x
  repeat' ((first|refine nI ?_|refine aI ?_|refine tI ?_|refine fI ?_|fail);conv => whnf)
  refine dC (inR4 q.goal (x : Int) (by omega)) (fun _ => ?_) (fun _ => ?_) <;> (conv => whnf)
  ·rename_i hm
   rw [if_pos hm, List.append_nil] at hO1
   repeat' ((first|refine nI ?_|refine aI ?_|refine tI ?_|refine fI ?_|fail);conv => whnf)
   refine ⟨x + 1, ?_, by omega, by dsimp only; omega⟩
   dsimp only
   rw [hO1]
   exact Sub.by_ (idD ++ [(230, .old 230)]) _ 400 rfl (auto_) (auto_)
  ·rename_i hm
   rw [if_neg hm] at hO1
   repeat' ((first|refine nI ?_|refine aI ?_|refine tI ?_|refine fI ?_|fail);conv => whnf)
   refine appI [(x : Int)] rfl lI ?_
   conv => whnf
   repeat' ((first|refine nI ?_|refine aI ?_|refine tI ?_|refine fI ?_|fail);conv => whnf)
   refine ⟨x + 1, ?_, by omega, by dsimp only; omega⟩
   dsimp only
   rw [hO1]
   exact Sub.by_ (idD ++ [(230, .old 72)]) _ 400 rfl (auto_) (auto_)
 ·obtain rfl : x = p.states.length := by omega
  apply once (A := WPc Tryz.prog _ (.loop _) ([.ptr 200 0, .top, .int .i64 (seg : Int), .sl 0 encI C] ++ List.replicate 7 .top ++ [.int .i64 0] ++ List.replicate 164 .top) (Mem.ofL (dbN p vars (R 0))) _)
  case k =>
   intro hs0
   apply once6
   case k =>
    intro o1 o2 o3 o4 o5 o6
    refine drawC [0, 1, 2, 3, 5, 6, 7, 11, 12] (by decide +kernel) ?_
    conv => whnf
    repeat' first
     |exact True.intro
     |(refine And.intro ?_ ?_ <;> conv => whnf)
     |(refine leakN ?_; conv => whnf)
     |(refine needI (by clear o1 o2 o3 o4 o5 o6; omega) ?_; conv => whnf)
     |(refine arI trivial (by clear o1 o2 o3 o4 o5 o6; omega) ?_; conv => whnf)
     |(refine Spec.hand 230 rfl ?_; refine Spec.call idD (dbL p vars rows) 400 rfl (auto_) (auto_) hgat ?_; rintro u M' ⟨rfl, rfl⟩; refine ⟨idD, dbL p vars rows, .agg [.sl 0 encI (vars.map AG), .int .i64 (-1)], rfl, (auto_), (auto_), ?_⟩; conv => whnf)
     |(refine bldI row0 encRw [rwL vars (AG, -1)] rfl ?_; conv => whnf)
     |(refine appI [rwL vars (AG, -1)] rfl (by clear o1 o2 o3 o4 o5 o6; simp only [List.length_cons, List.length_nil]; omega) ?_; conv => whnf)
     |with_reducible exact o1
     |with_reducible exact o2
     |with_reducible exact o3
     |with_reducible exact o4
     |with_reducible exact o5
     |with_reducible exact o6
     |fail
   all_goals try first
    |exact True.intro
    |exact True
   all_goals
    exact WPc.sub (by rw [hR0]; exact Sub.by_ [(200, .old 200), (201, .old 201), (202, .old 83)] _ 400 rfl (auto_) (auto_)) hs0
  case h =>
   refine WPc.loopF tt_ok mx_ok (fun x : Nat => x ≤ C.length) (fun x => [(11, .int .i64 (x : Int))]) (fun x => dbN p vars (R x)) (fun x => C.length - x) 0 (Nat.zero_le _) ?_; conv => whnf
   refine ⟨Sub.by_ idDK _ 400 rfl (auto_) (auto_), ?_⟩
   rintro x hx
   conv => whnf
   refine cmpI ?_ ?_ <;> (intro h1; conv => whnf)
   ·have hxl : x < p.rules.length := by omega
    have hl1 := hRl x (by omega)
    have hR1 := hRn x
    obtain ⟨hg1, hg2, hg3, hg4⟩ := hg x hxl
    repeat' ((first|refine nI ?_|refine aI ?_|refine tI ?_|refine fI ?_|fail);conv => whnf)
    rw [tN]
    generalize p.rules.getD x rul0 = r at *
    generalize hch : C.getD x 0 = ch at *
    conv => whnf
    refine cmpI ?_ ?_ <;> (intro h2; conv => whnf)
    ·subst h2
     have am := addE vars zC (aftD p.rules 3 5 r.src seg) 0 0 (-1) 0 (by omega) (by omega) (by omega) (cwB_z (by omega)) (fun v => by have := aftD_b p.rules 3 5 r.src seg v; omega) (by omega) (by omega)
     have ha := haft (R x) r.src
     have hw := hrow (R x)
     have e : idlD p seg r 0 = (scC zC (-1) (aftD p.rules 3 5 r.src seg), 0) := by unfold idlD; rw [if_pos rfl]
     rw [e] at hR1
     clear e
     generalize scC zC (-1) (aftD p.rules 3 5 r.src seg) = I0 at *
     generalize aftD p.rules 3 5 r.src seg = AF at *
     apply once6
     case k =>
      intro o1 o2 o3 o4 o5 o6
      refine drawC [0, 1, 2, 3, 5, 7, 8, 9, 15, 16] (by decide +kernel) ?_
      conv => whnf
      repeat' first
       |exact True.intro
       |(refine And.intro ?_ ?_ <;> conv => whnf)
       |(refine leakN ?_; conv => whnf)
       |(refine needI (by clear o1 o2 o3 o4 o5 o6; omega) ?_; conv => whnf)
       |(refine arI trivial (by clear o1 o2 o3 o4 o5 o6; omega) ?_; conv => whnf)
       |(refine Spec.call idDW (dbL p vars (R x)) 400 rfl (auto_) (auto_) hw ?_; rintro u M' ⟨rfl, rfl⟩; refine ⟨idDV, dbG 202 p vars (R x), .agg [.sl 0 encI (vars.map zC), .int .i64 0], rfl, (auto_), (auto_), ?_⟩; conv => whnf)
       |(refine Spec.call idDW (dbL p vars (R x)) 400 rfl (auto_) (auto_) ha ?_; rintro u M' ⟨rfl, rfl⟩; refine ⟨idDV, dbG 202 p vars (R x), .agg [.sl 0 encI (vars.map AF), .int .i64 0], rfl, (auto_), (auto_), ?_⟩; conv => whnf)
       |(refine oP (am) ?_; conv => whnf)
       |(refine bldI row0 encRw [rwL vars (I0, 0)] rfl ?_; conv => whnf)
       |(refine appI [rwL vars (I0, 0)] rfl (by clear o1 o2 o3 o4 o5 o6; simp only [List.length_cons, List.length_nil]; omega) ?_; conv => whnf)
       |with_reducible exact o1
       |with_reducible exact o2
       |with_reducible exact o3
       |with_reducible exact o4
       |with_reducible exact o5
       |with_reducible exact o6
       |fail
     all_goals try first
      |exact True.intro
      |exact True
     all_goals
      repeat' ((first|refine nI ?_|refine aI ?_|refine tI ?_|refine fI ?_|fail);conv => whnf)
      refine ⟨x + 1, ?_, by omega, by dsimp only; omega⟩
      dsimp only
      rw [hR1]
      exact Sub.by_ [(200, .old 200), (201, .old 201), (202, .old 119)] _ 400 rfl (auto_) (auto_)
    ·refine dI ?_
     conv => whnf
     repeat' ((first|refine nI ?_|refine aI ?_|refine tI ?_|refine fI ?_|fail);conv => whnf)
     rw [tN, hch]
     repeat' ((first|refine nI ?_|refine aI ?_|refine tI ?_|refine fI ?_|fail);conv => whnf)
     have hgm := hg1 _ (mem_getD (l := r.guards) (k := (ch - 1).toNat) thr0 (by omega))
     have e0 := idlD.eq_1 p seg r ch
     rw [if_neg h2] at e0
     rw [e0] at hR1
     clear e0
     dsimp only at hR1
     generalize r.guards.getD (ch - 1).toNat thr0 = g at hR1 hgm ⊢
     repeat' ((first|refine nI ?_|refine aI ?_|refine tI ?_|refine fI ?_|fail);conv => whnf)
     obtain ⟨hgc, hgb⟩ := hgm
     have hbc := hgb.1
     unfold facB at hbc
     have b5 : cwB 10000 (sntD p.rules 5 g.message (seg + 1)) := fun v => by have := sntD_b p.rules 5 g.message (seg + 1) v; omega
     have b6 : cwB 10000 (sntD p.rules 6 g.message (seg + 1)) := fun v => by have := sntD_b p.rules 6 g.message (seg + 1) v; omega
     have kf : facB (-g.coef) := by unfold facB; omega
     have c1 : cwB 1000 (scC (linC g.bound) (-g.coef) (sntD p.rules 5 g.message (seg + 1))) := cwB_mono (cwB_sc (linC_b hgb) kf (sntD_b _ _ _ _)) (by omega)
     have a5 := addE vars (linC g.bound) (sntD p.rules 5 g.message (seg + 1)) g.bound.c 0 (-g.coef) g.bound.c (by omega) (by omega) (by omega) (cwB_mono (linC_b hgb) (by omega)) b5 (by omega) (by omega)
     have a6 := addE vars _ (sntD p.rules 6 g.message (seg + 1)) g.bound.c 0 (-g.coef) g.bound.c (by omega) (by omega) (by omega) (cwB_mono c1 (by omega)) b6 (by omega) (by omega)
     have hl := hlin (R x) g.bound
     have h5 := hs5 (R x) g.message
     have h6 := hs6 (R x) g.message
     clear b5 b6 c1
     generalize scC (linC g.bound) (-g.coef) (sntD p.rules 5 g.message (seg + 1)) = E5 at *
     generalize scC E5 (-g.coef) (sntD p.rules 6 g.message (seg + 1)) = E6 at *
     generalize sntD p.rules 5 g.message (seg + 1) = S5 at *
     generalize sntD p.rules 6 g.message (seg + 1) = S6 at *
     generalize linC g.bound = LB at *
     rw [show -g.coef = 0 - g.coef by omega] at a5 a6
     apply once6
     case k =>
      intro o1 o2 o3 o4 o5 o6
      refine drawP1 [0, 1, 4, 5, 7, 8, 10, 12] (by decide +kernel) ?_
      conv => whnf
      repeat' first
       |exact True.intro
       |(refine And.intro ?_ ?_ <;> conv => whnf)
       |(refine leakN ?_; conv => whnf)
       |(refine needI (by clear o1 o2 o3 o4 o5 o6; omega) ?_; conv => whnf)
       |(refine arI trivial (by clear o1 o2 o3 o4 o5 o6; omega) ?_; conv => whnf)
       |(refine Spec.call idDW (dbL p vars (R x)) 400 rfl (auto_) (auto_) hl ?_; rintro u M' ⟨rfl, rfl⟩; refine ⟨idDV, dbG 202 p vars (R x), .agg [.sl 0 encI (vars.map LB), .int .i64 g.bound.c], rfl, (auto_), (auto_), ?_⟩; conv => whnf)
       |(refine Spec.call idDW (dbL p vars (R x)) 400 rfl (auto_) (auto_) h5 ?_; rintro u M' ⟨rfl, rfl⟩; refine ⟨idDV, dbG 202 p vars (R x), .agg [.sl 0 encI (vars.map S5), .int .i64 0], rfl, (auto_), (auto_), ?_⟩; conv => whnf)
       |(refine oP (a5) ?_; conv => whnf)
       |with_reducible exact o1
       |with_reducible exact o2
       |with_reducible exact o3
       |with_reducible exact o4
       |with_reducible exact o5
       |with_reducible exact o6
       |fail
     all_goals try first
      |exact True.intro
      |exact True
     all_goals
      refine cmpI ?_ ?_ <;> (intro h3; conv => whnf)
      ·rw [if_pos h3] at hR1
       apply once6
       case k =>
        intro o1 o2 o3 o4 o5 o6
        refine drawP1 [1, 2, 4, 5, 7, 9] (by decide +kernel) ?_
        conv => whnf
        repeat' first
         |exact True.intro
         |(refine And.intro ?_ ?_ <;> conv => whnf)
         |(refine leakN ?_; conv => whnf)
         |(refine needI (by clear o1 o2 o3 o4 o5 o6; omega) ?_; conv => whnf)
         |(refine arI trivial (by clear o1 o2 o3 o4 o5 o6; omega) ?_; conv => whnf)
         |(refine Spec.call idDW (dbL p vars (R x)) 400 rfl (auto_) (auto_) h6 ?_; rintro u M' ⟨rfl, rfl⟩; refine ⟨idDV, dbG 202 p vars (R x), .agg [.sl 0 encI (vars.map S6), .int .i64 0], rfl, (auto_), (auto_), ?_⟩; conv => whnf)
         |(refine oP (a6) ?_; conv => whnf)
         |with_reducible exact o1
         |with_reducible exact o2
         |with_reducible exact o3
         |with_reducible exact o4
         |with_reducible exact o5
         |with_reducible exact o6
         |fail
       all_goals try first
        |exact True.intro
        |exact True
       all_goals
        repeat' ((first|refine nI ?_|refine aI ?_|refine tI ?_|refine fI ?_|fail);conv => whnf)
        apply once6
        case k =>
         intro o1 o2 o3 o4 o5 o6
         refine drawC [0, 1, 2, 3, 8, 9] (by decide +kernel) ?_
         conv => whnf
         repeat' first
          |exact True.intro
          |(refine And.intro ?_ ?_ <;> conv => whnf)
          |(refine leakN ?_; conv => whnf)
          |(refine needI (by clear o1 o2 o3 o4 o5 o6; omega) ?_; conv => whnf)
          |(refine arI trivial (by clear o1 o2 o3 o4 o5 o6; omega) ?_; conv => whnf)
          |(refine bldI row0 encRw [rwL vars (E6, g.bound.c - 1)] rfl ?_; conv => whnf)
          |(refine appI [rwL vars (E6, g.bound.c - 1)] rfl (by clear o1 o2 o3 o4 o5 o6; simp only [List.length_cons, List.length_nil]; omega) ?_; conv => whnf)
          |with_reducible exact o1
          |with_reducible exact o2
          |with_reducible exact o3
          |with_reducible exact o4
          |with_reducible exact o5
          |with_reducible exact o6
          |fail
        all_goals try first
         |exact True.intro
         |exact True
        all_goals
         repeat' ((first|refine nI ?_|refine aI ?_|refine tI ?_|refine fI ?_|fail);conv => whnf)
         refine ⟨x + 1, ?_, by omega, by dsimp only; omega⟩
         dsimp only
         rw [hR1]
         exact Sub.by_ [(200, .old 200), (201, .old 201), (202, .old 173)] _ 400 rfl (auto_) (auto_)
      ·rw [if_neg h3] at hR1
       repeat' ((first|refine nI ?_|refine aI ?_|refine tI ?_|refine fI ?_|fail);conv => whnf)
       apply once6
       case k =>
        intro o1 o2 o3 o4 o5 o6
        refine drawC [0, 1, 2, 3, 8, 9] (by decide +kernel) ?_
        conv => whnf
        repeat' first
         |exact True.intro
         |(refine And.intro ?_ ?_ <;> conv => whnf)
         |(refine leakN ?_; conv => whnf)
         |(refine needI (by clear o1 o2 o3 o4 o5 o6; omega) ?_; conv => whnf)
         |(refine arI trivial (by clear o1 o2 o3 o4 o5 o6; omega) ?_; conv => whnf)
         |(refine bldI row0 encRw [rwL vars (E5, g.bound.c - 1)] rfl ?_; conv => whnf)
         |(refine appI [rwL vars (E5, g.bound.c - 1)] rfl (by clear o1 o2 o3 o4 o5 o6; simp only [List.length_cons, List.length_nil]; omega) ?_; conv => whnf)
         |with_reducible exact o1
         |with_reducible exact o2
         |with_reducible exact o3
         |with_reducible exact o4
         |with_reducible exact o5
         |with_reducible exact o6
         |fail
       all_goals try first
        |exact True.intro
        |exact True
       all_goals
        repeat' ((first|refine nI ?_|refine aI ?_|refine tI ?_|refine fI ?_|fail);conv => whnf)
        refine ⟨x + 1, ?_, by omega, by dsimp only; omega⟩
        dsimp only
        rw [hR1]
        exact Sub.by_ [(200, .old 200), (201, .old 201), (202, .old 173)] _ 400 rfl (auto_) (auto_)
   ·obtain rfl : x = C.length := by omega
    exact ⟨rfl, (auto_)⟩
end Go.Proofs.YtfoplfpbjajljaaGreatDoor
