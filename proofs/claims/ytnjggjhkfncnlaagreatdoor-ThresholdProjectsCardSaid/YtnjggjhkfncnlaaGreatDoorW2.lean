import Derived.Test.YtnjggjhkfncnlaaGreatDoorW1
import Derived.Test.YtnjggjhkfncnlaaGreatDoorV1
set_option linter.unusedVariables false
set_option linter.unusedSimpArgs false
namespace Go.Proofs.YtnjggjhkfncnlaaGreatDoor
set_option maxRecDepth 100000
set_option maxHeartbeats 16000000
def mvE : LMap:=[(200, .old 200), (201, .old 201), (202, .old 201), (210, .old 210), (211, .old 211), (212, .old 212), (213, .old 213), (214, .old 214), (215, .old 215), (216, .old 216)]
def mvK : LMap:=[(200, .old 200), (201, .old 201), (202, .old 202), (210, .old 210), (211, .old 211), (212, .old 212), (213, .old 213), (214, .old 214), (215, .old 215), (216, .old 216)]
def mvW : LMap:=[(200, .old 200), (201, .old 202), (210, .old 210), (211, .old 211), (212, .old 212), (213, .old 213), (214, .old 214), (215, .old 215), (216, .old 216)]
def mvV : LMap:=[(200, .old 200), (202, .old 201), (210, .old 210), (211, .old 211), (212, .old 212), (213, .old 213), (214, .old 214), (215, .old 215), (216, .old 216)]
noncomputable abbrev bdG (lr : Nat) (p : Pro) (q : Prp) (sch : List Int) (vars : List Vb) (rows : List Row) : List (Nat × Blk) :=
 [(200, .box 76 (bdC p q sch vars.length lr rows.length)), (lr, .row 154 row0 encRw rows), (210, mpB vars 0), (211, mpB vars 1), (212, mpB vars 2), (213, mpB vars 3), (214, mpB vars 4), (215, mpB vars 5), (216, mpB vars 6)]
theorem once {A B : Prop} (h : A) (k : A → B) : B:=k h
theorem once6 {A1 A2 A3 A4 A5 A6 B : Prop} (k : A1 → A2 → A3 → A4 → A5 → A6 → B) (h1 : A1) (h2 : A2) (h3 : A3) (h4 : A4) (h5 : A5) (h6 : A6) : B:=k h1 h2 h3 h4 h5 h6
theorem st_zero (kind : Int) (c : Co) (k : Int) : scC c k (stC kind 0) = c:=by
 funext v
 have h : ¬ (v.kind = kind ∧ v.seg = 0 ∧ 0 ≤ v.idx ∧ v.idx < (0 : Nat)):=by omega
 unfold scC stC
 rw [if_neg h]; omega
theorem st_b (kind : Int) (n : Nat) (v : Vb) : -2 ≤ stC kind n v ∧ stC kind n v ≤ 2:=by
 unfold stC
 split <;> omega
theorem cwB_z {X : Int} (h : 0 ≤ X) : cwB X zC:=fun v=>by unfold zC; omega
theorem fac_l (x : Nat) (hx : x < 2) : -1 ≤ ([1, -1] : List Int).getD (x : Int).toNat 0 ∧ ([1, -1] : List Int).getD (x : Int).toNat 0 ≤ 1:=by
 obtain rfl | rfl : x = 0 ∨ x = 1:=by omega
 ·decide
 ·decide
theorem staP (p : Pro) (q : Prp) (sch : List Int) (vars : List Vb) (rows : List Row) (hn : vars.Nodup) (hv : vars.length ≤ 1000000) (hr : rows.length ≤ 1000000) (hs : p.states.length ≤ 1000) (kind : Int) (hk : 0 ≤ kind ∧ kind < 7) (l : Lin) (hl : bndB l) :
  Spec Tryz.prog 93 [.ptr 200 0, .int .i64 kind, .agg (encLin l)] (Mem.ofL (bdL p q sch vars rows))
   (fun u M=>u = .tup [] ∧ M = Mem.ofL (bdN p q sch vars (rows ++ [rwL vars (staW kind p.states.length 1 l), rwL vars (staW kind p.states.length (-1) l)]))):=by
 have hF0 : ∀ k, scC zC k (stC kind 0) = zC:=fun k=>st_zero kind zC k
 have hFn : ∀ k i, scC zC k (stC kind (i + 1)) = addC (scC zC k (stC kind i)) ⟨kind, 0, i⟩ k:=fun k i=>st_next kind i zC k
 have hFb : ∀ k i, facB k → cwB 1000 (scC zC k (stC kind i)):=fun k i h=>cwB_mono (cwB_sc (cwB_z (X:=0) (by omega)) h (st_b kind i)) (by omega)
 have hsta : ∀ k, staW kind p.states.length k l = (scC (scC zC k (stC kind p.states.length)) (-k) (linC l), -k * l.c):=fun k=>rfl
 obtain ⟨F, hF⟩ : ∃ F : Int → Nat → Co, F = fun k i=>scC zC k (stC kind i):=⟨_, rfl⟩
 have e0 : ∀ k i, scC zC k (stC kind i) = F k i:=fun k i=>by rw [hF]
 simp only [e0] at hF0 hFn hFb hsta
 clear e0 hF
 obtain ⟨G, hG⟩ : ∃ G : Int → Co, G = fun k=>scC (F k p.states.length) (-k) (linC l):=⟨_, rfl⟩
 have hadd : ∀ rs k (i : Nat), facB k → Spec Tryz.prog 167 [.ptr 200 0, .ptr 220 0, .int .i64 k, .int .i64 kind, .int .i64 0, .int .i64 (i : Int)] (Mem.ofL (adL p q sch vars rs (F k i) 0))
   (fun u M=>u = .tup [] ∧ M = Mem.ofL (adL p q sch vars rs (F k (i + 1)) 0)):=fun rs k i h=>by
  have h' : -100 ≤ k ∧ k ≤ 100:=h
  rw [hFn k i]
  exact addQ p q sch vars rs (F k i) 0 hn hv kind hk 0 i k (cwB_mono (hFb k i h) (by omega)) (by omega)
 have hlin : ∀ rs k, facB k → Spec Tryz.prog 166 [.ptr 200 0, .ptr 220 0, .int .i64 (-k), .agg (encLin l)] (Mem.ofL (adL p q sch vars rs (F k p.states.length) 0))
   (fun u M=>u = .tup [] ∧ M = Mem.ofL (adL p q sch vars rs (G k) (-k * l.c))):=fun rs k h=>by
  have h' : -100 ≤ k ∧ k ≤ 100:=h
  have a:=linP p q sch vars rs (F k p.states.length) 0 hn hv (-k) l (cwB_mono (hFb k _ h) (by omega)) (by omega) (by unfold facB; omega) hl
  rw [Int.zero_add] at a
  rw [hG]
  exact a
 simp only [hsta]
 have hG' : ∀ k, scC (F k p.states.length) (-k) (linC l) = G k:=fun k=>by rw [hG]
 simp only [hG']
 clear hsta hG hG'
 obtain ⟨R, hR⟩ : ∃ R : Nat → List Row, R = fun x=>rows ++ [rwL vars (G 1, -1 * l.c), rwL vars (G (-1), -(-1) * l.c)].take x:=⟨_, rfl⟩
 have hR0 : R 0 = rows:=by rw [hR]; simp
 have hR2 : rows ++ [rwL vars (G 1, -1 * l.c), rwL vars (G (-1), -(-1) * l.c)] = R 2:=by rw [hR]; rfl
 have hRn : ∀ x, x < 2 → R (x + 1) = R x ++ [rwL vars (G (([1, -1] : List Int).getD (x : Int).toNat 0), -(([1, -1] : List Int).getD (x : Int).toNat 0) * l.c)]:=fun x hx=>by
  obtain rfl | rfl : x = 0 ∨ x = 1:=by omega
  ·rw [hR]; simp
  ·rw [hR]; simp
 have hRl : ∀ x, (R x).length ≤ 1000002:=fun x=>by
  rw [hR]; simp only [List.length_append, List.length_take, List.length_cons, List.length_nil]; omega
 rw [hR2]
 subst hR0
 clear hR hR2
 refine Spec.renorm 400 (R:=fun u M=>u = .tup [] ∧ memR mvK 400 M (bdN p q sch vars (R 2))) ?_ ?_
 case refine_2 =>
  rintro u M ⟨rfl, hM⟩
  exact ⟨mvK, _, .tup [], rfl, hM, trivial, rfl, rfl⟩
 refine Spec.intro tt_ok mx_ok (bdL p q sch vars (R 0)) Tryz.func93 rfl (by decide) ?_
 simp only [padK_eq]
 rw [show Tryz.f93.ntmps = 52 from rfl]
 simp only [codeK]
 simp only [opsK]
 rw [stepK_eq]
 simp only [gv, opnds, List.map_cons, List.map_nil, semK]
 conv=>whnf
 refine boxP rfl ?_
 conv=>whnf
 refine WPc.loopF tt_ok mx_ok (fun x : Nat=>x ≤ 2) (fun x=>[(12, .int .i64 (x : Int))]) (fun x=>bdN p q sch vars (R x) ++ [(10, .row 3 0 encI [1, -1])]) (fun x=>2 - x) 0 (Nat.zero_le _) ?_; conv=>whnf
 refine ⟨Sub.by_ (mvE ++ [(10, .old 10)]) _ 400 rfl (auto_) (auto_), ?_⟩
 rintro x hx
 conv=>whnf
 refine cmpI ?_ ?_ <;> (intro h1; conv=>whnf)
 ·have hfl:=fac_l x (by omega)
  have hRn1:=hRn x (by omega)
  have hRl1:=hRl x
  repeat' ((first|refine nI ?_|refine aI ?_|refine tI ?_|refine fI ?_|fail);conv=>whnf)
  generalize ([1, -1] : List Int).getD (x : Int).toNat 0 = k at *
  have hkf : facB k:=by unfold facB; omega
  refine Spec.call mvW (bdL p q sch vars (R x)) 400 rfl (auto_) (auto_) (rowP p q sch vars (R x) hv) ?_
  rintro u M' ⟨rfl, rfl⟩
  refine ⟨mvV ++ [(221, .old 221)], bdG 202 p q sch vars (R x) ++ [(221, .row 3 0 encI (vars.map zC))], .agg [.row 221 vars.length 1, .int .i64 0], rfl, (auto_), (auto_), ?_⟩
  conv=>whnf
  refine WPc.loopF tt_ok mx_ok (fun i : Nat=>i ≤ p.states.length) (fun i=>[(27, .int .i64 (i : Int))]) (fun i=>bdN p q sch vars (R x) ++ [(10, .row 3 0 encI [1, -1]), (8, .box 154 [.row 221 vars.length 1, .int .i64 0]), (221, .row 3 0 encI (vars.map (F k i)))]) (fun i=>p.states.length - i) 0 (Nat.zero_le _) ?_; conv=>whnf
  refine ⟨by rw [hF0 k]; exact Sub.by_ (mvK ++ [(10, .old 10), (8, .old 8), (221, .old 221)]) _ 400 rfl (auto_) (auto_), ?_⟩
  rintro i hi
  conv=>whnf
  refine cmpI ?_ ?_ <;> (intro h2; conv=>whnf)
  ·repeat' ((first|refine nI ?_|refine aI ?_|refine tI ?_|refine fI ?_|fail);conv=>whnf)
   refine Spec.call (mvW ++ [(220, .old 8), (221, .old 221)]) (adL p q sch vars (R x) (F k i) 0) 400 rfl (auto_) (auto_) (hadd (R x) k i hkf) ?_
   rintro u M' ⟨rfl, rfl⟩
   refine ⟨mvV ++ [(8, .old 220), (221, .old 221)], bdG 202 p q sch vars (R x) ++ [(8, .box 154 [.row 221 vars.length 1, .int .i64 0]), (221, .row 3 0 encI (vars.map (F k (i + 1))))], .tup [], rfl, (auto_), trivial, ?_⟩
   conv=>whnf
   repeat' ((first|refine nI ?_|refine aI ?_|refine tI ?_|refine fI ?_|fail);conv=>whnf)
   refine ⟨i + 1, ?_, by omega, by dsimp only; omega⟩
   exact Sub.by_ (mvK ++ [(10, .old 10), (8, .old 8), (221, .old 221)]) _ 400 rfl (auto_) (auto_)
  ·obtain rfl : i = p.states.length:=by omega
   repeat' ((first|refine nI ?_|refine aI ?_|refine tI ?_|refine fI ?_|fail);conv=>whnf)
   refine Spec.call (mvW ++ [(220, .old 8), (221, .old 221)]) (adL p q sch vars (R x) (F k p.states.length) 0) 400 rfl (auto_) (auto_) (hlin (R x) k hkf) ?_
   rintro u M' ⟨rfl, rfl⟩
   refine ⟨mvV ++ [(8, .old 220), (221, .old 221)], bdG 202 p q sch vars (R x) ++ [(8, .box 154 [.row 221 vars.length 1, .int .i64 (-k * l.c)]), (221, .row 3 0 encI (vars.map (G k)))], .tup [], rfl, (auto_), trivial, ?_⟩
   conv=>whnf
   apply once6
   case k =>
    intro o1 o2 o3 o4 o5 o6
    refine drawQ [0, 1, 2, 3, 8, 9] (by decide +kernel) ?_
    conv=>whnf
    repeat' first
     |exact True.intro
     |(refine And.intro ?_ ?_ <;> conv=>whnf)
     |(refine bldI row0 encRw [rwL vars (G k, -k * l.c)] rfl ?_; conv=>whnf)
     |(refine leakN ?_; conv=>whnf)
     |(refine appI [rwL vars (G k, -k * l.c)] rfl (by clear o1 o2 o3 o4 o5 o6; simp only [List.length_cons, List.length_nil]; omega) ?_; conv=>whnf)
     |with_reducible exact o1
     |with_reducible exact o2
     |with_reducible exact o3
     |with_reducible exact o4
     |with_reducible exact o5
     |with_reducible exact o6
     |fail
   all_goals try first
    |exact True.intro
    |exact True
   all_goals
    repeat' ((first|refine nI ?_|refine aI ?_|refine tI ?_|refine fI ?_|fail);conv=>whnf)
    refine ⟨x + 1, ?_, by omega, by dsimp only; omega⟩
    dsimp only
    rw [hRn1]
    exact Sub.by_ [(200, .old 200), (201, .old 201), (202, .old 48), (210, .old 210), (211, .old 211), (212, .old 212), (213, .old 213), (214, .old 214), (215, .old 215), (216, .old 216), (10, .old 10)] _ 400 rfl (auto_) (auto_)
 ·obtain rfl : x = 2:=by omega
  exact ⟨rfl, (auto_)⟩
def segC : Option Code → Code
 |some (.seq _ (.seq (.seq _ b) r))=>.seq b r
 |_=>.skip
theorem segT (p : Pro) (q : Prp) (sch : List Int) (vars : List Vb) (rows : List Row) (hv : vars.length ≤ 1000000) (hr : rows.length ≤ 100000) (hst : p.states.length ≤ 1000) (A B : Nat → Co) (R Q : Nat → List Row) (j : Nat)
  (hAp : ∀ rs (x : Nat), Spec Tryz.prog 169 [.ptr 200 0, .ptr 220 0, .int .i64 1, .int .i64 3, .int .i64 5, .int .i64 (x : Int), .int .i64 (j : Int)] (Mem.ofL (adL p q sch vars rs zC 0))
   (fun u M=>u = .tup [] ∧ M = Mem.ofL (adL p q sch vars rs (A x) 0)))
  (hBp : ∀ rs (x : Nat), Spec Tryz.prog 169 [.ptr 200 0, .ptr 220 0, .int .i64 1, .int .i64 4, .int .i64 6, .int .i64 (x : Int), .int .i64 (j : Int)] (Mem.ofL (adL p q sch vars rs zC 0))
   (fun u M=>u = .tup [] ∧ M = Mem.ofL (adL p q sch vars rs (B x) 0)))
  (hRn : ∀ x, R (x + 1) = R x ++ [rwL vars (A x, 0)]) (hQ0 : Q 0 = R p.states.length) (hQn : ∀ x, Q (x + 1) = Q x ++ [rwL vars (B x, 0)])
  (hRl : ∀ x, x ≤ p.states.length → (R x).length ≤ 102000) (hQl : ∀ x, x ≤ p.states.length → (Q x).length ≤ 104000) :
  codeK Tryz.prog tt ((bdL p q sch vars rows).map (·.1)) (segC Tryz.f95.body) ([.ptr 200 0, .int .i64 (j : Int)] ++ List.replicate 78 .top ++ [.int .i64 (p.states.length : Int), .int .i64 0] ++ List.replicate 54 .top) (Mem.ofL (bdN p q sch vars (R 0)))
   (endK tt Tryz.f95.results.toList (fun u M=>u = .tup [] ∧ memR mvK 400 M (bdN p q sch vars (if whB p then Q p.states.length else R p.states.length)))):=by
 (conv=>whnf)
 refine WPc.loopF tt_ok mx_ok (fun x : Nat=>x ≤ p.states.length) (fun x=>[(81, .int .i64 (x : Int))]) (fun x=>bdN p q sch vars (R x)) (fun x=>p.states.length - x) 0 (Nat.zero_le _) ?_; conv=>whnf
 refine ⟨Sub.by_ mvK _ 400 rfl (auto_) (auto_), ?_⟩
 rintro x hx
 conv=>whnf
 refine cmpI ?_ ?_ <;> (intro h2; conv=>whnf)
 ·as_aux_lemma =>
  have hl1:=hRl x (by omega)
  have hR1:=hRn x
  repeat' ((first|refine nI ?_|refine aI ?_|refine tI ?_|refine fI ?_|fail);conv=>whnf)
  refine Spec.call mvW (bdL p q sch vars (R x)) 400 rfl (auto_) (auto_) (rowP p q sch vars (R x) hv) ?_
  rintro u M' ⟨rfl, rfl⟩
  refine ⟨mvV ++ [(221, .old 221)], bdG 202 p q sch vars (R x) ++ [(221, .row 3 0 encI (vars.map zC))], .agg [.row 221 vars.length 1, .int .i64 0], rfl, (auto_), (auto_), ?_⟩
  conv=>whnf
  refine Spec.call (mvW ++ [(220, .old 7), (221, .old 221)]) (adL p q sch vars (R x) zC 0) 400 rfl (auto_) (auto_) (hAp (R x) x) ?_
  rintro u M' ⟨rfl, rfl⟩
  refine ⟨mvV ++ [(7, .old 220), (221, .old 221)], bdG 202 p q sch vars (R x) ++ [(7, .box 154 [.row 221 vars.length 1, .int .i64 0]), (221, .row 3 0 encI (vars.map (A x)))], .tup [], rfl, (auto_), trivial, ?_⟩
  conv=>whnf
  apply once6
  case k =>
   intro o1 o2 o3 o4 o5 o6
   refine drawQ [0, 1, 2, 3, 8, 9] (by decide +kernel) ?_
   conv=>whnf
   repeat' first
    |exact True.intro
    |(refine And.intro ?_ ?_ <;> conv=>whnf)
    |(refine bldI row0 encRw [rwL vars (A x, 0)] rfl ?_; conv=>whnf)
    |(refine leakN ?_; conv=>whnf)
    |(refine appI [rwL vars (A x, 0)] rfl (by clear o1 o2 o3 o4 o5 o6; simp only [List.length_cons, List.length_nil]; omega) ?_; conv=>whnf)
    |with_reducible exact o1
    |with_reducible exact o2
    |with_reducible exact o3
    |with_reducible exact o4
    |with_reducible exact o5
    |with_reducible exact o6
    |fail
  all_goals try first
   |exact True.intro
   |exact True
  all_goals
   repeat' ((first|refine nI ?_|refine aI ?_|refine tI ?_|refine fI ?_|fail);conv=>whnf)
   refine ⟨x + 1, ?_, by omega, by dsimp only; omega⟩
   dsimp only
   rw [hR1]
   exact Sub.by_ [(200, .old 200), (201, .old 201), (202, .old 97), (210, .old 210), (211, .old 211), (212, .old 212), (213, .old 213), (214, .old 214), (215, .old 215), (216, .old 216)] _ 400 rfl (auto_) (auto_)
 ·obtain rfl : x = p.states.length:=by omega
  refine dC (hasFaultyF p q) (fun _=>?_) (fun _=>?_) <;> (conv=>whnf)
  ·rename_i hw
   rw [if_pos hw]
   refine WPc.loopF tt_ok mx_ok (fun x : Nat=>x ≤ p.states.length) (fun x=>[(116, .int .i64 (x : Int))]) (fun x=>bdN p q sch vars (Q x)) (fun x=>p.states.length - x) 0 (Nat.zero_le _) ?_; conv=>whnf
   refine ⟨by rw [hQ0]; exact Sub.by_ mvK _ 400 rfl (auto_) (auto_), ?_⟩
   rintro x hx
   conv=>whnf
   refine cmpI ?_ ?_ <;> (intro h2; conv=>whnf)
   ·as_aux_lemma =>
    have hl1:=hQl x (by omega)
    have hR1:=hQn x
    repeat' ((first|refine nI ?_|refine aI ?_|refine tI ?_|refine fI ?_|fail);conv=>whnf)
    refine Spec.call mvW (bdL p q sch vars (Q x)) 400 rfl (auto_) (auto_) (rowP p q sch vars (Q x) hv) ?_
    rintro u M' ⟨rfl, rfl⟩
    refine ⟨mvV ++ [(221, .old 221)], bdG 202 p q sch vars (Q x) ++ [(221, .row 3 0 encI (vars.map zC))], .agg [.row 221 vars.length 1, .int .i64 0], rfl, (auto_), (auto_), ?_⟩
    conv=>whnf
    refine Spec.call (mvW ++ [(220, .old 9), (221, .old 221)]) (adL p q sch vars (Q x) zC 0) 400 rfl (auto_) (auto_) (hBp (Q x) x) ?_
    rintro u M' ⟨rfl, rfl⟩
    refine ⟨mvV ++ [(9, .old 220), (221, .old 221)], bdG 202 p q sch vars (Q x) ++ [(9, .box 154 [.row 221 vars.length 1, .int .i64 0]), (221, .row 3 0 encI (vars.map (B x)))], .tup [], rfl, (auto_), trivial, ?_⟩
    conv=>whnf
    apply once6
    case k =>
     intro o1 o2 o3 o4 o5 o6
     refine drawQ [0, 1, 2, 3, 8, 9] (by decide +kernel) ?_
     conv=>whnf
     repeat' first
      |exact True.intro
      |(refine And.intro ?_ ?_ <;> conv=>whnf)
      |(refine bldI row0 encRw [rwL vars (B x, 0)] rfl ?_; conv=>whnf)
      |(refine leakN ?_; conv=>whnf)
      |(refine appI [rwL vars (B x, 0)] rfl (by clear o1 o2 o3 o4 o5 o6; simp only [List.length_cons, List.length_nil]; omega) ?_; conv=>whnf)
      |with_reducible exact o1
      |with_reducible exact o2
      |with_reducible exact o3
      |with_reducible exact o4
      |with_reducible exact o5
      |with_reducible exact o6
      |fail
    all_goals try first
     |exact True.intro
     |exact True
    all_goals
     repeat' ((first|refine nI ?_|refine aI ?_|refine tI ?_|refine fI ?_|fail);conv=>whnf)
     refine ⟨x + 1, ?_, by omega, by dsimp only; omega⟩
     dsimp only
     rw [hR1]
     exact Sub.by_ [(200, .old 200), (201, .old 201), (202, .old 132), (210, .old 210), (211, .old 211), (212, .old 212), (213, .old 213), (214, .old 214), (215, .old 215), (216, .old 216)] _ 400 rfl (auto_) (auto_)
   ·obtain rfl : x = p.states.length:=by omega
    exact ⟨rfl, (auto_)⟩
  ·rename_i hw
   rw [if_neg hw]
   exact ⟨rfl, (auto_)⟩
theorem ops_hand {P : Program} {tt : TT} {draw : Option DMode} {all r : List Oper} {o : Oper} {fr fr' : List AV} {M : Mem} {K : List AV → Mem → Prop} (u : AV) (hg : o.guard = none)
  (h : ∀ K' : AV → Mem → Prop, K' u M → semK P tt draw o ((opnds o.op).map (avOf fr)) M K') (e : setD fr o.dst u = fr') (hk : opsK P tt draw all r fr' M K) : opsK P tt draw all (o :: r) fr M K:=by
 subst e
 simp only [opsK]
 rw [stepK_eq]
 rw [hg]
 simp only [gv]
 exact h _ hk
theorem ops_callP {P : Program} {tt : TT} {all r : List Oper} {fr : List AV} {M : Mem} {K : List AV → Mem → Prop} {d : Option Tmp} {a : Operand} {xs : Array Operand} {ts : Array TypeId} {ty : TypeId} {ps : String} {af : Array Edge} {f : FuncId} {caps us : List AV}
  (ha : avOf fr a = .fn f caps) (hs : xs.toList.map (avOf fr) = us) (h : Spec P f (us ++ caps) M fun u M'=>putD fr d u fun fr'=>opsK P tt none all r fr' M' K) :
  opsK P tt none all ({ dst:=d, op:=.call { callee:=.value a, args:=xs, argTypes:=ts }, type:=ty, pos:=ps, after:=af, guard:=none } :: r) fr M K:=by
 subst hs
 simp only [opsK]
 rw [stepK_eq]
 simp only [gv, opnds, List.map_cons, ha, semK, catK_eq]
 simp only [putD_eq] at h
 exact h
theorem opsK_nil {P : Program} {tt : TT} {draw : Option DMode} {all : List Oper} {fr : List AV} {M : Mem} {K : List AV → Mem → Prop} (h : K fr M) : opsK P tt draw all [] fr M K:=h
theorem codeK_seqI {P : Program} {tt : TT} {D : List Nat} {a b : Code} {fr : List AV} {M : Mem} {Q : APost} (h : codeK P tt D a fr M fun e fr' M'=>match e with
  |.normal=>codeK P tt D b fr' M' Q
  |.exit i=>Q (.exit i) fr' M'
  |.ret=>Q .ret fr' M') : codeK P tt D (.seq a b) fr M Q:=h
theorem codeK_regI {P : Program} {tt : TT} {D : List Nat} {id : Nat} {ops : Array Oper} {fr : List AV} {M : Mem} {Q : APost} (h : opsK P tt none ops.toList ops.toList fr M (Q .normal)) : codeK P tt D (.region id ops false) fr M Q:=h
theorem opsK_gen {P : Program} {tt : TT} {draw : Option DMode} {all r : List Oper} {fr frX : List AV} {M MX : Mem} {K : List AV → Mem → Prop} (h : ∀ K0 : List AV → Mem → Prop, K0 frX MX → opsK P tt draw all r fr M K0) (hk : K frX MX) : opsK P tt draw all r fr M K:=h K hk
theorem opsK_gen2 {P : Program} {tt : TT} {draw : Option DMode} {all r : List Oper} {fr fr1 fr2 : List AV} {M M1 M2 : Mem} {K : List AV → Mem → Prop} {c : Prop} (h : ∀ K0 : List AV → Mem → Prop, (c → K0 fr1 M1) → (¬ c → K0 fr2 M2) → opsK P tt draw all r fr M K0) (hk1 : c → K fr1 M1) (hk2 : ¬ c → K fr2 M2) : opsK P tt draw all r fr M K:=h K hk1 hk2
theorem codeK_condT {P : Program} {tt : TT} {D : List Nat} {c : Operand} {x y : Code} {fr : List AV} {M : Mem} {Q : APost} (hc : avOf fr c = .bool true) (h : codeK P tt D x fr M Q) : codeK P tt D (.cond c x y) fr M Q:=by
 simp only [codeK, avK_eq, hc]; exact h
theorem codeK_condF {P : Program} {tt : TT} {D : List Nat} {c : Operand} {x y : Code} {fr : List AV} {M : Mem} {Q : APost} (hc : avOf fr c = .bool false) (h : codeK P tt D y fr M Q) : codeK P tt D (.cond c x y) fr M Q:=by
 simp only [codeK, avK_eq, hc]; exact h
theorem codeK_skip {P : Program} {tt : TT} {D : List Nat} {fr : List AV} {M : Mem} {Q : APost} (h : Q .normal fr M) : codeK P tt D .skip fr M Q:=h
theorem gua_c (b : Int) : 0 + -1 * b = -b:=by omega
theorem segP (p : Pro) (q : Prp) (sch : List Int) (vars : List Vb) (rows : List Row) (hn : vars.Nodup) (hv : vars.length ≤ 1000000) (hr : rows.length ≤ 100000) (hst : p.states.length ≤ 1000) (hrl : p.rules.length ≤ 1000) (hsd : ∀ i, i < p.rules.length → (p.rules.getD i rul0).send.length ≤ 1000000)
  (hT : (thrL p.rules).length ≤ 10) (hg : ∀ g ∈ thrL p.rules, (1 ≤ g.coef ∧ g.coef ≤ 100) ∧ bndB g.bound) (hsch : schB (thrL p.rules).length sch) (j : Nat) (hj : j ≤ sch.length) :
  Spec Tryz.prog 95 [.ptr 200 0, .int .i64 (j : Int)] (Mem.ofL (bdL p q sch vars rows))
   (fun u M=>u = .tup [] ∧ M = Mem.ofL (bdN p q sch vars (rows ++ (segL p sch j).map (rwL vars)))):=by
 have hsl:=sch_len hsch
 have z1 : cwB 1099511627776 zC:=cwB_z (by omega)
 obtain ⟨A, hA⟩ : ∃ A : Nat → Co, A = fun (x : Nat)=>scC zC 1 (aftS p.rules 3 5 x (j + 1) 0):=⟨_, rfl⟩
 obtain ⟨B, hB⟩ : ∃ B : Nat → Co, B = fun (x : Nat)=>scC zC 1 (aftS p.rules 4 6 x (j + 1) 0):=⟨_, rfl⟩
 have hAp : ∀ rs (x : Nat), Spec Tryz.prog 169 [.ptr 200 0, .ptr 220 0, .int .i64 1, .int .i64 3, .int .i64 5, .int .i64 (x : Int), .int .i64 (j : Int)] (Mem.ofL (adL p q sch vars rs zC 0))
   (fun u M=>u = .tup [] ∧ M = Mem.ofL (adL p q sch vars rs (A x) 0)):=fun rs x=>by
  rw [hA]; exact procP p q sch vars rs zC 0 hn hv 1 x 3 5 j (by omega) (by omega) (by omega) hrl z1 (by unfold facB; omega)
 have hBp : ∀ rs (x : Nat), Spec Tryz.prog 169 [.ptr 200 0, .ptr 220 0, .int .i64 1, .int .i64 4, .int .i64 6, .int .i64 (x : Int), .int .i64 (j : Int)] (Mem.ofL (adL p q sch vars rs zC 0))
   (fun u M=>u = .tup [] ∧ M = Mem.ofL (adL p q sch vars rs (B x) 0)):=fun rs x=>by
  rw [hB]; exact procP p q sch vars rs zC 0 hn hv 1 x 4 6 j (by omega) (by omega) (by omega) hrl z1 (by unfold facB; omega)
 obtain ⟨R, hR⟩ : ∃ R : Nat → List Row, R = fun x=>rows ++ (if 0 < j then [rwL vars (guaW p ((thrL p.rules).getD (sch.getD (j - 1) 0).toNat thr0) j)] else []) ++ (List.range x).map fun x=>rwL vars (A x, 0):=⟨_, rfl⟩
 obtain ⟨Q, hQ⟩ : ∃ Q : Nat → List Row, Q = fun x=>R p.states.length ++ (List.range x).map fun x=>rwL vars (B x, 0):=⟨_, rfl⟩
 have hR0 : 0 < j → R 0 = rows ++ [rwL vars (guaW p ((thrL p.rules).getD (sch.getD ((j : Int) - 1).toNat 0).toNat thr0) j)]:=fun h=>by
  rw [hR, show ((j : Int) - 1).toNat = j - 1 by omega]; simp only [if_pos h, List.range_zero, List.map_nil, List.append_nil]
 have hRz : ¬ 0 < j → R 0 = rows:=fun h=>by
  rw [hR]; simp only [if_neg h, List.range_zero, List.map_nil, List.append_nil]
 have hRn : ∀ x, R (x + 1) = R x ++ [rwL vars (A x, 0)]:=fun x=>by
  rw [hR]; simp only [List.range_succ, List.map_append, List.map_cons, List.map_nil, List.append_assoc]
 have hQ0 : Q 0 = R p.states.length:=by rw [hQ]; simp
 have hQn : ∀ x, Q (x + 1) = Q x ++ [rwL vars (B x, 0)]:=fun x=>by
  rw [hQ]; simp only [List.range_succ, List.map_append, List.map_cons, List.map_nil, List.append_assoc]
 have hRl : ∀ x, x ≤ p.states.length → (R x).length ≤ 102000:=fun x hx=>by
  have : (if 0 < j then [rwL vars (guaW p ((thrL p.rules).getD (sch.getD (j - 1) 0).toNat thr0) j)] else []).length ≤ 1:=by split <;> simp
  rw [hR]; simp only [List.length_append, List.length_map, List.length_range]; omega
 have hQl : ∀ x, x ≤ p.states.length → (Q x).length ≤ 104000:=fun x hx=>by
  have:=hRl p.states.length (Nat.le_refl _)
  rw [hQ]; simp only [List.length_append, List.length_map, List.length_range]; omega
 have hend : rows ++ (segL p sch j).map (rwL vars) = if whB p then Q p.states.length else R p.states.length:=by
  have e1 : ∀ x : Nat, aftW p 3 5 x j = (A x, 0):=fun x=>by rw [hA]; rfl
  have e2 : ∀ x : Nat, aftW p 4 6 x j = (B x, 0):=fun x=>by rw [hB]; rfl
  unfold segL
  simp only [e1, e2]
  by_cases h1 : 0 < j <;> by_cases h2 : whB p <;> simp [hQ, hR, h1, h2, List.map_map, Function.comp_def]
 rw [hend]
 clear hend hR hQ hA hB
 refine Spec.renorm 400 (R:=fun u M=>u = .tup [] ∧ memR mvK 400 M (bdN p q sch vars (if whB p then Q p.states.length else R p.states.length))) ?_ ?_
 case refine_2 =>
  rintro u M ⟨rfl, hM⟩
  exact ⟨mvK, _, .tup [], rfl, hM, trivial, rfl, rfl⟩
 refine Spec.intro tt_ok mx_ok (bdL p q sch vars rows) Tryz.func95 rfl (by decide) ?_
 conv=>whnf
 have hs0:=segT p q sch vars rows hv hr hst A B R Q j hAp hBp hRn hQ0 hQn hRl hQl
 conv at hs0=>whnf
 refine cmpI ?_ ?_ <;> (intro h1; conv=>whnf)
 rotate_left
 ·exact WPc.sub (by rw [hRz (by omega)]; exact Sub.by_ mvE _ 400 rfl (auto_) (auto_)) hs0
 ·have h1 : 0 < j:=by omega
  have hb1:=hsch ((j : Int) - 1).toNat (by omega)
  refine drawI rfl ?_
  conv=>whnf
  repeat' ((first|refine nI ?_|refine aI ?_|refine tI ?_|refine fI ?_|fail);conv=>whnf)
  have hR0:=hR0
  have hgm:=hg _ (mem_getD (l:=thrL p.rules) (k:=(sch.getD ((j : Int) - 1).toNat 0).toNat) thr0 (by omega))
  generalize (thrL p.rules).getD (sch.getD ((j : Int) - 1).toNat 0).toNat thr0 = g at hR0 hgm ⊢
  obtain ⟨hgc, hgb⟩:=hgm
  have s1:=sentP p q sch vars rows zC 0 hn hv g.coef g.message 5 j (by omega) (by omega) hrl hsd z1 (by unfold facB; omega)
  have c1 : cwB 1000 (scC zC g.coef (sntS p.rules 5 g.message j 0)):=cwB_mono (cwB_sc (cwB_z (X:=0) (by omega)) (by unfold facB; omega) fun v=>by have:=snt_b p.rules 5 g.message j 0 v; omega) (by omega)
  have s2:=sentP p q sch vars rows _ 0 hn hv g.coef g.message 6 j (by omega) (by omega) hrl hsd (cwB_mono c1 (by omega)) (by unfold facB; omega)
  have c2 : cwB 2000 (scC (scC zC g.coef (sntS p.rules 5 g.message j 0)) g.coef (sntS p.rules 6 g.message j 0)):=cwB_mono (cwB_sc c1 (by unfold facB; omega) fun v=>by have:=snt_b p.rules 6 g.message j 0 v; omega) (by omega)
  have s3:=addP p q sch vars rows _ 0 hn hv 2 (by omega) 0 0 g.coef (cwB_mono c2 (by omega)) (by omega)
  have c3:=cwB_add c2 ⟨2, 0, 0⟩ (k:=g.coef) (Y:=100) (by omega) (by omega)
  have l3:=linP p q sch vars rows _ 0 hn hv (-1) g.bound (cwB_mono c3 (by omega)) (by omega) (by unfold facB; omega) hgb
  have l2:=linP p q sch vars rows _ 0 hn hv (-1) g.bound (cwB_mono c2 (by omega)) (by omega) (by unfold facB; omega) hgb
  rw [gua_c] at l3 l2
  have gA : p.fault = 3 → guaW p g j = (scC (addC (scC (scC zC g.coef (sntS p.rules 5 g.message j 0)) g.coef (sntS p.rules 6 g.message j 0)) ⟨2, 0, 0⟩ g.coef) (-1) (linC g.bound), -g.bound.c):=fun h=>by unfold guaW; simp only [if_pos h]
  have gB : ¬ p.fault = 3 → guaW p g j = (scC (scC (scC zC g.coef (sntS p.rules 5 g.message j 0)) g.coef (sntS p.rules 6 g.message j 0)) (-1) (linC g.bound), -g.bound.c):=fun h=>by unfold guaW; simp only [if_neg h]
  clear c1 c2 c3
  generalize scC zC g.coef (sntS p.rules 5 g.message j 0) = d1 at *
  generalize scC d1 g.coef (sntS p.rules 6 g.message j 0) = d2 at *
  generalize addC d2 ⟨2, 0, 0⟩ g.coef = d3 at *
  generalize scC d3 (-1) (linC g.bound) = e3 at *
  generalize scC d2 (-1) (linC g.bound) = e2 at *
  refine Spec.call idB (bdL p q sch vars rows) 400 rfl (auto_) (auto_) (rowP p q sch vars rows hv) ?_
  rintro u M' ⟨rfl, rfl⟩
  refine ⟨idB ++ [(221, .old 221)], bdL p q sch vars rows ++ [(221, .row 3 0 encI (vars.map zC))], .agg [.row 221 vars.length 1, .int .i64 0], rfl, (auto_), (auto_), ?_⟩
  simp only [putD, putK]
  apply opsK_gen
  case h =>
   intro K0 h0
   conv=>whnf
   exact h0
  refine codeK_seqI ?_
  refine codeK_regI ?_
  refine ops_hand (.ptr 200 0) rfl (fun K' h=>?_) rfl ?_
  ·conv=>whnf
   exact h
  refine ops_hand (.ptr 4 (0 + 1)) rfl (fun K' h=>?_) rfl ?_
  ·conv=>whnf
   exact h
  refine ops_hand (.int .i64 g.coef) rfl (fun K' h=>?_) rfl ?_
  ·conv=>whnf
   exact h
  refine ops_hand (.ptr 4 (0 + 0)) rfl (fun K' h=>?_) rfl ?_
  ·conv=>whnf
   exact h
  refine ops_hand (.int .i64 g.message) rfl (fun K' h=>?_) rfl ?_
  ·conv=>whnf
   exact h
  refine ops_hand (.int .i64 (j : Int)) rfl (fun K' h=>?_) rfl ?_
  ·conv=>whnf
   exact h
  refine ops_callP rfl rfl ?_
  refine Spec.call (idB ++ [(220, .old 5), (221, .old 221)]) (adL p q sch vars rows zC 0) 400 rfl (auto_) (auto_) s1 ?_
  rintro u M' ⟨rfl, rfl⟩
  refine ⟨idB ++ [(5, .old 220), (221, .old 221)], bdL p q sch vars rows ++ [(5, .box 154 [.row 221 vars.length 1, .int .i64 0]), (221, .row 3 0 encI (vars.map d1))], .tup [], rfl, (auto_), trivial, ?_⟩
  simp only [putD, putK, setD, List.set]
  refine opsK_nil ?_
  refine codeK_seqI ?_
  refine codeK_regI ?_
  refine ops_hand (.ptr 200 0) rfl (fun K' h=>?_) rfl ?_
  ·conv=>whnf
   exact h
  refine ops_hand (.ptr 4 (0 + 1)) rfl (fun K' h=>?_) rfl ?_
  ·conv=>whnf
   exact h
  refine ops_hand (.int .i64 g.coef) rfl (fun K' h=>?_) rfl ?_
  ·conv=>whnf
   exact h
  refine ops_hand (.ptr 4 (0 + 0)) rfl (fun K' h=>?_) rfl ?_
  ·conv=>whnf
   exact h
  refine ops_hand (.int .i64 g.message) rfl (fun K' h=>?_) rfl ?_
  ·conv=>whnf
   exact h
  refine ops_hand (.int .i64 (j : Int)) rfl (fun K' h=>?_) rfl ?_
  ·conv=>whnf
   exact h
  refine ops_callP rfl rfl ?_
  refine Spec.call (idB ++ [(220, .old 5), (221, .old 221)]) (adL p q sch vars rows d1 0) 400 rfl (auto_) (auto_) s2 ?_
  rintro u M' ⟨rfl, rfl⟩
  refine ⟨idB ++ [(5, .old 220), (221, .old 221)], bdL p q sch vars rows ++ [(5, .box 154 [.row 221 vars.length 1, .int .i64 0]), (221, .row 3 0 encI (vars.map d2))], .tup [], rfl, (auto_), trivial, ?_⟩
  simp only [putD, putK, setD, List.set]
  refine opsK_nil ?_
  refine codeK_seqI ?_
  refine codeK_seqI ?_
  refine codeK_regI ?_
  apply opsK_gen2 (c:=p.fault = 3)
  case h =>
   intro K0 a b
   conv=>whnf
   refine cmpI (fun h=>?_) (fun h=>?_)
   ·conv=>whnf
    exact a h
   ·conv=>whnf
    exact b h
  ·intro h3
   refine codeK_condT rfl ?_
   refine codeK_regI ?_
   refine ops_hand (.ptr 200 0) rfl (fun K' h=>?_) rfl ?_
   ·conv=>whnf
    exact h
   refine ops_hand (.ptr 4 (0 + 1)) rfl (fun K' h=>?_) rfl ?_
   ·conv=>whnf
    exact h
   refine ops_hand (.int .i64 g.coef) rfl (fun K' h=>?_) rfl ?_
   ·conv=>whnf
    exact h
   refine ops_callP rfl rfl ?_
   refine Spec.call (idB ++ [(220, .old 5), (221, .old 221)]) (adL p q sch vars rows d2 0) 400 rfl (auto_) (auto_) s3 ?_
   rintro u M' ⟨rfl, rfl⟩
   refine ⟨idB ++ [(5, .old 220), (221, .old 221)], bdL p q sch vars rows ++ [(5, .box 154 [.row 221 vars.length 1, .int .i64 0]), (221, .row 3 0 encI (vars.map d3))], .tup [], rfl, (auto_), trivial, ?_⟩
   simp only [putD, putK, setD, List.set]
   refine opsK_nil ?_
   refine codeK_seqI ?_
   refine codeK_regI ?_
   refine ops_hand (.ptr 200 0) rfl (fun K' h=>?_) rfl ?_
   ·conv=>whnf
    exact h
   refine ops_hand (.ptr 4 (0 + 2)) rfl (fun K' h=>?_) rfl ?_
   ·conv=>whnf
    exact h
   refine ops_hand (.agg (encLin g.bound)) rfl (fun K' h=>?_) rfl ?_
   ·conv=>whnf
    exact h
   refine ops_callP rfl rfl ?_
   refine Spec.call (idB ++ [(220, .old 5), (221, .old 221)]) (adL p q sch vars rows d3 0) 400 rfl (auto_) (auto_) l3 ?_
   rintro u M' ⟨rfl, rfl⟩
   refine ⟨idB ++ [(5, .old 220), (221, .old 221)], bdL p q sch vars rows ++ [(5, .box 154 [.row 221 vars.length 1, .int .i64 (-g.bound.c)]), (221, .row 3 0 encI (vars.map e3))], .tup [], rfl, (auto_), trivial, ?_⟩
   simp only [putD, putK, setD, List.set]
   refine opsK_nil ?_
   conv=>whnf
   apply once6
   case k =>
    intro o1 o2 o3 o4 o5 o6
    refine drawQ [0, 1, 2, 3, 8, 9] (by decide +kernel) ?_
    conv=>whnf
    repeat' first
     |exact True.intro
     |(refine And.intro ?_ ?_ <;> conv=>whnf)
     |(refine bldI row0 encRw [rwL vars (e3, -g.bound.c)] rfl ?_; conv=>whnf)
     |(refine leakN ?_; conv=>whnf)
     |(refine appI [rwL vars (e3, -g.bound.c)] rfl (by clear o1 o2 o3 o4 o5 o6; simp only [List.length_cons, List.length_nil]; omega) ?_; conv=>whnf)
     |with_reducible exact o1
     |with_reducible exact o2
     |with_reducible exact o3
     |with_reducible exact o4
     |with_reducible exact o5
     |with_reducible exact o6
     |fail
   all_goals try first
    |exact True.intro
    |exact True
   all_goals
    exact WPc.sub (by rw [hR0 h1, gA h3]; exact Sub.by_ [(200, .old 200), (201, .old 201), (202, .old 69), (210, .old 210), (211, .old 211), (212, .old 212), (213, .old 213), (214, .old 214), (215, .old 215), (216, .old 216)] _ 400 rfl (auto_) (auto_)) hs0
  ·intro h3
   refine codeK_condF rfl ?_
   refine codeK_skip ?_
   refine codeK_seqI ?_
   refine codeK_regI ?_
   refine ops_hand (.ptr 200 0) rfl (fun K' h=>?_) rfl ?_
   ·conv=>whnf
    exact h
   refine ops_hand (.ptr 4 (0 + 2)) rfl (fun K' h=>?_) rfl ?_
   ·conv=>whnf
    exact h
   refine ops_hand (.agg (encLin g.bound)) rfl (fun K' h=>?_) rfl ?_
   ·conv=>whnf
    exact h
   refine ops_callP rfl rfl ?_
   refine Spec.call (idB ++ [(220, .old 5), (221, .old 221)]) (adL p q sch vars rows d2 0) 400 rfl (auto_) (auto_) l2 ?_
   rintro u M' ⟨rfl, rfl⟩
   refine ⟨idB ++ [(5, .old 220), (221, .old 221)], bdL p q sch vars rows ++ [(5, .box 154 [.row 221 vars.length 1, .int .i64 (-g.bound.c)]), (221, .row 3 0 encI (vars.map e2))], .tup [], rfl, (auto_), trivial, ?_⟩
   simp only [putD, putK, setD, List.set]
   refine opsK_nil ?_
   conv=>whnf
   apply once6
   case k =>
    intro o1 o2 o3 o4 o5 o6
    refine drawQ [0, 1, 2, 3, 8, 9] (by decide +kernel) ?_
    conv=>whnf
    repeat' first
     |exact True.intro
     |(refine And.intro ?_ ?_ <;> conv=>whnf)
     |(refine bldI row0 encRw [rwL vars (e2, -g.bound.c)] rfl ?_; conv=>whnf)
     |(refine leakN ?_; conv=>whnf)
     |(refine appI [rwL vars (e2, -g.bound.c)] rfl (by clear o1 o2 o3 o4 o5 o6; simp only [List.length_cons, List.length_nil]; omega) ?_; conv=>whnf)
     |with_reducible exact o1
     |with_reducible exact o2
     |with_reducible exact o3
     |with_reducible exact o4
     |with_reducible exact o5
     |with_reducible exact o6
     |fail
   all_goals try first
    |exact True.intro
    |exact True
   all_goals
    exact WPc.sub (by rw [hR0 h1, gB h3]; exact Sub.by_ [(200, .old 200), (201, .old 201), (202, .old 69), (210, .old 210), (211, .old 211), (212, .old 212), (213, .old 213), (214, .old 214), (215, .old 215), (216, .old 216)] _ 400 rfl (auto_) (auto_)) hs0
theorem amgP (p : Pro) (q : Prp) (sch : List Int) (vars : List Vb) (rows : List Row) (hn : vars.Nodup) (hv : vars.length ≤ 1000000) (hr : rows.length ≤ 1000000) (hrl : p.rules.length ≤ 1000) (hsl : sch.length ≤ 10) (states : List Int) (hsts : states.length ≤ 10000) (least : Int) (hls : 0 ≤ least ∧ least ≤ 1000) :
  Spec Tryz.prog 170 [.ptr 200 0, .sl 0 encI states, .int .i64 least] (Mem.ofL (bdL p q sch vars rows))
   (fun u M=>u = .tup [] ∧ M = Mem.ofL (bdN p q sch vars (rows ++ [rwL vars (amgW p sch.length states least)]))):=by
 obtain ⟨F, hF⟩ : ∃ F : Nat → Co, F = fun x=>(states.take x).foldl (fun c x=>scC c 1 (aftS p.rules 3 5 x (sch.length + 1) 0)) zC:=⟨_, rfl⟩
 have hF0 : F 0 = zC:=by rw [hF]; rfl
 have hFn : ∀ x, x < states.length → F (x + 1) = scC (F x) 1 (aftS p.rules 3 5 (states.getD (x : Int).toNat 0) (sch.length + 1) 0):=fun x hx=>by
  rw [hF, tN]
  dsimp only
  rw [List.take_succ_eq_append_getElem hx, List.foldl_append, getD_elem 0 hx]
  rfl
 have hFb : ∀ x, x ≤ states.length → cwB (200 * x) (F x):=by
  intro x
  induction x with
  |zero=>intro _; rw [hF0]; exact cwB_z (by omega)
  |succ x ih =>
   intro hx
   rw [hFn x (by omega)]
   exact cwB_mono (cwB_sc (ih (by omega)) (by unfold facB; omega) fun v=>by have:=aft_b p.rules 3 5 (states.getD (x : Int).toNat 0) (sch.length + 1) 0 v; omega) (by omega)
 have hend : amgW p sch.length states least = (F states.length, 0 - least):=by
  rw [hF]; dsimp only; rw [List.take_length, Int.zero_sub]; rfl
 rw [hend]
 have hp : ∀ x, x < states.length → Spec Tryz.prog 169 [.ptr 200 0, .ptr 220 0, .int .i64 1, .int .i64 3, .int .i64 5, .int .i64 (states.getD (x : Int).toNat 0), .int .i64 (sch.length : Int)] (Mem.ofL (adL p q sch vars rows (F x) 0))
   (fun u M=>u = .tup [] ∧ M = Mem.ofL (adL p q sch vars rows (F (x + 1)) 0)):=fun x hx=>by
  rw [hFn x hx]
  exact procP p q sch vars rows (F x) 0 hn hv 1 (states.getD (x : Int).toNat 0) 3 5 sch.length (by omega) (by omega) (by omega) hrl (cwB_mono (hFb x (by omega)) (by omega)) (by unfold facB; omega)
 clear hend hFn hFb hF
 refine Spec.renorm 400 (R:=fun u M=>u = .tup [] ∧ memR ((202, .old 38) :: idB) 400 M (bdN p q sch vars (rows ++ [rwL vars (F states.length, 0 - least)]))) ?_ ?_
 case refine_2 =>
  rintro u M ⟨rfl, hM⟩
  exact ⟨(202, .old 38) :: idB, _, .tup [], rfl, hM, trivial, rfl, rfl⟩
 refine Spec.intro tt_ok mx_ok (bdL p q sch vars rows) Tryz.func170 rfl (by decide) ?_
 conv=>whnf
 refine Spec.call idB (bdL p q sch vars rows) 400 rfl (auto_) (auto_) (rowP p q sch vars rows hv) ?_
 rintro u M' ⟨rfl, rfl⟩
 refine ⟨idB ++ [(221, .old 221)], bdL p q sch vars rows ++ [(221, .row 3 0 encI (vars.map zC))], .agg [.row 221 vars.length 1, .int .i64 0], rfl, (auto_), (auto_), ?_⟩
 conv=>whnf
 refine WPc.loopF tt_ok mx_ok (fun x : Nat=>x ≤ states.length) (fun x=>[(13, .int .i64 (x : Int))]) (fun x=>bdL p q sch vars rows ++ [(6, .box 154 [.row 221 vars.length 1, .int .i64 0]), (221, .row 3 0 encI (vars.map (F x)))]) (fun x=>states.length - x) 0 (Nat.zero_le _) ?_; conv=>whnf
 refine ⟨by rw [hF0]; exact Sub.by_ (idB ++ [(6, .old 6), (221, .old 221)]) _ 400 rfl (auto_) (auto_), ?_⟩
 rintro x hx
 conv=>whnf
 refine cmpI ?_ ?_ <;> (intro h1; conv=>whnf)
 ·have hp1:=hp x (by omega)
  repeat' ((first|refine nI ?_|refine aI ?_|refine tI ?_|refine fI ?_|fail);conv=>whnf)
  refine Spec.call (idB ++ [(220, .old 6), (221, .old 221)]) (adL p q sch vars rows (F x) 0) 400 rfl (auto_) (auto_) hp1 ?_
  rintro u M' ⟨rfl, rfl⟩
  refine ⟨idB ++ [(6, .old 220), (221, .old 221)], bdL p q sch vars rows ++ [(6, .box 154 [.row 221 vars.length 1, .int .i64 0]), (221, .row 3 0 encI (vars.map (F (x + 1))))], .tup [], rfl, (auto_), trivial, ?_⟩
  conv=>whnf
  repeat' ((first|refine nI ?_|refine aI ?_|refine tI ?_|refine fI ?_|fail);conv=>whnf)
  refine ⟨x + 1, ?_, by omega, by dsimp only; omega⟩
  exact Sub.by_ (idB ++ [(6, .old 6), (221, .old 221)]) _ 400 rfl (auto_) (auto_)
 ·obtain rfl : x = states.length:=by omega
  repeat' ((first|refine nI ?_|refine aI ?_|refine tI ?_|refine fI ?_|fail);conv=>whnf)
  as_aux_lemma =>
  refine drawQ [0, 1, 2, 3, 8, 9] (by decide +kernel) ?_
  conv=>whnf
  repeat' first
   |exact True.intro
   |(refine And.intro ?_ ?_ <;> conv=>whnf)
   |(refine bldI row0 encRw [rwL vars (F states.length, 0 - least)] rfl ?_; conv=>whnf)
   |(refine leakN ?_; conv=>whnf)
   |(refine appI [rwL vars (F states.length, 0 - least)] rfl lI ?_; conv=>whnf)
   |exact rfl
   |exact (List.length_append ..).symm
   |fail
theorem idlP (p : Pro) (q : Prp) (sch : List Int) (vars : List Vb) (rows : List Row) (hn : vars.Nodup) (hv : vars.length ≤ 1000000) (hr : rows.length ≤ 1000000) (hrl : p.rules.length ≤ 1000) (hsd : ∀ i, i < p.rules.length → (p.rules.getD i rul0).send.length ≤ 1000000) (hsl : sch.length ≤ 9)
  (i : Nat) (hi : i < p.rules.length) (hg : ∀ g ∈ (p.rules.getD i rul0).guards, (1 ≤ g.coef ∧ g.coef ≤ 100) ∧ bndB g.bound) (hgl : (p.rules.getD i rul0).guards.length ≤ 1000) (ch : Int) (hc : 0 ≤ ch ∧ ch ≤ (p.rules.getD i rul0).guards.length) :
  Spec Tryz.prog 172 [.ptr 200 0, .int .i64 (i : Int), .int .i64 ch] (Mem.ofL (bdL p q sch vars rows))
   (fun u M=>u = .tup [] ∧ M = Mem.ofL (bdN p q sch vars (rows ++ [rwL vars (idlW p sch.length (p.rules.getD i rul0) ch)]))):=by
 have z1 : cwB 1099511627776 zC:=cwB_z (by omega)
 refine Spec.renorm 400 (R:=fun u M=>u = .tup [] ∧ memR ((202, .old 97) :: idB) 400 M (bdN p q sch vars (rows ++ [rwL vars (idlW p sch.length (p.rules.getD i rul0) ch)]))) ?_ ?_
 case refine_2 =>
  rintro u M ⟨rfl, hM⟩
  exact ⟨(202, .old 97) :: idB, _, .tup [], rfl, hM, trivial, rfl, rfl⟩
 refine Spec.intro tt_ok mx_ok (bdL p q sch vars rows) Tryz.func172 rfl (by decide) ?_
 conv=>whnf
 refine Spec.call idB (bdL p q sch vars rows) 400 rfl (auto_) (auto_) (rowP p q sch vars rows hv) ?_
 rintro u M' ⟨rfl, rfl⟩
 refine ⟨idB ++ [(221, .old 221)], bdL p q sch vars rows ++ [(221, .row 3 0 encI (vars.map zC))], .agg [.row 221 vars.length 1, .int .i64 0], rfl, (auto_), (auto_), ?_⟩
 conv=>whnf
 refine cmpI ?_ ?_ <;> (intro h1; conv=>whnf)
 ·subst h1
  have hp:=procP p q sch vars rows zC 0 hn hv (-1) (p.rules.getD (i : Int).toNat rul0).src 3 5 sch.length (by omega) (by omega) (by omega) hrl z1 (by unfold facB; omega)
  have e : idlW p sch.length (p.rules.getD i rul0) 0 = (scC zC (-1) (aftS p.rules 3 5 (p.rules.getD (i : Int).toNat rul0).src (sch.length + 1) 0), 0):=by unfold idlW; rw [if_pos rfl, tN]
  rw [e]
  generalize scC zC (-1) (aftS p.rules 3 5 (p.rules.getD (i : Int).toNat rul0).src (sch.length + 1) 0) = d at *
  clear e
  refine drawN .any [30] (by decide +kernel) ?_
  conv=>whnf
  repeat' ((first|refine nI ?_|refine aI ?_|refine tI ?_|refine fI ?_|fail);conv=>whnf)
  refine Spec.call (idB ++ [(220, .old 6), (221, .old 221)]) (adL p q sch vars rows zC 0) 400 rfl (auto_) (auto_) hp ?_
  rintro u M' ⟨rfl, rfl⟩
  refine ⟨idB ++ [(6, .old 220), (221, .old 221)], bdL p q sch vars rows ++ [(6, .box 154 [.row 221 vars.length 1, .int .i64 0]), (221, .row 3 0 encI (vars.map d))], .tup [], rfl, (auto_), trivial, ?_⟩
  conv=>whnf
  repeat' ((first|refine nI ?_|refine aI ?_|refine tI ?_|refine fI ?_|fail);conv=>whnf)
  as_aux_lemma =>
  refine drawQ [0, 1, 2, 3, 8, 9] (by decide +kernel) ?_
  conv=>whnf
  repeat' first
   |exact True.intro
   |(refine And.intro ?_ ?_ <;> conv=>whnf)
   |(refine bldI row0 encRw [rwL vars (d, 0)] rfl ?_; conv=>whnf)
   |(refine leakN ?_; conv=>whnf)
   |(refine appI [rwL vars (d, 0)] rfl lI ?_; conv=>whnf)
   |exact rfl
   |exact (List.length_append ..).symm
   |fail
 ·repeat' ((first|refine nI ?_|refine aI ?_|refine tI ?_|refine fI ?_|fail);conv=>whnf)
  have hgm:=hg _ (mem_getD (l:=(p.rules.getD i rul0).guards) (k:=(ch - 1).toNat) thr0 (by omega))
  have e0:=idlW.eq_1 p sch.length (p.rules.getD i rul0) ch
  rw [if_neg h1] at e0
  rw [e0]
  clear e0
  rw [tN]
  dsimp only
  generalize (p.rules.getD i rul0).guards.getD (ch - 1).toNat thr0 = g at hgm ⊢
  repeat' ((first|refine nI ?_|refine aI ?_|refine tI ?_|refine fI ?_|fail);conv=>whnf)
  obtain ⟨hgc, hgb⟩:=hgm
  have s1:=sentP p q sch vars rows zC 0 hn hv (-g.coef) g.message 5 (sch.length + 1) (by omega) (by omega) hrl hsd z1 (by unfold facB; omega)
  have c1 : cwB 1000 (scC zC (-g.coef) (sntS p.rules 5 g.message (sch.length + 1) 0)):=cwB_mono (cwB_sc (cwB_z (X:=0) (by omega)) (by unfold facB; omega) fun v=>by have:=snt_b p.rules 5 g.message (sch.length + 1) 0 v; omega) (by omega)
  have s2:=sentP p q sch vars rows _ 0 hn hv (-g.coef) g.message 6 (sch.length + 1) (by omega) (by omega) hrl hsd (cwB_mono c1 (by omega)) (by unfold facB; omega)
  have c2 : cwB 2000 (scC (scC zC (-g.coef) (sntS p.rules 5 g.message (sch.length + 1) 0)) (-g.coef) (sntS p.rules 6 g.message (sch.length + 1) 0)):=cwB_mono (cwB_sc c1 (by unfold facB; omega) fun v=>by have:=snt_b p.rules 6 g.message (sch.length + 1) 0 v; omega) (by omega)
  have l1:=linP p q sch vars rows _ 0 hn hv 1 g.bound (cwB_mono c1 (by omega)) (by omega) (by unfold facB; omega) hgb
  have l2:=linP p q sch vars rows _ 0 hn hv 1 g.bound (cwB_mono c2 (by omega)) (by omega) (by unfold facB; omega) hgb
  rw [show (0 : Int) + 1 * g.bound.c = g.bound.c by omega] at l1 l2
  clear c1 c2
  generalize scC zC (-g.coef) (sntS p.rules 5 g.message (sch.length + 1) 0) = d1 at *
  generalize scC d1 (-g.coef) (sntS p.rules 6 g.message (sch.length + 1) 0) = d2 at *
  have hgc2:=hgb.1
  unfold facB at hgc2
  refine drawN .any [59] (by decide +kernel) ?_
  conv=>whnf
  repeat' ((first|refine nI ?_|refine aI ?_|refine tI ?_|refine fI ?_|fail);conv=>whnf)
  refine Spec.call (idB ++ [(220, .old 6), (221, .old 221)]) (adL p q sch vars rows zC 0) 400 rfl (auto_) (auto_) s1 ?_
  rintro u M' ⟨rfl, rfl⟩
  refine ⟨idB ++ [(6, .old 220), (221, .old 221)], bdL p q sch vars rows ++ [(6, .box 154 [.row 221 vars.length 1, .int .i64 0]), (221, .row 3 0 encI (vars.map d1))], .tup [], rfl, (auto_), trivial, ?_⟩
  conv=>whnf
  refine cmpI ?_ ?_ <;> (intro h3; conv=>whnf)
  ·simp only [if_pos h3]
   generalize scC d2 1 (linC g.bound) = e2 at *
   refine drawN .any [81] (by decide +kernel) ?_
   conv=>whnf
   repeat' ((first|refine nI ?_|refine aI ?_|refine tI ?_|refine fI ?_|fail);conv=>whnf)
   refine Spec.call (idB ++ [(220, .old 6), (221, .old 221)]) (adL p q sch vars rows d1 0) 400 rfl (auto_) (auto_) s2 ?_
   rintro u M' ⟨rfl, rfl⟩
   refine ⟨idB ++ [(6, .old 220), (221, .old 221)], bdL p q sch vars rows ++ [(6, .box 154 [.row 221 vars.length 1, .int .i64 0]), (221, .row 3 0 encI (vars.map d2))], .tup [], rfl, (auto_), trivial, ?_⟩
   conv=>whnf
   refine Spec.call (idB ++ [(220, .old 6), (221, .old 221)]) (adL p q sch vars rows d2 0) 400 rfl (auto_) (auto_) l2 ?_
   rintro u M' ⟨rfl, rfl⟩
   refine ⟨idB ++ [(6, .old 220), (221, .old 221)], bdL p q sch vars rows ++ [(6, .box 154 [.row 221 vars.length 1, .int .i64 g.bound.c]), (221, .row 3 0 encI (vars.map e2))], .tup [], rfl, (auto_), trivial, ?_⟩
   conv=>whnf
   repeat' ((first|refine nI ?_|refine aI ?_|refine tI ?_|refine fI ?_|fail);conv=>whnf)
   as_aux_lemma =>
   refine drawQ [0, 1, 2, 3, 8, 9] (by decide +kernel) ?_
   conv=>whnf
   repeat' first
    |exact True.intro
    |(refine And.intro ?_ ?_ <;> conv=>whnf)
    |(refine bldI row0 encRw [rwL vars (e2, g.bound.c - 1)] rfl ?_; conv=>whnf)
    |(refine leakN ?_; conv=>whnf)
    |(refine appI [rwL vars (e2, g.bound.c - 1)] rfl lI ?_; conv=>whnf)
    |exact rfl
    |exact (List.length_append ..).symm
    |fail
  ·simp only [if_neg h3]
   generalize scC d1 1 (linC g.bound) = e2 at *
   refine Spec.call (idB ++ [(220, .old 6), (221, .old 221)]) (adL p q sch vars rows d1 0) 400 rfl (auto_) (auto_) l1 ?_
   rintro u M' ⟨rfl, rfl⟩
   refine ⟨idB ++ [(6, .old 220), (221, .old 221)], bdL p q sch vars rows ++ [(6, .box 154 [.row 221 vars.length 1, .int .i64 g.bound.c]), (221, .row 3 0 encI (vars.map e2))], .tup [], rfl, (auto_), trivial, ?_⟩
   conv=>whnf
   repeat' ((first|refine nI ?_|refine aI ?_|refine tI ?_|refine fI ?_|fail);conv=>whnf)
   as_aux_lemma =>
   refine drawQ [0, 1, 2, 3, 8, 9] (by decide +kernel) ?_
   conv=>whnf
   repeat' first
    |exact True.intro
    |(refine And.intro ?_ ?_ <;> conv=>whnf)
    |(refine bldI row0 encRw [rwL vars (e2, g.bound.c - 1)] rfl ?_; conv=>whnf)
    |(refine leakN ?_; conv=>whnf)
    |(refine appI [rwL vars (e2, g.bound.c - 1)] rfl lI ?_; conv=>whnf)
    |exact rfl
    |exact (List.length_append ..).symm
    |fail
end Go.Proofs.YtnjggjhkfncnlaaGreatDoor
